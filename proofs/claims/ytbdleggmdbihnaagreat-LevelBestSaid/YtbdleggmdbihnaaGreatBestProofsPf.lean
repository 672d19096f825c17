/- LevelBest: the walk. -/
import Derived.Test.YtbdleggmdbihnaaGreatBestProofsPe
/- Calls whose answer is frozen: what a copy hands back speaks of no memory. -/
namespace Go.Proofs.YtbdleggmdbihnaaGreat
open Go.RowKit
set_option linter.unusedVariables false
def frzRun (run : List MV → Option (MV × MHeap)) (args : List MV) : Option (MV × MHeap) :=
 match run args with
 | some (m, news) => match frz 0 [] news 8 m with
  | some m' => some (m', [])
  | none => none
 | none => none
theorem post_frz {E : Env} {w : World} {m m' : MV} {news : MHeap} {e : Ending} {w' : World} (hr : HRel E [] w) (hf : frz 0 [] news 8 m = some m') (hP : Post E w m news e w') : Post E w m' [] e w' := by
 obtain ⟨v, E', rfl, h1, h2, h3⟩ := hP
 obtain ⟨S0, hS0⟩ : ∃ S0 : Nat → Prop, S0 = fun b => E'.S b ∨ ∃ id, E'.K id ∧ 0 < E'.cp id ∧ E'.ρ id = b := ⟨_, rfl⟩
 have hK : ∀ id, ¬ E.K id := fun id hk => absurd (hr.klt id hk) (by simp)
 have ht : E'.top = 0 := by rw [h3.top]; exact Nat.le_zero.1 hr.top
 refine ⟨v, { E' with K := fun _ => False, S := S0 }, rfl, ?_, ?_, ?_⟩
 ·refine frz_okG (Es := { E' with K := fun _ => False, S := S0 }) h2 (fun m v hv hl => V.env (E := E'.res 0) (E2 := { E' with K := fun _ => False, S := S0 }) ⟨fun b hb => (by rw [hS0]; exact .inl hb : S0 b), fun id hk => absurd hk.2 (by omega), rfl⟩ (hv.res hl)) (fun b hb => ?_) (fun id hk _ _ hc0 => ?_) 8 _ _ _ h1 hf
  ·show S0 b
   rw [hS0]; exact .inl hb
  ·show S0 (E'.ρ id)
   rw [hS0]; exact .inr ⟨id, hk, hc0, rfl⟩
 ·refine ⟨fun _ hk => hk.elim, by rw [show ({ E' with K := fun _ => False, S := S0 } : Env).top = E'.top from rfl, ht]; exact Nat.zero_le _, fun _ hk => hk.elim, fun _ _ hk => hk.elim, fun _ hk => hk.elim, fun b hb => ?_⟩
  have hb : S0 b := hb
  rw [hS0] at hb
  rcases hb with hb | ⟨id, hk, hc, rfl⟩
  ·exact h2.slt b hb
  ·exact h2.lt hk hc
 ·refine ⟨h3.os, h3.tape, h3.output, h3.size, h3.keep, fun b hb => (by rw [hS0]; exact .inl (h3.S b hb) : S0 b), fun id hk => absurd hk (hK id), fun id hk => absurd hk (hK id), fun id hk => absurd hk (hK id), fun id hk => hk.elim, h3.top, fun id hk => hk.elim, h3.yl, fun b hb => ?_⟩
  have hb : S0 b := hb
  rw [hS0] at hb
  rcases hb with hb | ⟨id, hk, hc, rfl⟩
  ·exact h3.srcS b hb
  ·rcases h3.src id hk hc with ⟨q, _⟩ | q
   ·exact absurd q (hK id)
   ·exact .inr (.inr q)
noncomputable def orC (L : List Nat) (k : Nat) : Oracle := fun f args h =>
 if L.contains f then frzCall (frzRun (tabZ MT tA (orA k) (itA k) 4000000 f)) args h else orA (k + 1) f args h
theorem orC_ok (L : List Nat) (k : Nat) : SoundO Tryz.prog (orC L k) ∧ AppO (orC L k) := by
 have hz := fun k => orZ_ok (N := 4000000) (P := Tryz.prog) (by kernel_rfl) (tabOf_ok Tryz.prog) tA_ok tI_ok k
 have hI : SoundI Tryz.prog (itA k) := orI_ok (by kernel_rfl) (tabOf_ok Tryz.prog) tI_ok (hz k).1 (hz k).2
 have hrun : ∀ f args' m news, frzRun (tabZ MT tA (orA k) (itA k) 4000000 f) args' = some (m, news) → hasBody Tryz.prog f = true ∧ ∀ E w vs, HRel E [] w → Vs E w args' vs → Calls Tryz.prog f vs.toArray w (Post E w m news) := fun f args' m news he => by
  unfold frzRun at he
  split at he
  case h_2 => cases he
  rename_i m0 n0 h0
  split at he
  case h_2 => cases he
  rename_i m1 h1
  cases he
  obtain ⟨hb, hc⟩ := tabZ_ok (by kernel_rfl) (tabOf_ok Tryz.prog) tA_ok (hz k).1 (hz k).2 hI h0
  exact ⟨hb, fun E w vs hr hv => (hc E w vs hr hv).mono fun e w' hP => post_frz hr h1 hP⟩
 refine ⟨⟨fun f args h m h' he => ?_, tA_ok.2⟩, fun f args h m h' he => ?_⟩
 ·unfold orC at he
  split at he
  ·have hb : hasBody Tryz.prog f = true := by
    unfold frzCall at he
    split at he
    case h_2 => cases he
    split at he
    case h_2 => cases he
    rename_i hr
    exact (hrun _ _ _ _ hr).1
   exact ⟨hb, fun E w vs hr hv => frzCall_ok (fun args' m news hq => (hrun f args' m news hq).2) he hr hv⟩
  ·exact (hz (k + 1)).1.1 f args h m h' he
 ·unfold orC at he
  split at he
  ·exact frzCall_app he
  ·exact (hz (k + 1)).2 f args h m h' he
theorem orC_of {L : List Nat} {k f : Nat} {args : List MV} {h : MHeap} {r : MV × MHeap} (hf : L.contains f = false) (h1 : orA (k + 1) f args h = some r) : orC L k f args h = some r := by
 unfold orC
 rw [hf]
 exact h1
theorem orC_frz {L : List Nat} {k f : Nat} {args args' : List MV} {h : MHeap} {m m' : MV} {news : MHeap} (hf : L.contains f = true) (h1 : args.mapM (frz 0 [] h 8) = some args') (hT : tA f args' [] = none) (h2 : runZ MT (orA k) (itA k) 4000000 f args' [] = some (m, news))
  (h3 : frz 0 [] news 8 m = some m') (h4 : okV (ltL 0 args) m' = true) (h5 : shV h.length m' = m') : orC L k f args h = some (m', h) := by
 unfold orC
 rw [hf]
 have e : tabZ MT tA (orA k) (itA k) 4000000 f args' = some (m, news) := by unfold tabZ; rw [hT]; exact h2
 simp only [if_true, frzCall, h1, frzRun, e, h3, h4, okH, List.all_nil, Bool.and_self, h5, List.append_nil]
end Go.Proofs.YtbdleggmdbihnaaGreat

/- Small helpers about memory. -/
namespace Go.Proofs.YtbdleggmdbihnaaGreat
open Go.RowKit
set_option linter.unusedVariables false
structure Bx (p : Prop) : Prop where
 out : p
end Go.Proofs.YtbdleggmdbihnaaGreat

/- Copies of nets that are frozen; whether a slice has a number. -/
namespace Go.Proofs.YtbdleggmdbihnaaGreat
open Go.RowKit
set_option linter.unusedVariables false
set_option linter.unusedSimpArgs false
abbrev LZ : List Nat := [11]
theorem frz_cp (ls : List Ln) (cs : List Cr) : frz 0 [] (cpH ls cs) 8 (cpV 0 ls cs) = some (encN ⟨ls, cs⟩) := by
 cases ls with
 | nil =>
  cases cs with
  | nil => rfl
  | cons c cs => exact frzF_agg2 rfl (frzF_lt rfl) (frzF_arr (o := ⟨0, false, 6, (c :: cs).map encCr⟩) rfl rfl (by simp) (ltL_Cr 0 _) rfl)
 | cons l ls =>
  cases cs with
  | nil => exact frzF_agg2 rfl (frzF_arr (o := ⟨0, false, 2, (l :: ls).map encLn⟩) rfl rfl (by simp) (ltL_Ln 0 _) rfl) (frzF_lt rfl)
  | cons c cs => exact frzF_agg2 rfl (frzF_arr (o := ⟨0, false, 2, (l :: ls).map encLn⟩) rfl rfl (by simp) (ltL_Ln 0 _) rfl) (frzF_arr (o := ⟨0, false, 6, (c :: cs).map encCr⟩) rfl rfl (by simp) (ltL_Cr 0 _) rfl)
theorem Copy_cc (k : Nat) (n : Nt) (hb : BdN n) (h : MHeap) : orC LZ k 11 [encN n] h = some (encN n, h) :=
 orC_frz (args' := [encN n]) rfl (frzL_lt (by simp [ltL, MV.lt, ltL_Ln, ltL_Cr])) rfl (Copy_z k n hb) (frz_cp n.ls n.cs) (by simp [okV, ok1, MV.lt, ltL, ltL_Ln, ltL_Cr]) rfl
theorem mf_bHas : MT.mf 95 = some ⟨18, [(.tmp 4)], (.seq (.reg [⟨none, some 4, .mv (.c (.lit (.bool false)))⟩]) (.seq (.seq (.reg [⟨none, some 5, .mv (.c (.lit (.int .i64 0)))⟩]) (.block 0 (.loop [5, 0, 1] (.seq (.seq (.reg [⟨none, some 6, .mv (.s 5)⟩, ⟨none, some 7, .mv (.s 0)⟩, ⟨none, some 8, .len (.s 7)⟩, ⟨none, some 9, .bin .lss (.s 6) (.s 8)⟩]) (.cond (.s 9) .skip (.exit 0))) (.seq (.block 1 (.seq (.reg [⟨none, some 12, .mv (.s 0)⟩, ⟨none, some 13, .mv (.s 5)⟩, ⟨none, some 14, .ia 1 (.s 12) (.s 13)⟩, ⟨none, some 15, .ld none (.s 14)⟩, ⟨none, some 16, .mv (.s 1)⟩, ⟨none, some 17, .bin .eql (.s 15) (.s 16)⟩]) (.cond (.s 17) (.seq (.reg [⟨none, some 4, .mv (.c (.lit (.bool true)))⟩]) .ret) .skip))) (.reg [⟨none, some 10, .mv (.s 5)⟩, ⟨none, some 11, .bin .add (.s 10) (.c (.lit (.int .i64 1)))⟩, ⟨none, some 5, .mv (.s 11)⟩])))))) (.seq (.reg [⟨none, some 4, .mv (.c (.lit (.bool false)))⟩]) .ret)))⟩ := by kernel_rfl
theorem bHas_z (k : Nat) (xs : List Int) (z : Int) (hx : xs.length ≤ 1000) : runZ MT (orA k) (itA k) 4000000 95 [.sl (xs.map I64), I64 z] [] = some (Bo (xs.any (· == z)), []) := by
 have hl : (MV.sl (xs.map I64)).slen = some xs.length := by simp [MV.slen]
 refine runZ_of mf_bHas (by simp) ?_
 simp only [argsL]
 repeat (first | apply ef_seq | (apply ef_mv; exact rfl; exact rfl) | apply ef_nil | apply seqQ.normal | apply ef_block)
 refine ef_loop (α := Nat) (fun i => i ≤ xs.length ∧ xs.any (· == z) = (xs.drop i).any (· == z)) (fun i => [(5, I64 (i : Int)), (0, .sl (xs.map I64)), (1, I64 z)]) (fun _ => []) (fun i => xs.length - i) 0 [5, 0, 1] (fun _ => rfl) rfl ⟨by omega, rfl⟩ (by simp; omega) (by ((repeat (refine Hold.cons (by exact rfl) ?_)); exact Hold.nil)) rfl ?_
 rintro i ⟨hi, hz⟩
 by_cases hlt : i < xs.length
 ·have e1 := at_map I64 xs i hlt
  have HS := Lib.hid (drop_at xs i hlt)
  have HZ := Lib.hid hz
  clear hz
  generalize xs[i] = y at e1 HS
  by_cases h3 : y = z
  ·repeat (first | apply ef_seq | (apply ef_mv; exact rfl; exact rfl) | (apply ef_bin; (iterate 3 exact rfl); (exact cmp_t rfl (by first | exact rfl | (simp only [cmpP]; omega)))) | (apply ef_len; exact rfl; exact rfl; (assumption)) | (apply ef_ldr; exact rfl; exact rfl; (exact rfl)) | (apply ef_ias; (iterate 3 exact rfl); (omega); assumption; exact rfl) | apply ef_nil | apply seqQ.normal | apply loopQ.ret | apply ef_ret | apply seqQ.ret | apply blockQ.ret | apply ef_block | apply ef_skip | (apply ef_condt; exact rfl; (exact (rfl : true = true))))
   (refine fin1 rfl (by exact rfl) rfl ?_)
   rw [HZ.out, HS.out, List.any_cons, h3]; simp
  ·repeat (first | apply ef_seq | (apply ef_mv; exact rfl; exact rfl) | (apply ef_bin; (iterate 3 exact rfl); (first | exact cmp_t rfl (by first | exact rfl | (simp only [cmpP]; omega)) | exact cmp_f rfl (by simp only [cmpP]; omega) | ((with_reducible refine bin_add (wrap_of ?_ ?_)) <;> omega))) | (apply ef_len; exact rfl; exact rfl; (assumption)) | (apply ef_ldr; exact rfl; exact rfl; (exact rfl)) | (apply ef_ias; (iterate 3 exact rfl); (omega); assumption; exact rfl) | apply ef_nil | apply seqQ.normal | apply blockQ.normal | apply ef_block | apply ef_skip | (apply ef_condt; exact rfl; (exact (rfl : true = true))) | (apply ef_condf; exact rfl; (exact (rfl : false = false))))
   (refine loopQ.normal _ _ ⟨i + 1, ⟨hlt, by rw [HZ.out, HS.out, List.any_cons, show (y == z) = false by simpa using h3]; rfl⟩, (by first | (simp only; omega) | omega), by ((repeat (refine Hold.cons (by exact rfl) ?_)); exact Hold.nil), .inl (Nat.le_refl _), (by first | exact List.take_length | exact rfl)⟩)
 ·repeat (first | apply ef_seq | (apply ef_mv; exact rfl; exact rfl) | (apply ef_bin; (iterate 3 exact rfl); (exact cmp_f rfl (by simp only [cmpP]; omega))) | (apply ef_len; exact rfl; exact rfl; (assumption)) | apply ef_nil | apply seqQ.normal | apply loopQ.exit | apply ef_ret | apply ef_exit | apply seqQ.exit | apply blockQ.here | (apply ef_condf; exact rfl; (exact (rfl : false = false))))
  (refine fin1 rfl (by exact rfl) rfl ?_)
  rw [hz, List.drop_eq_nil_of_le (by omega)]; rfl
theorem bHas_c (k : Nat) (xs : List Int) (z : Int) (hx : xs.length ≤ 1000) (h : MHeap) {v : MV} (hv : frz 0 [] h 8 v = some (.sl (xs.map I64))) {t : Bool} (ht : xs.any (· == z) = t) : orA (k + 1) 95 [v, I64 z] h = some (Bo t, h) :=
 callL (args' := [.sl (xs.map I64), I64 z]) (by simp [List.mapM_cons, hv, frz_lt (m := I64 z) rfl]) rfl (by rw [← ht]; exact bHas_z k xs z hx)
end Go.Proofs.YtbdleggmdbihnaaGreat

/- Contracts of the document: residuals and the cost; corrections of which a set of lines is moved. -/
namespace Go.Proofs.YtbdleggmdbihnaaGreat
open Go.RowKit
set_option linter.unusedVariables false
set_option linter.unusedSimpArgs false
structure OkB (m : Nat) (c : List Int) : Prop where
 len : c.length = m
 bd : ∀ v, -40000000000 ≤ cAt c v ∧ cAt c v ≤ 40000000000
theorem resL_bd {n : Nt} (ok : OkN n) {c : List Int} (hc : OkB n.ls.length c) (v : Int) : -1000000000000 ≤ cAt (resL n c) v ∧ cAt (resL n c) v ≤ 1000000000000 := by
 unfold cAt resL
 rw [List.getD_eq_getElem?_getD, List.getElem?_map]
 cases hh : n.cs[v.toNat]? with
 | none => simp
 | some x =>
  have hx := (ok.rg x (List.mem_of_getElem? hh)).df
  have h1 := hc.bd x.ln
  have h2 := hc.bd x.ti
  simp only [Option.map_some, Option.getD_some, resI]
  omega
def costL (n : Nt) (c : List Int) : Int := wsU n.cs (resL n c) n.cs.length
theorem costL_P (n : Nt) (c : List Int) : costL n c = costP n.cs (cAt c) n.cs.length := by
 have : ∀ i, i ≤ n.cs.length → wsU n.cs (resL n c) i = costP n.cs (cAt c) i := fun i => by
  induction i with
  | zero => intro _; rfl
  | succ i ih =>
   intro hi
   have e : cAt (resL n c) i = resP (n.cs.getD i default) (cAt c) := by
    show (List.map _ n.cs).getD ((i : Nat) : Int).toNat 0 = _
    rw [List.getD_eq_getElem?_getD, Int.toNat_natCast, List.getElem?_map, List.getElem?_eq_getElem (by omega), List.getD_eq_getElem?_getD, List.getElem?_eq_getElem (by omega)]; rfl
   rw [wsU, costP, ih (by omega), e]
 exact this _ (Nat.le_refl _)
theorem mf_rRes : MT.mf 33 = some ⟨38, [(.tmp 4)], (.seq (.reg [⟨none, some 2, .box 2 (.s 0)⟩, ⟨none, some 4, .nil0 1⟩]) (.seq (.reg [⟨none, some 5, .nil0 1⟩]) (.seq (.seq (.reg [⟨none, some 6, .mv (.c (.lit (.int .i64 0)))⟩]) (.block 0 (.loop [6, 2, 5, 1] (.seq (.seq (.reg [⟨none, some 8, .mv (.s 6)⟩, ⟨none, some 9, .fa 1 (.s 2)⟩, ⟨none, some 10, .ld none (.s 9)⟩, ⟨none, some 11, .len (.s 10)⟩, ⟨none, some 12, .bin .lss (.s 8) (.s 11)⟩]) (.cond (.s 12) .skip (.exit 0))) (.seq (.block 1 (.seq (.reg [⟨none, some 15, .fa 1 (.s 2)⟩, ⟨none, some 16, .ld none (.s 15)⟩, ⟨none, some 17, .mv (.s 6)⟩, ⟨none, some 18, .ia 6 (.s 16) (.s 17)⟩, ⟨none, some 19, .ld (some 6) (.s 18)⟩, ⟨none, some 7, .new (.agg [(.lit (.int .i64 0)), (.lit (.int .i64 0)), (.lit (.int .i64 0)), (.lit (.int .i64 0)), (.lit (.int .i64 0)), (.lit (.int .i64 0))])⟩, ⟨none, none, .st 6 (.s 7) (.s 19)⟩]) (.reg [⟨none, some 20, .mv (.s 5)⟩, ⟨none, some 21, .fa 4 (.s 7)⟩, ⟨none, some 22, .ld none (.s 21)⟩, ⟨none, some 23, .mv (.s 1)⟩, ⟨none, some 24, .fa 0 (.s 7)⟩, ⟨none, some 25, .ld none (.s 24)⟩, ⟨none, some 26, .ia 1 (.s 23) (.s 25)⟩, ⟨none, some 27, .ld none (.s 26)⟩, ⟨none, some 28, .bin .sub (.s 22) (.s 27)⟩, ⟨none, some 29, .mv (.s 1)⟩, ⟨none, some 30, .fa 1 (.s 7)⟩, ⟨none, some 31, .ld none (.s 30)⟩, ⟨none, some 32, .ia 1 (.s 29) (.s 31)⟩, ⟨none, some 33, .ld none (.s 32)⟩, ⟨none, some 34, .bin .add (.s 28) (.s 33)⟩, ⟨none, some 35, .bsl (.lit (.int .i64 0)) 1 1 [(0, (.s 34))]⟩, ⟨none, some 36, .app 1 (.s 20) (.s 35)⟩, ⟨none, some 5, .mv (.s 36)⟩]))) (.reg [⟨none, some 13, .mv (.s 6)⟩, ⟨none, some 14, .bin .add (.s 13) (.c (.lit (.int .i64 1)))⟩, ⟨none, some 6, .mv (.s 14)⟩])))))) (.seq (.reg [⟨none, some 37, .mv (.s 5)⟩, ⟨none, some 4, .mv (.s 37)⟩]) .ret))))⟩ := by kernel_rfl
set_option maxHeartbeats 1000000 in
theorem rRes_z (k : Nat) (n : Nt) (ok : OkN n) (c : List Int) (hc : OkB n.ls.length c) :
  runZ MT (orA k) (itA k) 4000000 33 [encN n, .sl (c.map I64)] [] = some (.arr 0 0 n.cs.length 0, [⟨0, decide (n.cs.length = 0), 1, (resL n c).map I64⟩]) := by
 have hs2 : (MV.sl (n.cs.map encCr)).slen = some n.cs.length := by simp [MV.slen]
 have hrl : (resL n c).length = n.cs.length := by simp [resL]
 have c16 := ok.c16
 refine runZ_of mf_rRes (by simp) ?_
 simp only [argsL]
 repeat (first | apply ef_seq | (apply ef_mv; exact rfl; exact rfl) | (apply ef_box; (iterate 4 exact rfl)) | (apply ef_nil0; exact rfl) | apply ef_nil | apply seqQ.normal | apply ef_block)
 refine ef_loopf (α := Nat) (fun i => i ≤ n.cs.length) (fun i => [(6, I64 (i : Int)), (5, .arr 2 0 i i)]) [(2, .ptr 0 0 0 0), (1, .sl (c.map I64))] (fun i => [⟨0, false, 2, [encN n]⟩, ⟨0, true, 1, []⟩, rowO (resL n c) i]) (fun i => n.cs.length - i) 0 [6, 5] (fun _ => rfl) (by ((repeat (refine Hold.cons (by exact rfl) ?_)); exact Hold.nil)) (by ((repeat (refine Hold.cons (by exact rfl) ?_)); exact Hold.nil)) rfl rfl (by omega) (by simp; omega) ?_
 intro i hi
 try simp only at hi ⊢
 by_cases hlt : i < n.cs.length
 ·have e1 := at_map encCr n.cs i hlt
  have hxx := ok.rg n.cs[i] (List.getElem_mem hlt)
  have HT := row_next (xs := resL n c) (i := i) (z := resI c n.cs[i]) (by simp [resL, hlt])
  have hri : resI c n.cs[i] = n.cs[i].df - cAt c n.cs[i].ln + cAt c n.cs[i].ti := rfl
  generalize n.cs[i] = x at e1 hxx HT hri
  have f1 := cAt_at hc.len hxx.l0 hxx.l1
  have f2 := cAt_at hc.len hxx.t0 hxx.t1
  have g1 := hc.bd x.ln
  have g2 := hc.bd x.ti
  have g3 := hxx.df
  have g4 := hxx.l0
  have g5 := hxx.t0
  have g6 := hxx.l1
  have g7 := hxx.t1
  have hcl := hc.len
  generalize cAt c x.ln = u at *
  generalize cAt c x.ti = w at *
  rw [hri] at HT
  repeat (first | apply ef_seq | (apply ef_mv; exact rfl; exact rfl) | (apply ef_bin; (iterate 3 exact rfl); (first | exact cmp_t rfl (by first | exact rfl | (simp only [cmpP]; omega)) | ((with_reducible refine bin_add (wrap_of ?_ ?_)) <;> omega) | ((with_reducible refine bin_sub (wrap_of ?_ ?_)) <;> omega))) | (apply ef_len; exact rfl; exact rfl; (assumption)) | (apply ef_ldr; exact rfl; exact rfl; (first | exact rd_6 rfl rfl rfl rfl rfl rfl | exact rfl)) | (apply ef_ldp; exact rfl; exact rfl; (exact rfl); exact rfl; (exact rfl); (exact rfl)) | (apply ef_ias; (iterate 3 exact rfl); (omega); assumption; exact rfl) | (apply ef_fap; exact rfl; exact rfl) | (apply ef_new; exact rfl) | (apply ef_bsl; exact rfl; (repeat (apply XVs.cons; exact rfl)); exact XVs.nil; exact rfl) | (apply ef_st; (iterate 6 exact rfl); (exact rfl); exact rfl) | apply ef_nil | apply seqQ.normal | apply ef_block | apply ef_skip | (apply ef_condt; exact rfl; (exact (rfl : true = true))))
  (apply ef_app; (· exact rfl); (· exact rfl); (· exact rfl); (· exact rfl); (· exact rfl); (· exact rfl); (· (simp [rowL_len (xs := resL n c) (i := i) (by omega)])); (· exact rfl); (· (simp [rowL_len (xs := resL n c) (i := i) (by omega)]; omega)); (· (simp [MV.sOk, MV.cells, MV.one, Value.oneCell'])); (· exact rfl))
  repeat (first | (apply ef_mv; exact rfl; exact rfl) | (apply ef_bin; (iterate 3 exact rfl); (((with_reducible refine bin_add (wrap_of ?_ ?_)) <;> omega))) | apply ef_nil | apply seqQ.normal | apply blockQ.normal)
  (refine loopQ.normal _ _ ⟨i + 1, hlt, (by first | (simp only; omega) | omega), ⟨by ((repeat (refine Hold.cons (by exact rfl) ?_)); exact Hold.nil), by ((repeat (refine Hold.cons (by exact rfl) ?_)); exact Hold.nil)⟩, .inr ⟨by ((repeat (refine hdl_cons rfl (by first | rfl | (simp [MV.lt, ltL, ltL_Ln, ltL_Cr, ltL_I, ltL_row, ltL_app2])) ?_)); exact hdl_nil), by (simp [hltL, ltL, MV.lt, ltL, ltL_Ln, ltL_Cr, ltL_I, ltL_row, ltL_app2])⟩, by (show _ = ([⟨0, false, 2, [encN n]⟩, ⟨0, true, 1, []⟩, (⟨i + 1, decide (i + 1 = 0), 1, rowL (resL n c) (i + 1)⟩ : MObj)] : MHeap); rw [HT]; exact rfl)⟩)
 ·obtain rfl : i = n.cs.length := by omega
  have hra := row_all (resL n c)
  rw [hrl] at hra
  repeat (first | apply ef_seq | (apply ef_mv; exact rfl; exact rfl) | (apply ef_bin; (iterate 3 exact rfl); (exact cmp_f rfl (by simp only [cmpP]; omega))) | (apply ef_len; exact rfl; exact rfl; (assumption)) | (apply ef_ldp; exact rfl; exact rfl; (exact rfl); exact rfl; (exact rfl); (exact rfl)) | (apply ef_fap; exact rfl; exact rfl) | apply ef_nil | apply seqQ.normal | apply loopQ.exit | apply ef_ret | apply ef_exit | apply seqQ.exit | apply blockQ.here | (apply ef_condf; exact rfl; (exact (rfl : false = false))))
  (apply fin_arr; (· exact rfl); (· exact rfl); (· exact rfl); (· exact rfl); (· (show 0 + n.cs.length ≤ (rowL (resL n c) n.cs.length).length; rw [hra]; simp [hrl])); (· (exact ltL_row 0 _ _)); (· (show ((rowL (resL n c) n.cs.length).drop 0).take n.cs.length = _; rw [hra, List.drop_zero, List.take_of_length_le (by simp [hrl])])); (· exact rfl); (· exact rfl); (· rfl))
theorem rRes_c (k : Nat) (n : Nt) (ok : OkN n) (c : List Int) (hc : OkB n.ls.length c) (h : MHeap) {v : MV} (hv : frz 0 [] h 8 v = some (.sl (c.map I64))) :
  orA (k + 1) 33 [encN n, v] h = some (.arr h.length 0 n.cs.length 0, h ++ [⟨0, decide (n.cs.length = 0), 1, (resL n c).map I64⟩]) := by
 have := callA (k := k) (h := h) (args := [encN n, v]) (args' := [encN n, .sl (c.map I64)]) (by simp [List.mapM_cons, hv, frz_lt (ltL_N n 0)]) rfl (rRes_z k n ok c hc) rfl (by simp [okH, ltL_I, pureL_I])
 simpa [shV, sh1] using this
theorem mf_rCost : MT.mf 34 = some ⟨10, [(.tmp 4)], (.seq (.reg [⟨none, some 2, .box 2 (.s 0)⟩, ⟨none, some 4, .mv (.c (.lit (.int .i64 0)))⟩]) (.seq (.reg [⟨none, some 5, .ld (some 2) (.s 2)⟩, ⟨none, some 6, .ld (some 2) (.s 2)⟩, ⟨none, some 7, .mv (.s 1)⟩, ⟨none, some 8, .call 33 [.s 6, .s 7]⟩, ⟨none, some 9, .call 86 [.s 5, .s 8]⟩, ⟨none, some 4, .mv (.s 9)⟩]) .ret))⟩ := by kernel_rfl
theorem rCost_c (k : Nat) (n : Nt) (ok : OkN n) (c : List Int) (hc : OkB n.ls.length c) (h : MHeap) {v : MV} (hv : frz 0 [] h 8 v = some (.sl (c.map I64))) :
  orA (k + 3) 34 [encN n, v] h = some (I64 (costL n c), h) := by
 refine callL (args' := [encN n, .sl (c.map I64)]) (by simp [List.mapM_cons, hv, frz_lt (ltL_N n 0)]) rfl (runZ_of mf_rCost (by simp) ?_)
 simp only [argsL]
 have hrl : (resL n c).length = n.cs.length := by simp [resL]
 have w1 := fun h => rRes_c (k + 1) n ok c hc h (v := .sl (c.map I64)) (frz_sl (ltL_I 0 c))
 have w2 := fun h v hv => SumOf_c k n ok (resL n c) hrl (resL_bd ok hc) h (v := v) hv
 unfold costL
 generalize wsU n.cs (resL n c) n.cs.length = ws at *
 repeat (first | apply ef_seq | (apply ef_mv; exact rfl; exact rfl) | (apply ef_ldp; exact rfl; exact rfl; (exact rfl); exact rfl; (exact rfl); (exact rd_2 rfl rfl)) | (apply ef_box; (iterate 4 exact rfl)) | apply ef_nil | apply seqQ.normal | (apply ef_call; exact rfl; ((repeat (apply XVs.cons; exact rfl)); exact XVs.nil); (with_reducible exact w1 _)))
 (apply ef_call; (· exact rfl); (· ((repeat (apply XVs.cons; exact rfl)); exact XVs.nil)); · exact w2 _ _ (frz_row (o := ⟨0, decide (n.cs.length = 0), 1, (resL n c).map I64⟩) rfl rfl (by simp [hrl]) (ltL_I 0 _) rfl))
 repeat (first | (apply ef_mv; exact rfl; exact rfl) | apply ef_nil | apply seqQ.normal | apply ef_ret)
 (refine fin1 rfl (by exact rfl) rfl ?_)
 rfl
theorem shr_ok (s i : Nat) (hi : i ≤ 60) : shfI .shr .i64 (s : Int) (i : Int) = some (.int .i64 ((s / 2 ^ i : Nat) : Int)) := by
 have h1 : ¬ ((i : Int) < 0) := by omega
 have h2 : min ((i : Int)).toNat IntKind.i64.bits = i := by simp [IntKind.bits]; omega
 unfold shfI
 rw [if_neg h1]
 simp only [h2]
 rw [Int.fdiv_eq_ediv_of_nonneg _ (by exact Int.le_of_lt (Int.pow_pos (by omega)))]
 norm_cast
theorem and_ok (s i : Nat) (hs : s < 2 ^ 60) : binI .and .i64 ((s / 2 ^ i : Nat) : Int) 1 = some (.int .i64 (if s.testBit i then 1 else 0)) := by
 have h1 : s / 2 ^ i < 2 ^ 60 := Nat.lt_of_le_of_lt (Nat.div_le_self _ _) hs
 rw [Nat.testBit_eq_decide_div_mod_eq]
 generalize s / 2 ^ i = q at *
 have h2 : (BitVec.ofInt IntKind.i64.bits (q : Int) &&& BitVec.ofInt IntKind.i64.bits 1).toNat = q % 2 := by
  show (BitVec.ofInt 64 (q : Int) &&& BitVec.ofInt 64 1).toNat = q % 2
  rw [BitVec.toNat_and, BitVec.toNat_ofInt, BitVec.toNat_ofInt]
  have e1 : ((q : Int) % ((2 ^ 64 : Nat) : Int)).toNat = q := by omega
  have e2 : ((1 : Int) % ((2 ^ 64 : Nat) : Int)).toNat = 1 := by decide
  rw [e1, e2, Nat.and_one_is_mod]
 simp only [binI, h2]
 rcases Nat.mod_two_eq_zero_or_one q with h | h <;> rw [h] <;> rfl
theorem shl_ok (m : Nat) (h : m ≤ 8) : shfI .shl .i64 1 (m : Int) = some (.int .i64 ((2 ^ m : Nat) : Int)) := by
 obtain rfl | rfl | rfl | rfl | rfl | rfl | rfl | rfl | rfl : m = 0 ∨ m = 1 ∨ m = 2 ∨ m = 3 ∨ m = 4 ∨ m = 5 ∨ m = 6 ∨ m = 7 ∨ m = 8 := by omega
 all_goals rfl
end Go.Proofs.YtbdleggmdbihnaaGreat

/- Contracts of the document: corrections of which a set of lines is moved. -/
namespace Go.Proofs.YtbdleggmdbihnaaGreat
open Go.RowKit
set_option linter.unusedVariables false
set_option linter.unusedSimpArgs false
def mvU (c : List Int) (s : Nat) (b : Int) : Nat → List Int
 | 0 => c
 | i + 1 => if 1 ≤ i ∧ s.testBit i = true then (mvU c s b i).set i (cAt c i + b) else mvU c s b i
theorem mvU_len (c : List Int) (s : Nat) (b : Int) : ∀ i, (mvU c s b i).length = c.length
 | 0 => rfl
 | i + 1 => by
  rw [mvU]
  split
  ·rw [List.length_set, mvU_len c s b i]
  ·exact mvU_len c s b i
theorem mvU_at (c : List Int) (s : Nat) (b : Int) : ∀ i, i ≤ c.length → ∀ v : Nat, cAt (mvU c s b i) v = if v < i ∧ 1 ≤ v ∧ s.testBit v = true then cAt c v + b else cAt c v
 | 0, _, v => by rw [if_neg (by omega)]; rfl
 | i + 1, hi, v => by
  have ih := mvU_at c s b i (by omega) v
  rw [mvU]
  by_cases h : 1 ≤ i ∧ s.testBit i = true
  ·rw [if_pos h]
   rw [cAt_setN (by rw [mvU_len]; omega)]
   by_cases e : v = i
   ·subst e
    rw [if_pos rfl, if_pos ⟨by omega, h⟩]
   ·rw [if_neg e, ih]
    by_cases h2 : v < i ∧ 1 ≤ v ∧ s.testBit v = true
    ·rw [if_pos h2, if_pos ⟨by omega, h2.2⟩]
    ·rw [if_neg h2, if_neg (fun h3 => h2 ⟨by omega, h3.2⟩)]
  ·rw [if_neg h, ih]
   by_cases e : v = i
   ·subst e
    rw [if_neg (by omega), if_neg (fun h3 => h h3.2)]
   ·by_cases h2 : v < i ∧ 1 ≤ v ∧ s.testBit v = true
    ·rw [if_pos h2, if_pos ⟨by omega, h2.2⟩]
    ·rw [if_neg h2, if_neg (fun h3 => h2 ⟨by omega, h3.2⟩)]
theorem mf_moved : MT.mf 96 = some ⟨32, [(.tmp 6)], (.seq (.reg [⟨none, some 6, .nil0 1⟩]) (.seq (.reg [⟨none, some 9, .mv (.s 0)⟩, ⟨none, some 10, .call 20 [.s 9]⟩, ⟨none, some 7, .mv (.s 10)⟩]) (.seq (.seq (.reg [⟨none, some 8, .mv (.c (.lit (.int .i64 1)))⟩]) (.block 0 (.loop [8, 0, 1, 7, 2] (.seq (.seq (.reg [⟨none, some 11, .mv (.s 8)⟩, ⟨none, some 12, .mv (.s 0)⟩, ⟨none, some 13, .len (.s 12)⟩, ⟨none, some 14, .bin .lss (.s 11) (.s 13)⟩]) (.cond (.s 14) .skip (.exit 0))) (.seq (.block 1 (.seq (.reg [⟨none, some 17, .mv (.s 1)⟩, ⟨none, some 18, .mv (.s 8)⟩, ⟨none, some 19, .shf .shr (.s 17) (.s 18)⟩, ⟨none, some 20, .bin .and (.s 19) (.c (.lit (.int .i64 1)))⟩, ⟨none, some 21, .bin .eql (.s 20) (.c (.lit (.int .i64 1)))⟩]) (.cond (.s 21) (.reg [⟨none, some 22, .mv (.s 7)⟩, ⟨none, some 23, .mv (.s 8)⟩, ⟨none, some 24, .mv (.s 7)⟩, ⟨none, some 25, .mv (.s 8)⟩, ⟨none, some 26, .ia 1 (.s 24) (.s 25)⟩, ⟨none, some 27, .ld none (.s 26)⟩, ⟨none, some 28, .mv (.s 2)⟩, ⟨none, some 29, .bin .add (.s 27) (.s 28)⟩, ⟨none, some 30, .ia 1 (.s 22) (.s 23)⟩, ⟨none, none, .st 1 (.s 30) (.s 29)⟩]) .skip))) (.reg [⟨none, some 15, .mv (.s 8)⟩, ⟨none, some 16, .bin .add (.s 15) (.c (.lit (.int .i64 1)))⟩, ⟨none, some 8, .mv (.s 16)⟩])))))) (.seq (.reg [⟨none, some 31, .mv (.s 7)⟩, ⟨none, some 6, .mv (.s 31)⟩]) .ret))))⟩ := by kernel_rfl
set_option maxHeartbeats 1000000 in
theorem moved_z (k : Nat) (c : List Int) (s : Nat) (b : Int) (h1 : 0 < c.length) (h8 : c.length ≤ 8) (hs : s < 2 ^ 60) (hcb : ∀ v, -40000000000 ≤ cAt c v ∧ cAt c v ≤ 40000000000) (hb : -40000000000 ≤ b ∧ b ≤ 40000000000) :
  runZ MT (orA (k + 1)) (itA (k + 1)) 4000000 96 [.sl (c.map I64), I64 (s : Int), I64 b] [] = some (.arr 0 0 c.length 0, [⟨0, false, 1, (mvU c s b c.length).map I64⟩]) := by
 have hs3 : (MV.sl (c.map I64)).slen = some c.length := by simp [MV.slen]
 have w1 := fun h => bCopyInts_c k c h (v := .sl (c.map I64)) (by omega) (frz_sl (ltL_I 0 c))
 refine runZ_of mf_moved (by simp) ?_
 simp only [argsL]
 repeat (first | apply ef_seq | (apply ef_mv; exact rfl; exact rfl) | (apply ef_nil0; exact rfl) | apply ef_nil | apply seqQ.normal | apply ef_block | (apply ef_call; exact rfl; ((repeat (apply XVs.cons; exact rfl)); exact XVs.nil); (with_reducible exact w1 _)))
 refine ef_loopf (α := Nat × List MV) (fun p => (1 ≤ p.1 ∧ p.1 ≤ c.length) ∧ p.2 = (mvU c s b p.1).map I64) (fun p => [(8, I64 (p.1 : Int))]) [(0, .sl (c.map I64)), (1, I64 (s : Int)), (7, .arr 1 0 c.length 0), (2, I64 b)] (fun p => [⟨0, true, 1, []⟩, ⟨0, false, 1, p.2⟩]) (fun p => c.length - p.1) (1, c.map I64) [8] (fun _ => rfl) (by ((repeat (refine Hold.cons (by exact rfl) ?_)); exact Hold.nil)) (by ((repeat (refine Hold.cons (by exact rfl) ?_)); exact Hold.nil)) rfl rfl ⟨by simp; omega, rfl⟩ (by simp; omega) ?_
 rintro ⟨i, rs⟩ ⟨⟨hi0, hi⟩, hrs⟩
 try simp only at hi0 hi hrs ⊢
 have hrl : rs.length = c.length := by rw [hrs]; simp [mvU_len]
 by_cases hlt : i < c.length
 ·have hsh := shr_ok s i (by omega)
  have hand := and_ok s i hs
  have e2 : rs[0 + ((i : Nat) : Int).toNat]? = some (I64 (cAt c i)) := by
   have hm := mvU_at c s b i (by omega) i
   rw [if_neg (by omega)] at hm
   rw [hrs, Nat.zero_add, cAt_at (m := c.length) (mvU_len c s b i) (by omega) (by omega), hm]
  have hci := hcb i
  have HN := Lib.hid (show mvU c s b (i + 1) = if 1 ≤ i ∧ s.testBit i = true then (mvU c s b i).set i (cAt c i + b) else mvU c s b i from rfl)
  generalize cAt c (i : Int) = z at e2 hci HN
  generalize s / 2 ^ i = q at *
  cases ht : s.testBit i
  ·rw [ht] at hand HN
   simp only [Bool.false_eq_true, if_false] at hand
   repeat (first | apply ef_seq | (apply ef_mv; exact rfl; exact rfl) | (apply ef_bin; (iterate 3 exact rfl); (first | assumption | exact cmp_t rfl (by first | exact rfl | (simp only [cmpP]; omega)) | exact cmp_f rfl (by simp only [cmpP]; omega) | ((with_reducible refine bin_add (wrap_of ?_ ?_)) <;> omega))) | (apply ef_len; exact rfl; exact rfl; (assumption)) | (apply ef_shf; (iterate 3 exact rfl); (assumption)) | apply ef_nil | apply seqQ.normal | apply blockQ.normal | apply ef_block | apply ef_skip | (apply ef_condt; exact rfl; (exact (rfl : true = true))) | (apply ef_condf; exact rfl; (exact (rfl : false = false))))
   (refine loopQ.normal _ _ ⟨(i + 1, rs), ⟨⟨by omega, hlt⟩, by rw [HN.out, if_neg (by simp)]; exact hrs⟩, (by first | (simp only; omega) | omega), ⟨by ((repeat (refine Hold.cons (by exact rfl) ?_)); exact Hold.nil), by ((repeat (refine Hold.cons (by exact rfl) ?_)); exact Hold.nil)⟩, .inl (Nat.le_refl _), (by first | exact List.take_length | exact rfl | exact takeF rfl rfl)⟩)
  ·rw [ht] at hand HN
   simp only [if_true] at hand
   repeat (first | apply ef_seq | (apply ef_mv; exact rfl; exact rfl) | (apply ef_bin; (iterate 3 exact rfl); (first | assumption | exact cmp_t rfl (by first | exact rfl | (simp only [cmpP]; omega)) | ((with_reducible refine bin_add (wrap_of ?_ ?_)) <;> omega))) | (apply ef_len; exact rfl; exact rfl; (assumption)) | (apply ef_ldp; exact rfl; exact rfl; (exact rfl); exact rfl; (assumption); (exact rfl)) | (apply ef_iaa; (iterate 3 exact rfl); (omega); (omega); (exact rfl)) | (apply ef_shf; (iterate 3 exact rfl); (assumption)) | (apply ef_st; (iterate 6 exact rfl); (assumption); exact rfl) | apply ef_nil | apply seqQ.normal | apply blockQ.normal | apply ef_block | apply ef_skip | (apply ef_condt; exact rfl; (exact (rfl : true = true))))
   (refine loopQ.normal _ _ ⟨(i + 1, rs.set (0 + ((i : Nat) : Int).toNat) (I64 (z + b))), ⟨⟨by omega, hlt⟩, by rw [HN.out, if_pos ⟨hi0, rfl⟩, hrs, Nat.zero_add, Int.toNat_natCast, List.map_set]⟩, (by first | (simp only; omega) | omega), ⟨by ((repeat (refine Hold.cons (by exact rfl) ?_)); exact Hold.nil), by ((repeat (refine Hold.cons (by exact rfl) ?_)); exact Hold.nil)⟩, .inl (Nat.le_refl _), (by first | exact List.take_length | exact rfl | exact takeF rfl rfl)⟩)
 ·obtain rfl : i = c.length := by omega
  have hlr : ltL 0 rs = true := by rw [hrs]; exact ltL_I 0 _
  repeat (first | apply ef_seq | (apply ef_mv; exact rfl; exact rfl) | (apply ef_bin; (iterate 3 exact rfl); (exact cmp_f rfl (by simp only [cmpP]; omega))) | (apply ef_len; exact rfl; exact rfl; (assumption)) | apply ef_nil | apply seqQ.normal | apply loopQ.exit | apply ef_ret | apply ef_exit | apply seqQ.exit | apply blockQ.here | (apply ef_condf; exact rfl; (exact (rfl : false = false))))
  (apply fin_arr; (· exact rfl); (· exact rfl); (· exact rfl); (· exact rfl); (· (show 0 + c.length ≤ rs.length; omega)); (· exact hlr); (· (show (rs.drop 0).take c.length = _; rw [List.drop_zero, List.take_of_length_le (by omega)]; exact hrs)); (· exact rfl); (· exact rfl); (· rfl))
theorem moved_c (k : Nat) (c : List Int) (s : Nat) (b : Int) (h1 : 0 < c.length) (h8 : c.length ≤ 8) (hs : s < 2 ^ 60) (hcb : ∀ v, -40000000000 ≤ cAt c v ∧ cAt c v ≤ 40000000000) (hb : -40000000000 ≤ b ∧ b ≤ 40000000000) (h : MHeap) {v : MV} (hv : frz 0 [] h 8 v = some (.sl (c.map I64))) :
  orA (k + 2) 96 [v, I64 (s : Int), I64 b] h = some (.arr h.length 0 c.length 0, h ++ [⟨0, false, 1, (mvU c s b c.length).map I64⟩]) := by
 have := callA (k := k + 1) (h := h) (args := [v, I64 (s : Int), I64 b]) (args' := [.sl (c.map I64), I64 (s : Int), I64 b]) (by simp [List.mapM_cons, hv, frz_lt (m := I64 (s : Int)) rfl, frz_lt (m := I64 b) rfl]) rfl (moved_z k c s b h1 h8 hs hcb hb) rfl (by simp [okH, ltL_I, pureL_I])
 simpa [shV, sh1] using this
end Go.Proofs.YtbdleggmdbihnaaGreat

/- Contracts of the document: a set of lines that makes corrections cheaper, or as cheap and lower. -/
namespace Go.Proofs.YtbdleggmdbihnaaGreat
open Go.RowKit
set_option linter.unusedVariables false
set_option linter.unusedSimpArgs false
section
variable {O : Oracle} {I : Iter} {N n : Nat}
theorem runZ_ofE {α : Type} {M : Tab} {f : Nat} {rs : List MRes} {b : MC} {args : List MV} {p : α → Prop} {m : α → MV} {news : α → MHeap} (hmf : M.mf f = some ⟨n, rs, b⟩) (hn : args.length ≤ n)
  (hE : Ef O I N n (fun _ => false) b (argsL 0 args) [] (fun x A h => ∃ a, p a ∧ FinF rs (m a) (news a) x A h)) : ∃ a, p a ∧ runZ M O I N f args [] = some (m a, news a) := by
 obtain ⟨x, s', h', k1, A', k2, a, hp, hx, vs, vs', r1, r2, r3, r4⟩ := hE.run (args ++ List.replicate (n - args.length) (.lit undef)) ⟨by simp; omega, fun t v ht => by
  obtain ⟨_, h1⟩ := look_args _ _ _ _ ht
  rw [Nat.sub_zero] at h1
  have hl := (List.getElem?_eq_some_iff.1 h1).1
  rw [List.getD_eq_getElem?_getD, List.getElem?_append_left hl, h1]
  rfl⟩
 refine ⟨a, hp, ?_⟩
 unfold runZ
 rw [hmf]
 unfold runF
 have elk : (fun id => decide (id < ([] : MHeap).length)) = fun _ => false := by funext id; simp
 dsimp only
 rw [elk, k1]
 have hx' : x = .ret ∨ x = .normal := by cases x <;> simp [outX] at hx <;> simp
 dsimp only
 obtain ⟨o1, o2⟩ := r1.opn
 rw [if_pos hx', ResVs.ok k2 r1]
 simp only [List.length_nil, o1, o2, r2, if_true, r3, r4, List.nil_append]
end
def NoB (n : Nt) (c : List Int) (st : Int) (d : Bool) (s : Nat) : Prop :=
 (d = false → costL n c ≤ costL n (mvU c s st c.length) ∧ costL n c ≤ costL n (mvU c s (0 - st) c.length)) ∧ (d = true → costL n (mvU c s (0 - st) c.length) ≠ costL n c)
def BtR (n : Nt) (c : List Int) (st : Int) (d : Bool) : Option (List Int) → Prop
 | none => ∀ s, 2 ≤ s → s % 2 = 0 → s < 2 ^ n.ls.length → NoB n c st d s
 | some x => ∃ (s : Nat) (b : Int), 2 ≤ s ∧ s % 2 = 0 ∧ s < 2 ^ n.ls.length ∧ x = mvU c s b c.length ∧ ((d = false ∧ (b = st ∨ b = 0 - st) ∧ costL n x < costL n c) ∨ (d = true ∧ b = 0 - st ∧ costL n x = costL n c))
def btM (m : Nat) : Option (List Int) → MV
 | none => .tup [.arr 0 0 0 0, Bo false]
 | some _ => .tup [.arr 0 0 m 0, Bo true]
def btN : Option (List Int) → MHeap
 | none => [⟨0, true, 1, []⟩]
 | some x => [⟨0, false, 1, x.map I64⟩]
theorem mvU_ok {m : Nat} {c : List Int} (hl : c.length = m) (hcb : ∀ v, -30000000000 ≤ cAt c v ∧ cAt c v ≤ 30000000000) {s : Nat} {b : Int} (hb : -40000 ≤ b ∧ b ≤ 40000) : OkB m (mvU c s b c.length) := by
 refine ⟨by rw [mvU_len]; exact hl, fun v => ?_⟩
 have e : ∀ l : List Int, cAt l v = cAt l ((v.toNat : Nat) : Int) := fun l => by unfold cAt; rw [Int.toNat_natCast]
 rw [e, mvU_at c s b _ (Nat.le_refl _)]
 have := hcb ((v.toNat : Nat) : Int)
 split <;> omega
theorem pow_even {m : Nat} (h1 : 0 < m) (h8 : m ≤ 8) : (2 ^ m) % 2 = 0 ∧ 2 ≤ 2 ^ m ∧ 2 ^ m ≤ 256 := by
 obtain rfl | rfl | rfl | rfl | rfl | rfl | rfl | rfl : m = 1 ∨ m = 2 ∨ m = 3 ∨ m = 4 ∨ m = 5 ∨ m = 6 ∨ m = 7 ∨ m = 8 := by omega
 all_goals decide
theorem mf_better : MT.mf 48 = some ⟨64, [(.tmp 8), (.tmp 9)], (.seq (.reg [⟨none, some 4, .box 2 (.s 0)⟩, ⟨none, some 8, .nil0 1⟩, ⟨none, some 9, .mv (.c (.lit (.bool false)))⟩]) (.seq (.reg [⟨none, some 15, .ld (some 2) (.s 4)⟩, ⟨none, some 16, .mv (.s 1)⟩, ⟨none, some 17, .call 34 [.s 15, .s 16]⟩, ⟨none, some 10, .mv (.s 17)⟩]) (.seq (.seq (.reg [⟨none, some 11, .mv (.c (.lit (.int .i64 2)))⟩]) (.block 0 (.loop [11, 4, 1, 2, 3, 10] (.seq (.seq (.reg [⟨none, some 18, .mv (.s 11)⟩, ⟨none, some 19, .fa 0 (.s 4)⟩, ⟨none, some 20, .ld none (.s 19)⟩, ⟨none, some 21, .len (.s 20)⟩, ⟨none, some 22, .shf .shl (.c (.lit (.int .i64 1))) (.s 21)⟩, ⟨none, some 23, .bin .lss (.s 18) (.s 22)⟩]) (.cond (.s 23) .skip (.exit 0))) (.seq (.block 1 (.seq (.seq (.reg [⟨none, some 26, .mv (.s 1)⟩, ⟨none, some 27, .mv (.s 11)⟩, ⟨none, some 28, .mv (.s 2)⟩, ⟨none, some 29, .call 96 [.s 26, .s 27, .s 28]⟩, ⟨none, some 12, .mv (.s 29)⟩]) (.seq (.reg [⟨none, some 30, .mv (.s 3)⟩, ⟨none, some 31, .un .not (.s 30)⟩, ⟨none, some 32, .mv (.s 31)⟩, ⟨some (32, true), some 33, .ld (some 2) (.s 4)⟩, ⟨some (32, true), some 34, .mv (.s 12)⟩, ⟨some (32, true), some 35, .call 34 [.s 33, .s 34]⟩, ⟨some (32, true), some 36, .mv (.s 10)⟩, ⟨some (32, true), some 37, .bin .lss (.s 35) (.s 36)⟩, ⟨none, some 38, .pick (.s 32) (.s 37) (.c (.lit (.bool false)))⟩]) (.cond (.s 38) (.seq (.reg [⟨none, some 39, .mv (.s 12)⟩, ⟨none, some 8, .mv (.s 39)⟩, ⟨none, some 9, .mv (.c (.lit (.bool true)))⟩]) .ret) .skip))) (.seq (.reg [⟨none, some 40, .mv (.s 1)⟩, ⟨none, some 41, .mv (.s 11)⟩, ⟨none, some 42, .mv (.s 2)⟩, ⟨none, some 43, .un .neg (.s 42)⟩, ⟨none, some 44, .call 96 [.s 40, .s 41, .s 43]⟩, ⟨none, some 13, .mv (.s 44)⟩]) (.seq (.reg [⟨none, some 45, .ld (some 2) (.s 4)⟩, ⟨none, some 46, .mv (.s 13)⟩, ⟨none, some 47, .call 34 [.s 45, .s 46]⟩, ⟨none, some 14, .mv (.s 47)⟩]) (.seq (.reg [⟨none, some 48, .mv (.s 3)⟩, ⟨none, some 49, .un .not (.s 48)⟩, ⟨none, some 50, .mv (.s 49)⟩, ⟨some (50, true), some 51, .mv (.s 14)⟩, ⟨some (50, true), some 52, .mv (.s 10)⟩, ⟨some (50, true), some 53, .bin .lss (.s 51) (.s 52)⟩, ⟨none, some 54, .pick (.s 50) (.s 53) (.c (.lit (.bool false)))⟩, ⟨none, some 55, .mv (.s 54)⟩, ⟨some (55, false), some 56, .mv (.s 3)⟩, ⟨some (55, false), some 57, .mv (.s 56)⟩, ⟨some (57, true), some 58, .mv (.s 14)⟩, ⟨some (57, true), some 59, .mv (.s 10)⟩, ⟨some (57, true), some 60, .bin .eql (.s 58) (.s 59)⟩, ⟨some (55, false), some 61, .pick (.s 57) (.s 60) (.c (.lit (.bool false)))⟩, ⟨none, some 62, .pick (.s 55) (.c (.lit (.bool true))) (.s 61)⟩]) (.cond (.s 62) (.seq (.reg [⟨none, some 63, .mv (.s 13)⟩, ⟨none, some 8, .mv (.s 63)⟩, ⟨none, some 9, .mv (.c (.lit (.bool true)))⟩]) .ret) .skip)))))) (.reg [⟨none, some 24, .mv (.s 11)⟩, ⟨none, some 25, .bin .add (.s 24) (.c (.lit (.int .i64 2)))⟩, ⟨none, some 11, .mv (.s 25)⟩])))))) (.seq (.reg [⟨none, some 8, .nil0 1⟩, ⟨none, some 9, .mv (.c (.lit (.bool false)))⟩]) .ret))))⟩ := by kernel_rfl
set_option maxHeartbeats 4000000 in
theorem better_z (k : Nat) (n : Nt) (ok : OkN n) (c : List Int) (hl : c.length = n.ls.length) (hcb : ∀ v, -30000000000 ≤ cAt c v ∧ cAt c v ≤ 30000000000) (st : Int) (hst : 1 ≤ st ∧ st ≤ 40000) (d : Bool) :
  ∃ r, BtR n c st d r ∧ runZ MT (orA (k + 3)) (itA (k + 3)) 4000000 48 [encN n, .sl (c.map I64), I64 st, Bo d] [] = some (btM c.length r, btN r) := by
 have hs1 : (MV.sl (n.ls.map encLn)).slen = some n.ls.length := by simp [MV.slen]
 have l1 := ok.l1
 have l8 := ok.l8
 have hshl := shl_ok n.ls.length l8
 obtain ⟨p0, p1, p2⟩ := pow_even l1 l8
 have okc : OkB n.ls.length c := ⟨hl, fun v => by have := hcb v; omega⟩
 have w0 := fun h => rCost_c k n ok c okc h (v := .sl (c.map I64)) (frz_sl (ltL_I 0 c))
 have hcb4 : ∀ v, -40000000000 ≤ cAt c v ∧ cAt c v ≤ 40000000000 := fun v => by have := hcb v; omega
 refine runZ_ofE (p := BtR n c st d) (m := btM c.length) (news := btN) mf_better (by simp) ?_
 simp only [argsL]
 have HR := Lib.hid (fun r => (show BtR n c st d r = BtR n c st d r from rfl))
 unfold BtR
 generalize hP : 2 ^ n.ls.length = P at *
 generalize hN : costL n c = now at w0
 repeat (first | apply ef_seq | (apply ef_mv; exact rfl; exact rfl) | (apply ef_ldp; exact rfl; exact rfl; (exact rfl); exact rfl; (exact rfl); (exact rd_2 rfl rfl)) | (apply ef_box; (iterate 4 exact rfl)) | (apply ef_nil0; exact rfl) | apply ef_nil | apply seqQ.normal | apply ef_block | (apply ef_call; exact rfl; ((repeat (apply XVs.cons; exact rfl)); exact XVs.nil); (with_reducible exact w0 _)))
 refine ef_loopf (α := Nat) (fun s => (2 ≤ s ∧ s % 2 = 0 ∧ s ≤ P) ∧ ∀ s', 2 ≤ s' → s' % 2 = 0 → s' < s → NoB n c st d s') (fun s => [(11, I64 (s : Int))]) [(4, .ptr 0 0 0 0), (1, .sl (c.map I64)), (2, I64 st), (3, Bo d), (10, I64 now)] (fun _ => [⟨0, false, 2, [encN n]⟩, ⟨0, true, 1, []⟩]) (fun s => P - s) 2 [11] (fun _ => rfl) (by ((repeat (refine Hold.cons (by exact rfl) ?_)); exact Hold.nil)) (by ((repeat (refine Hold.cons (by exact rfl) ?_)); exact Hold.nil)) rfl rfl ⟨⟨by omega, rfl, by omega⟩, fun s' h1 h2 h3 => by omega⟩ (by show P - 2 < 4000000; omega) ?_
 rintro s ⟨⟨hs2, hse, hsP⟩, hno⟩
 try simp only at hs2 hse hsP hno ⊢
 have hnoB := Bx.mk hno
 clear hno
 by_cases hlt : s < P
 ·have hs60 : s < 2 ^ 60 := by omega
  have w1 := fun h => moved_c (k + 1) c s st (by omega) (by omega) hs60 hcb4 (by omega) h (v := .sl (c.map I64)) (frz_sl (ltL_I 0 c))
  have w2 := fun h => moved_c (k + 1) c s (0 - st) (by omega) (by omega) hs60 hcb4 (by omega) h (v := .sl (c.map I64)) (frz_sl (ltL_I 0 c))
  have okX := mvU_ok (s := s) (b := st) hl hcb (by omega)
  have okY := mvU_ok (s := s) (b := 0 - st) hl hcb (by omega)
  have w3 := fun h v hv => rCost_c k n ok _ okX h (v := v) hv
  have w4 := fun h v hv => rCost_c k n ok _ okY h (v := v) hv
  have hNB := Bx.mk (show NoB n c st d s = ((d = false → now ≤ costL n (mvU c s st c.length) ∧ now ≤ costL n (mvU c s (0 - st) c.length)) ∧ (d = true → costL n (mvU c s (0 - st) c.length) ≠ now)) by rw [← hN]; rfl)
  have hX := Bx.mk (show mvU c s st c.length = mvU c s st c.length from rfl)
  obtain ⟨x1, hXe⟩ : ∃ x1, mvU c s st c.length = x1 := ⟨_, rfl⟩
  obtain ⟨y1, hYe⟩ : ∃ y1, mvU c s (0 - st) c.length = y1 := ⟨_, rfl⟩
  rw [hXe] at w1 w3 okX hNB
  rw [hYe] at w2 w4 okY hNB
  have hXl := okX.len
  have hYl := okY.len
  have HXe := Bx.mk hXe
  have HYe := Bx.mk hYe
  have HN := Bx.mk hN
  clear hXe hYe hX okX okY hN HR
  obtain ⟨cx, hcx⟩ : ∃ cx, costL n x1 = cx := ⟨_, rfl⟩
  obtain ⟨cy, hcy⟩ : ∃ cy, costL n y1 = cy := ⟨_, rfl⟩
  rw [hcx] at w3 hNB
  rw [hcy] at w4 hNB
  have HCX := Bx.mk hcx
  have HCY := Bx.mk hcy
  clear hcx hcy
  cases d
  ·by_cases h1 : cx < now
   ·repeat (first | apply ef_seq | (apply ef_mv; exact rfl; exact rfl) | (apply ef_bin; (iterate 3 exact rfl); (exact cmp_t rfl (by first | exact rfl | (simp only [cmpP]; omega)))) | (apply ef_gy; exact rfl; (exact (rfl : true = true))) | (apply ef_len; exact rfl; exact rfl; (assumption)) | (apply ef_ldp; exact rfl; exact rfl; (exact rfl); exact rfl; (exact rfl); (first | exact rd_2 rfl rfl | exact rfl)) | (apply ef_fap; exact rfl; exact rfl) | (apply ef_notF; exact rfl; exact rfl) | (apply ef_shf; (iterate 3 exact rfl); (assumption)) | apply ef_nil | apply seqQ.normal | apply ef_block | apply ef_skip | (apply ef_condt; exact rfl; (exact (rfl : true = true))) | (apply ef_call; exact rfl; ((repeat (apply XVs.cons; exact rfl)); exact XVs.nil); (with_reducible exact w1 _)))
    (apply ef_call; (· exact rfl); (· ((repeat (apply XVs.cons; exact rfl)); exact XVs.nil)); · exact w3 _ _ (frz_row (o := ⟨0, false, 1, x1.map I64⟩) rfl rfl (by simp [hXl, hl]) (ltL_I 0 x1) rfl))
    repeat (first | apply ef_seq | (apply ef_mv; exact rfl; exact rfl) | (apply ef_bin; (iterate 3 exact rfl); (exact cmp_t rfl (by first | exact rfl | (simp only [cmpP]; omega)))) | (apply ef_gy; exact rfl; (exact (rfl : true = true))) | (apply ef_pick; (iterate 3 exact rfl)) | apply ef_nil | apply seqQ.normal | apply loopQ.ret | apply ef_ret | apply seqQ.ret | apply blockQ.ret | (apply ef_condt; exact rfl; (exact (rfl : true = true))))
    exact ⟨some x1, ⟨s, st, hs2, hse, hlt, HXe.out.symm, .inl ⟨rfl, .inl rfl, by rw [HCX.out]; exact h1⟩⟩, fin_al rfl (by exact rfl) (by exact rfl) (o := ⟨0, false, 1, x1.map I64⟩) (by exact rfl) rfl (by simp [hXl, hl]) (ltL_I 0 x1) rfl rfl rfl⟩
   ·by_cases h2 : cy < now
    ·repeat (first | apply ef_seq | (apply ef_mv; exact rfl; exact rfl) | (apply ef_bin; (iterate 3 exact rfl); (exact cmp_t rfl (by first | exact rfl | (simp only [cmpP]; omega)))) | (apply ef_gy; exact rfl; (exact (rfl : true = true))) | (apply ef_len; exact rfl; exact rfl; (assumption)) | (apply ef_ldp; exact rfl; exact rfl; (exact rfl); exact rfl; (exact rfl); (first | exact rd_2 rfl rfl | exact rfl)) | (apply ef_fap; exact rfl; exact rfl) | (apply ef_notF; exact rfl; exact rfl) | (apply ef_shf; (iterate 3 exact rfl); (assumption)) | apply ef_nil | apply seqQ.normal | apply ef_block | apply ef_skip | (apply ef_condt; exact rfl; (exact (rfl : true = true))) | (apply ef_call; exact rfl; ((repeat (apply XVs.cons; exact rfl)); exact XVs.nil); (with_reducible exact w1 _)))
     (apply ef_call; (· exact rfl); (· ((repeat (apply XVs.cons; exact rfl)); exact XVs.nil)); · exact w3 _ _ (frz_row (o := ⟨0, false, 1, x1.map I64⟩) rfl rfl (by simp [hXl, hl]) (ltL_I 0 x1) rfl))
     repeat (first | apply ef_seq | (apply ef_mv; exact rfl; exact rfl) | (apply ef_bin; (iterate 3 exact rfl); (exact cmp_f rfl (by simp only [cmpP]; omega))) | (apply ef_gy; exact rfl; (exact (rfl : true = true))) | (apply ef_pick; (iterate 3 exact rfl)) | (apply ef_ldp; exact rfl; exact rfl; (exact rfl); exact rfl; (exact rfl); (exact rd_2 rfl rfl)) | (apply ef_neg; exact rfl; exact rfl; exact wrap_of (by omega) (by omega)) | apply ef_nil | apply seqQ.normal | apply ef_skip | (apply ef_condf; exact rfl; (exact (rfl : false = false))) | (apply ef_call; exact rfl; ((repeat (apply XVs.cons; exact rfl)); exact XVs.nil); (with_reducible exact w2 _)))
     (apply ef_call; (· exact rfl); (· ((repeat (apply XVs.cons; exact rfl)); exact XVs.nil)); · exact w4 _ _ (frz_row (o := ⟨0, false, 1, y1.map I64⟩) rfl rfl (by simp [hYl, hl]) (ltL_I 0 y1) rfl))
     repeat (first | apply ef_seq | (apply ef_mv; exact rfl; exact rfl) | (apply ef_bin; (iterate 3 exact rfl); (exact cmp_t rfl (by first | exact rfl | (simp only [cmpP]; omega)))) | (apply ef_gy; exact rfl; (exact (rfl : true = true))) | (apply ef_gn; exact rfl; (exact (rfl : true = true)); exact rfl) | (apply ef_gu; exact rfl; exact rfl) | (apply ef_pick; (iterate 3 exact rfl)) | (apply ef_notF; exact rfl; exact rfl) | apply ef_nil | apply seqQ.normal | apply loopQ.ret | apply ef_ret | apply seqQ.ret | apply blockQ.ret | (apply ef_condt; exact rfl; (exact (rfl : true = true))))
     exact ⟨some y1, ⟨s, 0 - st, hs2, hse, hlt, HYe.out.symm, .inl ⟨rfl, .inr rfl, by rw [HCY.out]; exact h2⟩⟩, fin_al rfl (by exact rfl) (by exact rfl) (o := ⟨0, false, 1, y1.map I64⟩) (by exact rfl) rfl (by simp [hYl, hl]) (ltL_I 0 y1) rfl rfl rfl⟩
    ·repeat (first | apply ef_seq | (apply ef_mv; exact rfl; exact rfl) | (apply ef_bin; (iterate 3 exact rfl); (exact cmp_t rfl (by first | exact rfl | (simp only [cmpP]; omega)))) | (apply ef_gy; exact rfl; (exact (rfl : true = true))) | (apply ef_len; exact rfl; exact rfl; (assumption)) | (apply ef_ldp; exact rfl; exact rfl; (exact rfl); exact rfl; (exact rfl); (first | exact rd_2 rfl rfl | exact rfl)) | (apply ef_fap; exact rfl; exact rfl) | (apply ef_notF; exact rfl; exact rfl) | (apply ef_shf; (iterate 3 exact rfl); (assumption)) | apply ef_nil | apply seqQ.normal | apply ef_block | apply ef_skip | (apply ef_condt; exact rfl; (exact (rfl : true = true))) | (apply ef_call; exact rfl; ((repeat (apply XVs.cons; exact rfl)); exact XVs.nil); (with_reducible exact w1 _)))
     (apply ef_call; (· exact rfl); (· ((repeat (apply XVs.cons; exact rfl)); exact XVs.nil)); · exact w3 _ _ (frz_row (o := ⟨0, false, 1, x1.map I64⟩) rfl rfl (by simp [hXl, hl]) (ltL_I 0 x1) rfl))
     repeat (first | apply ef_seq | (apply ef_mv; exact rfl; exact rfl) | (apply ef_bin; (iterate 3 exact rfl); (exact cmp_f rfl (by simp only [cmpP]; omega))) | (apply ef_gy; exact rfl; (exact (rfl : true = true))) | (apply ef_pick; (iterate 3 exact rfl)) | (apply ef_ldp; exact rfl; exact rfl; (exact rfl); exact rfl; (exact rfl); (exact rd_2 rfl rfl)) | (apply ef_neg; exact rfl; exact rfl; exact wrap_of (by omega) (by omega)) | apply ef_nil | apply seqQ.normal | apply ef_skip | (apply ef_condf; exact rfl; (exact (rfl : false = false))) | (apply ef_call; exact rfl; ((repeat (apply XVs.cons; exact rfl)); exact XVs.nil); (with_reducible exact w2 _)))
     (apply ef_call; (· exact rfl); (· ((repeat (apply XVs.cons; exact rfl)); exact XVs.nil)); · exact w4 _ _ (frz_row (o := ⟨0, false, 1, y1.map I64⟩) rfl rfl (by simp [hYl, hl]) (ltL_I 0 y1) rfl))
     repeat (first | apply ef_seq | (apply ef_mv; exact rfl; exact rfl) | (apply ef_bin; (iterate 3 exact rfl); (first | exact cmp_f rfl (by simp only [cmpP]; omega) | ((with_reducible refine bin_add (wrap_of ?_ ?_)) <;> omega))) | (apply ef_gy; exact rfl; (first | exact (rfl : true = true) | exact (rfl : false = false))) | (apply ef_gn; exact rfl; (exact (rfl : false = false)); exact rfl) | (apply ef_pick; (iterate 3 exact rfl)) | (apply ef_notF; exact rfl; exact rfl) | apply ef_nil | apply seqQ.normal | apply blockQ.normal | apply ef_skip | (apply ef_condf; exact rfl; (exact (rfl : false = false))))
     (refine loopQ.normal _ _ ⟨s + 2, ⟨⟨by omega, by omega, by omega⟩, fun s' g1 g2 g3 => by
      by_cases e : s' = s
      ·subst e; rw [hNB.out]; exact ⟨fun _ => (by omega), fun h => (by cases h)⟩
      ·exact hnoB.out s' g1 g2 (by omega)⟩, (by first | (simp only; omega) | omega), ⟨by ((repeat (refine Hold.cons (by exact rfl) ?_)); exact Hold.nil), by ((repeat (refine Hold.cons (by exact rfl) ?_)); exact Hold.nil)⟩, .inr ⟨by ((repeat (refine hdl_cons rfl (by first | rfl | (simp [MV.lt, ltL, ltL_I, ltL_Ln, ltL_Cr])) ?_)); exact hdl_nil), by first | rfl | (simp [hltL, ltL, MV.lt, ltL, ltL_I, ltL_Ln, ltL_Cr])⟩, by first | exact rfl | (simp only [List.map_append, List.map_set]; exact rfl)⟩)
  ·by_cases h2 : cy = now
   ·repeat (first | apply ef_seq | (apply ef_mv; exact rfl; exact rfl) | (apply ef_bin; (iterate 3 exact rfl); (exact cmp_t rfl (by first | exact rfl | (simp only [cmpP]; omega)))) | (apply ef_gn; exact rfl; (exact (rfl : false = false)); exact rfl) | (apply ef_pick; (iterate 3 exact rfl)) | (apply ef_len; exact rfl; exact rfl; (assumption)) | (apply ef_ldp; exact rfl; exact rfl; (exact rfl); exact rfl; (exact rfl); (first | exact rd_2 rfl rfl | exact rfl)) | (apply ef_fap; exact rfl; exact rfl) | (apply ef_notT; exact rfl; exact rfl) | (apply ef_neg; exact rfl; exact rfl; exact wrap_of (by omega) (by omega)) | (apply ef_shf; (iterate 3 exact rfl); (assumption)) | apply ef_nil | apply seqQ.normal | apply ef_block | apply ef_skip | (apply ef_condt; exact rfl; (exact (rfl : true = true))) | (apply ef_condf; exact rfl; (exact (rfl : false = false))) | (apply ef_call; exact rfl; ((repeat (apply XVs.cons; exact rfl)); exact XVs.nil); (with_reducible first | exact w1 _ | exact w2 _)))
    (apply ef_call; (· exact rfl); (· ((repeat (apply XVs.cons; exact rfl)); exact XVs.nil)); · exact w4 _ _ (frz_row (o := ⟨0, false, 1, y1.map I64⟩) rfl rfl (by simp [hYl, hl]) (ltL_I 0 y1) rfl))
    repeat (first | apply ef_seq | (apply ef_mv; exact rfl; exact rfl) | (apply ef_bin; (iterate 3 exact rfl); (exact cmp_t rfl (by first | exact rfl | (simp only [cmpP]; omega)))) | (apply ef_gy; exact rfl; (first | exact (rfl : true = true) | exact (rfl : false = false))) | (apply ef_gn; exact rfl; (exact (rfl : false = false)); exact rfl) | (apply ef_pick; (iterate 3 exact rfl)) | (apply ef_notT; exact rfl; exact rfl) | apply ef_nil | apply seqQ.normal | apply loopQ.ret | apply ef_ret | apply seqQ.ret | apply blockQ.ret | (apply ef_condt; exact rfl; (exact (rfl : true = true))))
    exact ⟨some y1, ⟨s, 0 - st, hs2, hse, hlt, HYe.out.symm, .inr ⟨rfl, rfl, by rw [HCY.out]; exact h2⟩⟩, fin_al rfl (by exact rfl) (by exact rfl) (o := ⟨0, false, 1, y1.map I64⟩) (by exact rfl) rfl (by simp [hYl, hl]) (ltL_I 0 y1) rfl rfl rfl⟩
   ·repeat (first | apply ef_seq | (apply ef_mv; exact rfl; exact rfl) | (apply ef_bin; (iterate 3 exact rfl); (exact cmp_t rfl (by first | exact rfl | (simp only [cmpP]; omega)))) | (apply ef_gn; exact rfl; (exact (rfl : false = false)); exact rfl) | (apply ef_pick; (iterate 3 exact rfl)) | (apply ef_len; exact rfl; exact rfl; (assumption)) | (apply ef_ldp; exact rfl; exact rfl; (exact rfl); exact rfl; (exact rfl); (first | exact rd_2 rfl rfl | exact rfl)) | (apply ef_fap; exact rfl; exact rfl) | (apply ef_notT; exact rfl; exact rfl) | (apply ef_neg; exact rfl; exact rfl; exact wrap_of (by omega) (by omega)) | (apply ef_shf; (iterate 3 exact rfl); (assumption)) | apply ef_nil | apply seqQ.normal | apply ef_block | apply ef_skip | (apply ef_condt; exact rfl; (exact (rfl : true = true))) | (apply ef_condf; exact rfl; (exact (rfl : false = false))) | (apply ef_call; exact rfl; ((repeat (apply XVs.cons; exact rfl)); exact XVs.nil); (with_reducible first | exact w1 _ | exact w2 _)))
    (apply ef_call; (· exact rfl); (· ((repeat (apply XVs.cons; exact rfl)); exact XVs.nil)); · exact w4 _ _ (frz_row (o := ⟨0, false, 1, y1.map I64⟩) rfl rfl (by simp [hYl, hl]) (ltL_I 0 y1) rfl))
    repeat (first | apply ef_seq | (apply ef_mv; exact rfl; exact rfl) | (apply ef_bin; (iterate 3 exact rfl); (first | exact cmp_f rfl (by simp only [cmpP]; omega) | ((with_reducible refine bin_add (wrap_of ?_ ?_)) <;> omega))) | (apply ef_gy; exact rfl; (first | exact (rfl : true = true) | exact (rfl : false = false))) | (apply ef_gn; exact rfl; (exact (rfl : false = false)); exact rfl) | (apply ef_pick; (iterate 3 exact rfl)) | (apply ef_notT; exact rfl; exact rfl) | apply ef_nil | apply seqQ.normal | apply blockQ.normal | apply ef_skip | (apply ef_condf; exact rfl; (exact (rfl : false = false))))
    (refine loopQ.normal _ _ ⟨s + 2, ⟨⟨by omega, by omega, by omega⟩, fun s' g1 g2 g3 => by
     by_cases e : s' = s
     ·subst e; rw [hNB.out]; exact ⟨fun h => (by cases h), fun _ => h2⟩
     ·exact hnoB.out s' g1 g2 (by omega)⟩, (by first | (simp only; omega) | omega), ⟨by ((repeat (refine Hold.cons (by exact rfl) ?_)); exact Hold.nil), by ((repeat (refine Hold.cons (by exact rfl) ?_)); exact Hold.nil)⟩, .inr ⟨by ((repeat (refine hdl_cons rfl (by first | rfl | (simp [MV.lt, ltL, ltL_I, ltL_Ln, ltL_Cr])) ?_)); exact hdl_nil), by first | rfl | (simp [hltL, ltL, MV.lt, ltL, ltL_I, ltL_Ln, ltL_Cr])⟩, by first | exact rfl | (simp only [List.map_append, List.map_set]; exact rfl)⟩)
 ·repeat (first | apply ef_seq | (apply ef_mv; exact rfl; exact rfl) | (apply ef_bin; (iterate 3 exact rfl); (exact cmp_f rfl (by simp only [cmpP]; omega))) | (apply ef_len; exact rfl; exact rfl; (assumption)) | (apply ef_ldp; exact rfl; exact rfl; (exact rfl); exact rfl; (exact rfl); (exact rfl)) | (apply ef_fap; exact rfl; exact rfl) | (apply ef_nil0; exact rfl) | (apply ef_shf; (iterate 3 exact rfl); (assumption)) | apply ef_nil | apply seqQ.normal | apply loopQ.exit | apply ef_ret | apply ef_exit | apply seqQ.exit | apply blockQ.here | (apply ef_condf; exact rfl; (exact (rfl : false = false))))
  exact ⟨none, fun s' g1 g2 g3 => hnoB.out s' g1 g2 (by omega), fin_al rfl (by exact rfl) (by exact rfl) (o := ⟨0, true, 1, []⟩) (by exact rfl) rfl rfl rfl rfl rfl rfl⟩
end Go.Proofs.YtbdleggmdbihnaaGreat

/- A slice of the call's own is given up. -/
namespace Go.Proofs.YtbdleggmdbihnaaGreat
open Go.RowKit
set_option linter.unusedVariables false
theorem giveV_arr {lk : Nat → Bool} {h : MHeap} {id k sz : Nat} {nl : Bool} {es : List MV} (ho : h[id]? = some ⟨0, nl, sz, es⟩) (hk : k = es.length) (hl : ltL 0 es = true) (h1 : lk id = false) : giveV lk h (.arr id 0 k 0) = some (.sl es, h.set id ⟨1, nl, sz, []⟩) := by
 have hids : MV.ids h 6 (.arr id 0 k 0) = [id] := by
  have e2 : MV.ids h 6 (.arr id 0 k 0) = id :: (match h[id]? with | some o => o.es.flatMap (MV.ids h 5) | none => []) := rfl
  rw [ho] at e2
  dsimp only at e2
  rw [idsL_lt0 hl] at e2
  exact e2
 have hmap : (h.mapIdx fun i p => if ([id] : List Nat).contains i then (⟨p.g + 1, p.nl, p.sz, []⟩ : MObj) else p) = h.set id ⟨1, nl, sz, []⟩ := by
  apply List.ext_getElem?
  intro j
  rw [List.getElem?_mapIdx, List.getElem?_set]
  by_cases e : j = id
  ·subst e
   rw [if_pos rfl, if_pos (List.getElem?_eq_some_iff.1 ho).1, ho]
   simp
  ·rw [if_neg (by omega)]
   cases h[j]? <;> simp [e]
 have himp : ((List.range h.length).filter fun i => !([id] : List Nat).contains i).contains id = false := by
  rw [Bool.eq_false_iff]
  intro hc
  simp only [List.contains_iff_mem, List.mem_filter] at hc
  simpa using hc.2
 have hfr : frz 0 ((List.range h.length).filter fun i => !([id] : List Nat).contains i) h 8 (.arr id 0 k 0) = some (.sl es) := by
  have h3 : es.take k = es := List.take_of_length_le (by omega)
  simp only [frz, MV.lt, Nat.not_lt_zero, decide_false, Bool.false_eq_true, if_false, himp, ho]
  simp only [hl, if_true, List.drop_zero, h3]
  simp; omega
 unfold giveV
 rw [hids, hfr]
 simp only [hmap]
 simp [h1]
end Go.Proofs.YtbdleggmdbihnaaGreat

/- Contracts of the document: best corrections, by moving sets of lines. -/
namespace Go.Proofs.YtbdleggmdbihnaaGreat
open Go.RowKit
set_option linter.unusedVariables false
set_option linter.unusedSimpArgs false
theorem wsU_bdB {n : Nt} (ok : OkN n) {ds : List Int} {B : Int} (hB : 0 ≤ B) (hb : ∀ v, -B ≤ cAt ds v ∧ cAt ds v ≤ B) : ∀ i, i ≤ n.cs.length → 0 ≤ wsU n.cs ds i ∧ wsU n.cs ds i ≤ 10 * B * (i : Int)
 | 0, _ => by simp [wsU]
 | i + 1, hi => by
  have ih := wsU_bdB ok hB hb i (by omega)
  have hm : n.cs.getD i default ∈ n.cs := by rw [List.getD_eq_getElem?_getD, List.getElem?_eq_getElem (by omega)]; exact List.getElem_mem _
  have hw := (ok.rg _ hm).wt
  rw [wsU]
  generalize n.cs.getD i default = x at *
  have ha : 0 ≤ absI (cAt ds i) ∧ absI (cAt ds i) ≤ B := absI_bd (hb i).1 (hb i).2
  have h1 := Int.mul_nonneg (a := x.wt) (b := absI (cAt ds i)) (by omega) ha.1
  have h2 : x.wt * absI (cAt ds i) ≤ 10 * B := Int.mul_le_mul hw.2 ha.2 ha.1 (by omega)
  have e : 10 * B * ((i + 1 : Nat) : Int) = 10 * B * (i : Int) + 10 * B := by rw [Int.natCast_add, Int.mul_add]; simp
  omega
structure CB (n : Nt) (c : List Int) : Prop where
 len : c.length = n.ls.length
 z0 : cAt c 0 = 0
 nn : 0 ≤ costL n c
 bd : ∀ v, -26214400000 + 16384 * costL n c ≤ cAt c v ∧ cAt c v ≤ 26214400000 - 16384 * costL n c
theorem costL_nn {n : Nt} (ok : OkN n) {c : List Int} (h : OkB n.ls.length c) : 0 ≤ costL n c := (wsU_bd ok (resL_bd ok h) _ (Nat.le_refl _)).1
theorem CB.bd3 {n : Nt} {c : List Int} (h : CB n c) (v : Int) : -30000000000 ≤ cAt c v ∧ cAt c v ≤ 30000000000 := by
 have := h.bd v
 have := h.nn
 omega
theorem CB.cost {n : Nt} {c : List Int} (h : CB n c) : costL n c ≤ 1600000 := by
 have := h.bd 0
 have := h.nn
 have := h.z0
 omega
theorem CB.start {n : Nt} (ok : OkN n) : CB n (List.replicate n.ls.length 0) := by
 have hz := cAt_zer n.ls.length
 have hb : ∀ v, -10000 ≤ cAt (resL n (List.replicate n.ls.length 0)) v ∧ cAt (resL n (List.replicate n.ls.length 0)) v ≤ 10000 := fun v => by
  unfold cAt resL
  rw [List.getD_eq_getElem?_getD, List.getElem?_map]
  cases hh : n.cs[v.toNat]? with
  | none => simp
  | some x =>
   have hx := (ok.rg x (List.mem_of_getElem? hh)).df
   simp only [Option.map_some, Option.getD_some, resI, hz]
   omega
 have h1 := wsU_bdB ok (by omega) hb n.cs.length (Nat.le_refl _)
 have c16 := ok.c16
 have h2 : costL n (List.replicate n.ls.length 0) ≤ 1600000 := by
  unfold costL
  omega
 exact ⟨by simp, hz 0, h1.1, fun v => by rw [hz v]; omega⟩
theorem CB.step {n : Nt} (ok : OkN n) {c : List Int} (h : CB n c) {s : Nat} {b : Int} (hb : -16384 ≤ b ∧ b ≤ 16384) (hlt : costL n (mvU c s b c.length) < costL n c) : CB n (mvU c s b c.length) := by
 have h3 := mvU_ok h.len h.bd3 (s := s) (b := b) (by omega)
 refine ⟨h3.len, ?_, costL_nn ok h3, fun v => ?_⟩
 ·have := mvU_at c s b _ (Nat.le_refl _) 0
  rw [if_neg (by omega)] at this
  exact this.trans h.z0
 ·have e : ∀ l : List Int, cAt l v = cAt l ((v.toNat : Nat) : Int) := fun l => by unfold cAt; rw [Int.toNat_natCast]
  rw [e, mvU_at c s b _ (Nat.le_refl _)]
  have := h.bd ((v.toNat : Nat) : Int)
  split <;> omega
theorem BtR.step {n : Nt} (ok : OkN n) {c x : List Int} (h : CB n c) {st : Int} (hs : 1 ≤ st ∧ st ≤ 16384) (hb : BtR n c st false (some x)) : CB n x ∧ costL n x < costL n c := by
 obtain ⟨s, b, -, -, -, rfl, h1 | h1⟩ := hb
 ·obtain ⟨-, h2, h3⟩ := h1
  exact ⟨h.step ok (by omega) h3, h3⟩
 ·cases h1.1
def stN (j : Nat) : Int := [16384, 8192, 4096, 2048, 1024, 512, 256, 128, 64, 32, 16, 8, 4, 2, 1].getD j 0
theorem stN_bd (j : Nat) (h : j < 15) : 1 ≤ stN j ∧ stN j ≤ 16384 := by
 obtain rfl | rfl | rfl | rfl | rfl | rfl | rfl | rfl | rfl | rfl | rfl | rfl | rfl | rfl | rfl : j = 0 ∨ j = 1 ∨ j = 2 ∨ j = 3 ∨ j = 4 ∨ j = 5 ∨ j = 6 ∨ j = 7 ∨ j = 8 ∨ j = 9 ∨ j = 10 ∨ j = 11 ∨ j = 12 ∨ j = 13 ∨ j = 14 := by omega
 all_goals decide
theorem stN_quo (j : Nat) (h : j < 15) : binI .quo .i64 (stN j) 2 = some (.int .i64 (stN (j + 1))) := by
 obtain rfl | rfl | rfl | rfl | rfl | rfl | rfl | rfl | rfl | rfl | rfl | rfl | rfl | rfl | rfl : j = 0 ∨ j = 1 ∨ j = 2 ∨ j = 3 ∨ j = 4 ∨ j = 5 ∨ j = 6 ∨ j = 7 ∨ j = 8 ∨ j = 9 ∨ j = 10 ∨ j = 11 ∨ j = 12 ∨ j = 13 ∨ j = 14 := by omega
 all_goals rfl
theorem fin_sll {x : MX2} {A : Sl} {h : MHeap} {t u : Nat} {es : List MV} {v : Value} (hx : outX x = true) (hv : look A t = some (.sl es)) (hw : look A u = some (.lit v)) (hl : ltL 0 es = true) : FinF [.tmp t, .tmp u] (.tup [.sl es, .lit v]) [] x A h := by
 refine ⟨hx, [.sl es, .lit v], [.sl es, .lit v], ⟨_, _, rfl, hv, _, [], rfl, hw, rfl⟩, by simp [impIds], ?_, rfl⟩
 simp [impIds, expL, frz, MV.lt, hl]
def LocB (n : Nt) (c : List Int) : Prop := ∀ s, 2 ≤ s → s % 2 = 0 → s < 2 ^ n.ls.length → NoB n c 1 false s
theorem mf_Best : MT.mf 47 = some ⟨30, [(.tmp 2), (.tmp 3)], (.seq (.reg [⟨none, some 1, .box 2 (.s 0)⟩, ⟨none, some 2, .nil0 1⟩, ⟨none, some 3, .mv (.c (.lit (.int .i64 0)))⟩]) (.seq (.reg [⟨none, some 8, .fa 0 (.s 1)⟩, ⟨none, some 9, .ld none (.s 8)⟩, ⟨none, some 10, .len (.s 9)⟩, ⟨none, some 11, .mks (.lit (.int .i64 0)) (.s 10)⟩, ⟨none, some 4, .mv (.s 11)⟩]) (.seq (.seq (.give 4 (.reg [⟨none, some 5, .mv (.c (.lit (.int .i64 16384)))⟩])) (.block 0 (.loop [5, 1, 4] (.seq (.seq (.reg [⟨none, some 12, .mv (.s 5)⟩, ⟨none, some 13, .bin .gtr (.s 12) (.c (.lit (.int .i64 0)))⟩]) (.cond (.s 13) .skip (.exit 0))) (.seq (.block 1 (.block 2 (.loop [1, 4, 5] (.block 3 (.seq (.reg [⟨none, some 17, .ld (some 2) (.s 1)⟩, ⟨none, some 18, .mv (.s 4)⟩, ⟨none, some 19, .mv (.s 5)⟩, ⟨none, some 20, .call 48 [.s 17, .s 18, .s 19, (.c (.lit (.bool false)))]⟩, ⟨none, some 16, .mv (.s 20)⟩, ⟨none, some 21, .ext (.s 16) 0⟩, ⟨none, some 22, .ext (.s 16) 1⟩, ⟨none, some 6, .mv (.s 21)⟩, ⟨none, some 7, .mv (.s 22)⟩]) (.seq (.seq (.reg [⟨none, some 23, .mv (.s 7)⟩, ⟨none, some 24, .un .not (.s 23)⟩]) (.cond (.s 24) (.exit 2) .skip)) (.give 6 (.reg [⟨none, some 25, .mv (.s 6)⟩, ⟨none, some 4, .mv (.s 25)⟩])))))))) (.reg [⟨none, some 14, .mv (.s 5)⟩, ⟨none, some 15, .bin .quo (.s 14) (.c (.lit (.int .i64 2)))⟩, ⟨none, some 5, .mv (.s 15)⟩])))))) (.seq (.reg [⟨none, some 26, .mv (.s 4)⟩, ⟨none, some 27, .ld (some 2) (.s 1)⟩, ⟨none, some 28, .mv (.s 4)⟩, ⟨none, some 29, .call 34 [.s 27, .s 28]⟩, ⟨none, some 2, .mv (.s 26)⟩, ⟨none, some 3, .mv (.s 29)⟩]) .ret))))⟩ := by kernel_rfl
set_option maxHeartbeats 4000000 in
theorem Best_z (k : Nat) (n : Nt) (ok : OkN n) :
  ∃ c, (CB n c ∧ LocB n c) ∧ runZ MT (orA (k + 4)) (itA (k + 4)) 4000000 47 [encN n] [] = some (.tup [.sl (c.map I64), I64 (costL n c)], []) := by
 have hs1 : (MV.sl (n.ls.map encLn)).slen = some n.ls.length := by simp [MV.slen]
 have l8 := ok.l8
 refine runZ_ofE (p := fun c => CB n c ∧ LocB n c) (m := fun c => .tup [.sl (c.map I64), I64 (costL n c)]) (news := fun _ => []) mf_Best (by simp) ?_
 simp only [argsL]
 repeat (first | apply ef_seq | (apply ef_mv; exact rfl; exact rfl) | (apply ef_len; exact rfl; exact rfl; (assumption)) | (apply ef_ldp; exact rfl; exact rfl; (exact rfl); exact rfl; (exact rfl); (exact rfl)) | (apply ef_fap; exact rfl; exact rfl) | (apply ef_box; (iterate 4 exact rfl)) | (apply ef_nil0; exact rfl) | (apply ef_mks; exact rfl; exact rfl; (omega); (omega)) | apply ef_nil | apply seqQ.normal)
 refine ef_givev rfl (by exact rfl) (giveV_arr (es := List.replicate n.ls.length (I64 0)) rfl (by simp) (by rw [← List.map_replicate]; exact ltL_I 0 _) rfl) ?_
 rw [show List.replicate n.ls.length (I64 0) = (List.replicate n.ls.length (0 : Int)).map I64 by rw [List.map_replicate]]
 repeat (first | (apply ef_mv; exact rfl; exact rfl) | apply ef_nil | apply seqQ.normal | apply ef_block)
 refine ef_loopf (α := Nat × List Int) (fun p => p.1 ≤ 15 ∧ CB n p.2 ∧ (p.1 = 15 → LocB n p.2)) (fun p => [(5, I64 (stN p.1)), (4, .sl (p.2.map I64))]) [(1, .ptr 0 0 0 0)] (fun _ => [⟨0, false, 2, [encN n]⟩, ⟨0, true, 1, []⟩, ⟨1, false, 1, []⟩]) (fun p => 15 - p.1) (0, List.replicate n.ls.length (0 : Int)) [5, 4] (fun _ => rfl) (by ((repeat (refine Hold.cons (by exact rfl) ?_)); exact Hold.nil)) (by ((repeat (refine Hold.cons (by exact rfl) ?_)); exact Hold.nil)) rfl rfl ⟨by omega, .start ok, fun h => by cases h⟩ (by simp) ?_
 rintro ⟨j, c⟩ ⟨hj, hc, hloc⟩
 try simp only at hj hc hloc ⊢
 have HC := Bx.mk hc
 have HL := Bx.mk hloc
 clear hc hloc
 by_cases hlt : j < 15
 ·have hst := stN_bd j hlt
  have hq := stN_quo j hlt
  have HS14 := Bx.mk (fun h : j + 1 = 15 => show stN j = 1 by obtain rfl : j = 14 := (by omega); rfl)
  generalize hs : stN j = st at *
  repeat (first | apply ef_seq | (apply ef_mv; exact rfl; exact rfl) | (apply ef_bin; (iterate 3 exact rfl); (exact cmp_t rfl (by first | exact rfl | (simp only [cmpP]; omega)))) | apply ef_nil | apply seqQ.normal | apply ef_block | apply ef_skip | (apply ef_condt; exact rfl; (exact (rfl : true = true))))
  refine ef_loopf (α := List Int) (fun c => CB n c) (fun c => [(4, .sl (c.map I64))]) [(1, .ptr 0 0 0 0), (5, I64 st)] (fun _ => [⟨0, false, 2, [encN n]⟩, ⟨0, true, 1, []⟩, ⟨1, false, 1, []⟩]) (fun c => (costL n c).toNat) c [4] (fun _ => rfl) (by ((repeat (refine Hold.cons (by exact rfl) ?_)); exact Hold.nil)) (by ((repeat (refine Hold.cons (by exact rfl) ?_)); exact Hold.nil)) rfl rfl HC.out (by have := HC.out.cost; show (costL n c).toNat < 4000000; omega) ?_
  intro c hc
  have HC := Bx.mk hc
  clear hc
  try simp only
  obtain ⟨r, hr, hz⟩ := better_z k n ok c HC.out.len HC.out.bd3 st (by omega) false
  cases r with
  | none =>
   have w1 : ∀ h, orA (k + 4) 48 [encN n, .sl (c.map I64), I64 st, Bo false] h = some (.tup [.arr h.length 0 0 0, Bo false], h ++ [⟨0, true, 1, []⟩]) := fun h => by
    have := callA (k := k + 3) (h := h) (args := [encN n, .sl (c.map I64), I64 st, Bo false]) (frzL_lt (by simp [ltL, MV.lt, ltL_Ln, ltL_Cr, ltL_I])) rfl hz (by simp [btM, okV, ok1, MV.lt, MV.pure]) (by simp [btN, okH, ltL, pureL])
    simpa [shV, sh1, btM, btN] using this
   have HR := Bx.mk hr
   clear hr hz
   repeat (first | apply ef_seq | (apply ef_mv; exact rfl; exact rfl) | (apply ef_bin; (iterate 3 exact rfl); (assumption)) | (apply ef_ldp; exact rfl; exact rfl; (exact rfl); exact rfl; (exact rfl); (exact rd_2 rfl rfl)) | (apply ef_notF; exact rfl; exact rfl) | (apply ef_ext; (iterate 3 exact rfl)) | apply ef_nil | apply seqQ.normal | apply loopQ.exit | apply ef_exit | apply seqQ.exit | apply blockQ.normal | apply blockQ.here | (apply blockQ_there; exact rfl) | apply ef_block | (apply ef_condt; exact rfl; (exact (rfl : true = true))) | (apply ef_call; exact rfl; ((repeat (apply XVs.cons; exact rfl)); exact XVs.nil); (with_reducible exact w1 _)))
   (refine loopQ.normal _ _ ⟨(j + 1, c), ⟨by omega, HC.out, fun h => by have e := HS14.out h; have := HR.out; rw [e] at this; exact this⟩, (by first | (simp only; omega) | omega), ⟨by ((repeat (refine Hold.cons (by exact rfl) ?_)); exact Hold.nil), by ((repeat (refine Hold.cons (by exact rfl) ?_)); exact Hold.nil)⟩, .inr ⟨by ((repeat (refine hdl_cons rfl (by first | rfl | (simp [MV.lt, ltL, ltL_I, ltL_Ln, ltL_Cr])) ?_)); exact hdl_nil), by first | rfl | (simp [hltL, ltL, MV.lt, ltL, ltL_I, ltL_Ln, ltL_Cr])⟩, by first | exact rfl | (simp only [List.map_append, List.map_set]; exact rfl)⟩)
  | some x =>
   have hcl := HC.out.len
   have hx := hr.step ok HC.out (by omega)
   have hxl := hx.1.len
   have w1 : ∀ h, orA (k + 4) 48 [encN n, .sl (c.map I64), I64 st, Bo false] h = some (.tup [.arr h.length 0 c.length 0, Bo true], h ++ [⟨0, false, 1, x.map I64⟩]) := fun h => by
    have := callA (k := k + 3) (h := h) (args := [encN n, .sl (c.map I64), I64 st, Bo false]) (frzL_lt (by simp [ltL, MV.lt, ltL_Ln, ltL_Cr, ltL_I])) rfl hz (by simp [btM, okV, ok1, MV.lt, MV.pure]) (by simp [btN, okH, ltL_I, pureL_I])
    simpa [shV, sh1, btM, btN] using this
   have HX := Bx.mk hx
   clear hx hr hz
   repeat (first | apply ef_seq | (apply ef_mv; exact rfl; exact rfl) | (apply ef_ldp; exact rfl; exact rfl; (exact rfl); exact rfl; (exact rfl); (exact rd_2 rfl rfl)) | (apply ef_notT; exact rfl; exact rfl) | (apply ef_ext; (iterate 3 exact rfl)) | apply ef_nil | apply seqQ.normal | apply ef_block | apply ef_skip | (apply ef_condf; exact rfl; (exact (rfl : false = false))) | (apply ef_call; exact rfl; ((repeat (apply XVs.cons; exact rfl)); exact XVs.nil); (with_reducible exact w1 _)))
   refine ef_givev rfl (by exact rfl) (giveV_arr (es := x.map I64) rfl (by simp [hxl, hcl]) (ltL_I 0 x) rfl) ?_
   repeat (first | (apply ef_mv; exact rfl; exact rfl) | apply ef_nil | apply blockQ.normal)
   (refine loopQ.normal _ _ ⟨x, HX.out.1, (by have h1 := HX.out.2; have h2 := HX.out.1.nn; show (costL n x).toNat < (costL n c).toNat; omega), ⟨by ((repeat (refine Hold.cons (by exact rfl) ?_)); exact Hold.nil), by ((repeat (refine Hold.cons (by exact rfl) ?_)); exact Hold.nil)⟩, .inr ⟨by ((repeat (refine hdl_cons rfl (by first | rfl | (simp [MV.lt, ltL, ltL_I, ltL_Ln, ltL_Cr])) ?_)); exact hdl_nil), by first | rfl | (simp [hltL, ltL, MV.lt, ltL, ltL_I, ltL_Ln, ltL_Cr])⟩, by first | exact rfl | (simp only [List.map_append, List.map_set]; exact rfl)⟩)
 ·obtain rfl : j = 15 := by omega
  have hc := HC.out
  have okb : OkB n.ls.length c := ⟨hc.len, fun v => by have := hc.bd3 v; omega⟩
  have w2 := fun h => rCost_c (k + 1) n ok c okb h (v := .sl (c.map I64)) (frz_sl (ltL_I 0 c))
  clear hc
  rw [show stN 15 = 0 from rfl]
  repeat (first | apply ef_seq | (apply ef_mv; exact rfl; exact rfl) | (apply ef_bin; (iterate 3 exact rfl); (exact cmp_f rfl (by simp only [cmpP]; omega))) | (apply ef_ldp; exact rfl; exact rfl; (exact rfl); exact rfl; (exact rfl); (exact rd_2 rfl rfl)) | apply ef_nil | apply seqQ.normal | apply loopQ.exit | apply ef_ret | apply ef_exit | apply seqQ.exit | apply blockQ.here | (apply ef_condf; exact rfl; (exact (rfl : false = false))) | (apply ef_call; exact rfl; ((repeat (apply XVs.cons; exact rfl)); exact XVs.nil); (with_reducible exact w2 _)))
  exact ⟨c, ⟨HC.out, HL.out rfl⟩, fin_sll rfl (by exact rfl) (by exact rfl) (ltL_I 0 c)⟩
theorem Best_c (k : Nat) (n : Nt) (ok : OkN n) : ∃ c, (CB n c ∧ LocB n c) ∧ ∀ h, orA (k + 5) 47 [encN n] h = some (.tup [.sl (c.map I64), I64 (costL n c)], h) := by
 obtain ⟨c, h1, h2⟩ := Best_z k n ok
 refine ⟨c, h1, fun h => ?_⟩
 have := callA (k := k + 4) (h := h) (args := [encN n]) (args' := [encN n]) (frzL_lt (by simp [ltL, MV.lt, ltL_Ln, ltL_Cr])) rfl h2 (by simp [okV, ok1, MV.lt, MV.pure, ltL, ltL_Ln, ltL_Cr, ltL_I]) rfl
 simpa [shV, sh1] using this
theorem mvU_P {n : Nt} (ok : OkN n) {c : List Int} (hl : c.length = n.ls.length) (S : Int → Bool) (h0 : S 0 = false) (b : Int) : costL n (mvU c (setN (fun i => S (i : Int)) n.ls.length) b c.length) = costP n.cs (mvP (cAt c) S b) n.cs.length := by
 rw [costL_P]
 refine costP_congr (m := n.ls.length) (fun x hx => ?_) (fun v h1 h2 => ?_) _ (Nat.le_refl _)
 ·have o := ok.rg x hx
  exact ⟨⟨o.l0, o.l1⟩, o.t0, o.t1⟩
 ·have e : ((v.toNat : Nat) : Int) = v := by omega
  have hm := mvU_at c (setN (fun i => S (i : Int)) n.ls.length) b _ (Nat.le_refl _) v.toNat
  rw [e] at hm
  rw [hm, setN_bit _ _ _ (by omega)]
  simp only [e]
  unfold mvP
  by_cases hv : v = 0
  ·subst hv; rw [if_neg (by simp), h0]; simp
  ·cases hS : S v
   ·rw [if_neg (by simp)]; simp
   ·rw [if_pos ⟨by omega, by omega, rfl⟩]; simp
theorem setN_zero {S : Nat → Bool} : ∀ {m : Nat}, setN S m = 0 → ∀ i, i < m → S i = false
 | 0, _, i, h => by omega
 | m + 1, hz, i, h => by
  rw [setN] at hz
  have h1 : setN S m = 0 := by omega
  by_cases e : i = m
  ·subst e
   cases hs : S i
   ·rfl
   ·rw [hs, if_pos rfl] at hz
    have : 0 < 2 ^ i := Nat.pow_pos (by omega)
    omega
  ·exact setN_zero h1 i (by omega)
theorem setN_even {S : Nat → Bool} (h0 : S 0 = false) {m : Nat} (hm : 0 < m) : setN S m % 2 = 0 := by
 have := setN_bit S m 0 hm
 rw [h0, Nat.testBit_zero] at this
 simpa using this
theorem locB_flow {n : Nt} (ok : OkN n) {c : List Int} (hc : CB n c) (hL : LocB n c) : costL n c = valU n.cs (flZ n) n.cs.length := by
 rw [costL_P]
 refine local_flow ok fun S h0 => ?_
 have l1 := ok.l1
 have e1 := mvU_P ok hc.len S h0 1
 have e2 := mvU_P ok hc.len S h0 (-1)
 by_cases hz : setN (fun i => S (i : Int)) n.ls.length = 0
 ·have hm : ∀ b : Int, costP n.cs (mvP (cAt c) S b) n.cs.length = costP n.cs (cAt c) n.cs.length := fun b => by
   refine costP_congr (m := n.ls.length) (fun x hx => ?_) (fun v h1 h2 => ?_) _ (Nat.le_refl _)
   ·have o := ok.rg x hx
    exact ⟨⟨o.l0, o.l1⟩, o.t0, o.t1⟩
   ·have := setN_zero hz v.toNat (by omega)
    simp only [show ((v.toNat : Nat) : Int) = v by omega] at this
    unfold mvP
    rw [this]; simp
  rw [hm, hm]
  exact ⟨Int.le_refl _, Int.le_refl _⟩
 ·have he := setN_even (S := fun i => S (i : Int)) h0 l1
  have hb := hL (setN (fun i => S (i : Int)) n.ls.length) (by omega) he (setN_lt _ _)
  have := hb.1 rfl
  rw [e1, show (0 - 1 : Int) = -1 from rfl, e2, costL_P] at this
  exact this
end Go.Proofs.YtbdleggmdbihnaaGreat

/- Longest paths where there are potentials; the lowest and the greatest best corrections; without a program. -/
namespace Go.Proofs.YtbdleggmdbihnaaGreat
set_option linter.unusedVariables false
set_option linter.unusedSimpArgs false
def Feas (ar : List Ac) (f : Int → Int) : Prop := ∀ a ∈ ar, f a.fr + a.ln ≤ f a.tv
theorem feas_cyc {ar : List Ac} {m p : Nat} {P : List Int} {c : Int} {f : Int → Int} (hf : Feas ar f) (H : CycOk ar m P c p) : False := by
 have key : ∀ i, i ≤ p → sumW ar P (fun i => bkN ar P i c) i ≤ f c - f (bkN ar P i c) := fun i => by
  induction i with
  | zero => intro _; simp [sumW, bkN]
  | succ i ih =>
   intro hi
   obtain ⟨-, h2, h3⟩ := H.inn i (by omega)
   have h4 := hf _ h2
   rw [h3] at h4
   have h5 := ih (by omega)
   have e : bkN ar P (i + 1) c = (arcP ar P (bkN ar P i c)).fr := rfl
   rw [sumW, e]
   omega
 have h1 := key p (Nat.le_refl _)
 have h2 := H.pos
 rw [H.ret] at h1
 omega
structure LgOk (ar : List Ac) (m : Nat) (fs : List Int) (L : List Int) : Prop where
 len : L.length = m
 src : ∀ v ∈ fs, 0 ≤ cAt L v
 far : ∀ v, -1099511627776 ≤ cAt L v
 up : ∀ v, cAt L v ≤ 1000000000
 sat : ∀ a ∈ ar, cAt L a.fr > -549755813888 → cAt L a.fr + a.ln ≤ cAt L a.tv
 low : ∀ f : Int → Int, Feas ar f → (∀ v, 0 ≤ v → v < (m : Int) → cAt (srcL m fs) v ≤ f v) → ∀ v, 0 ≤ v → v < (m : Int) → cAt L v ≤ f v
theorem lg_feas {m : Nat} {ar : List Ac} {B : Int} {fs : List Int} (hB : 0 ≤ B) (hB2 : B ≤ 100000) (hm : m ≤ 8) (hl : ar.length ≤ 64) (hO : ∀ a ∈ ar, OkA m B a) (hfs : ∀ v ∈ fs, 0 ≤ v ∧ v < (m : Int)) {f : Int → Int} (hf : Feas ar f) : lgC ar m fs = [] ∧ LgOk ar m fs (lgS ar m fs).1.L := by
 rcases lg_out (fs := fs) hB hO with ⟨h1, ⟨q, t, hq, HI⟩, h2⟩ | ⟨P, c, p, -, H⟩
 ·refine ⟨h1, HI.lenL, fun v hv => ?_, fun v => (HI.bd v).1, fun v => ?_, h2, fun f hf hs => HI.low f hf hs⟩
  ·obtain ⟨i, hi, rfl⟩ := List.getElem_of_mem hv
   have := srcU_at m fs hfs fs.length i hi hi (Nat.le_refl _)
   have := HI.mon fs[i]
   have e : srcL m fs = srcU m fs fs.length := rfl
   rw [e] at this
   omega
  ·have h3 := (HI.bd v).2
   have h4 : q * ar.length + ar.length ≤ 9 * 64 + 64 := Nat.add_le_add (Nat.mul_le_mul (by omega) hl) hl
   have h5 : B * ((q * ar.length + ar.length : Nat) : Int) ≤ 100000 * 640 := Int.mul_le_mul hB2 (by omega) (by omega) (by omega)
   omega
 ·exact (feas_cyc hf H).elim
theorem srcL_one {m : Nat} {s v : Int} (h0 : 0 ≤ s) (h1 : s < (m : Int)) (hv : 0 ≤ v) : cAt (srcL m [s]) v = if v = s then 0 else if v < (m : Int) then -1099511627776 else 0 := by
 have e : srcL m [s] = (List.replicate m (-1099511627776 : Int)).set s.toNat 0 := rfl
 rw [e, cAt_set h0 (by simpa using h1) hv]
 split
 ·rfl
 ·unfold cAt
  rw [List.getD_eq_getElem?_getD, List.getElem?_replicate]
  by_cases h : v < (m : Int)
  ·rw [if_pos h, if_pos (by omega)]; rfl
  ·rw [if_neg h, if_neg (by omega)]; rfl
def Jn (n : Nt) : Prop := ∀ S : Int → Bool, S 0 = true → (∀ x ∈ n.cs, S x.ln = S x.ti) → ∀ v, 0 ≤ v → v < (n.ls.length : Int) → S v = true
theorem leave_all {n : Nt} (ok : OkN n) (hj : Jn n) {fl : List Int} (hf : FlOk n fl) {s : Int} (hs0 : 0 ≤ s) (hs1 : s < (n.ls.length : Int)) {S : Int → Bool} (h0 : S s = true) (hc : ∀ a ∈ arcsU n.cs fl n.cs.length, S a.fr = true → S a.tv = true) : ∀ v, 0 ≤ v → v < (n.ls.length : Int) → S v = true := by
 have key : ∀ i, i ≤ n.cs.length → sumN (fun v => sgV n (v : Int) * (if S (v : Int) then 1 else 0) * sumV n.cs fl (v : Int) i) n.ls.length ≤ 0 ∧ (sumN (fun v => sgV n (v : Int) * (if S (v : Int) then 1 else 0) * sumV n.cs fl (v : Int) i) n.ls.length = 0 → ∀ j (hj : j < i), j < n.cs.length → S (n.cs.getD j default).ln = S (n.cs.getD j default).ti) := fun i => by
  induction i with
  | zero =>
   intro _
   rw [sumN_zero n.ls.length (fun v _ => by simp [sumV])]
   exact ⟨Int.le_refl _, fun _ j hj => by omega⟩
  | succ i ih =>
   intro hi
   obtain ⟨ih1, ih2⟩ := ih (by omega)
   have hm := getD_mem (n := n) (i := (i : Int)) (by omega) (by omega)
   rw [Int.toNat_natCast] at hm
   have hx := ok.rg _ hm
   have hk := ok.kd _ hm
   have e : (fun v : Nat => sgV n (v : Int) * (if S (v : Int) then 1 else 0) * sumV n.cs fl (v : Int) (i + 1)) = fun v : Nat => (sgV n (v : Int) * (if S (v : Int) then 1 else 0) * sumV n.cs fl (v : Int) i) + ((fun u : Int => sgV n u * (if S u then 1 else 0)) (v : Int) * (if (n.cs.getD i default).ln = (v : Int) then cAt fl i else 0) + (fun u : Int => sgV n u * (if S u then 1 else 0)) (v : Int) * (if (n.cs.getD i default).ti = (v : Int) then cAt fl i else 0)) := by
    funext v
    rw [sumV, att, Int.mul_add, Int.mul_add]
   rw [e, sumN_add, sumN_add, sumN_pick hx.l0 (fun u : Int => sgV n u * (if S u then 1 else 0)), sumN_pick hx.t0 (fun u : Int => sgV n u * (if S u then 1 else 0)), if_pos hx.l1, if_pos hx.t1]
   obtain ⟨a1, a2⟩ := arcsU_mem (n := n) (fl := fl) (i := i) (j := n.cs.length) (by omega) (Nat.le_refl _)
   have hb := hf.bd i (by omega)
   rw [← gd_at (by omega)] at hb
   have s1 : sgV n (n.cs.getD i default).ln = 1 := by unfold sgV; rw [hk.1]; rfl
   have s2 : sgV n (n.cs.getD i default).ti = -1 := by unfold sgV; rw [hk.2]; rfl
   have hw := hx.wt
   have c1 := fun h => hc _ (a1 h)
   have c2 := fun h => hc _ (a2 h)
   simp only at c1 c2
   have hstep : (1 * (if S (n.cs.getD i default).ln then (1 : Int) else 0)) * cAt fl i + (-1 * (if S (n.cs.getD i default).ti then (1 : Int) else 0)) * cAt fl i ≤ 0 ∧ ((1 * (if S (n.cs.getD i default).ln then (1 : Int) else 0)) * cAt fl i + (-1 * (if S (n.cs.getD i default).ti then (1 : Int) else 0)) * cAt fl i = 0 → S (n.cs.getD i default).ln = S (n.cs.getD i default).ti) := by
    generalize n.cs.getD i default = x at *
    generalize cAt fl i = f at *
    cases h1 : S x.ln <;> cases h2 : S x.ti
    ·simp
    ·have : ¬ f < x.wt := fun h => by have := c1 h h2; rw [h1] at this; cases this
     simp; omega
    ·have : ¬ 0 - x.wt < f := fun h => by have := c2 h h1; rw [h2] at this; cases this
     simp; omega
    ·simp; omega
   simp only [s1, s2]
   refine ⟨by omega, fun hz j hj hjl => ?_⟩
   by_cases ej : j = i
   ·subst ej; exact hstep.2 (by omega)
   ·exact ih2 (by omega) j (by omega) hjl
 have hz := sumN_zero n.ls.length (g := fun v => sgV n (v : Int) * (if S (v : Int) then 1 else 0) * sumV n.cs fl (v : Int) n.cs.length) (fun v _ => by rw [hf.sum]; simp)
 have hcl : ∀ x ∈ n.cs, S x.ln = S x.ti := fun x hx => by
  obtain ⟨j, hj, rfl⟩ := List.getElem_of_mem hx
  have := (key _ (Nat.le_refl _)).2 hz j hj hj
  rwa [gd_at hj] at this
 cases hS0 : S 0 with
 | true => exact hj S hS0 hcl
 | false =>
  have := hj (fun v => !S v) (by simp [hS0]) (fun x hx => by rw [hcl x hx]) s hs0 hs1
  rw [h0] at this
  cases this
theorem lg_all {n : Nt} (ok : OkN n) (hj : Jn n) {fl : List Int} (hf : FlOk n fl) {s : Int} (hs0 : 0 ≤ s) (hs1 : s < (n.ls.length : Int)) {p : Int → Int} (hps : 0 ≤ p s) (hpa : ∀ a ∈ arcsU n.cs fl n.cs.length, p a.fr > -549755813888 → p a.fr + a.ln ≤ p a.tv) : ∀ v, 0 ≤ v → v < (n.ls.length : Int) → -80000 ≤ p v := by
 have l8 := ok.l8
 have hO : ∀ a ∈ arcsU n.cs fl n.cs.length, OkA n.ls.length 10000 a := fun a ha => (arcsU_ok (fl := fl) n.cs.length (Nat.le_refl _) a ha).okA ok
 have cnt : ∀ k : Nat, k ≤ 8 → (∀ v, 0 ≤ v → v < (n.ls.length : Int) → -10000 * (k : Int) ≤ p v) ∨ k + 1 ≤ ((List.range n.ls.length).filter fun v : Nat => decide (-10000 * (k : Int) ≤ p (v : Int))).length := fun k => by
  induction k with
  | zero =>
   intro _
   right
   have hm : s.toNat ∈ (List.range n.ls.length).filter fun v : Nat => decide (-10000 * ((0 : Nat) : Int) ≤ p (v : Int)) := by
    rw [List.mem_filter]
    refine ⟨List.mem_range.2 (by omega), ?_⟩
    have := hps
    rw [show ((s.toNat : Nat) : Int) = s by omega]
    simpa using this
   have := List.length_pos_of_mem hm
   omega
  | succ k ih =>
   intro hk
   rcases ih (by omega) with h | h
   ·left
    intro v h0 h1
    have := h v h0 h1
    omega
   ·-- is there a new line?
    by_cases hn : ∃ v, 0 ≤ v ∧ v < (n.ls.length : Int) ∧ -10000 * ((k + 1 : Nat) : Int) ≤ p v ∧ ¬ -10000 * (k : Int) ≤ p v
    ·right
     obtain ⟨v, h0, h1, h2, h3⟩ := hn
     have hsub : ((List.range n.ls.length).filter fun v : Nat => decide (-10000 * (k : Int) ≤ p (v : Int))).length < ((List.range n.ls.length).filter fun v : Nat => decide (-10000 * ((k + 1 : Nat) : Int) ≤ p (v : Int))).length := by
      rw [← List.countP_eq_length_filter, ← List.countP_eq_length_filter]
      have : ∀ l : List Nat, v.toNat ∈ l → l.countP (fun v : Nat => decide (-10000 * (k : Int) ≤ p (v : Int))) < l.countP (fun v : Nat => decide (-10000 * ((k + 1 : Nat) : Int) ≤ p (v : Int))) := fun l => by
       induction l with
       | nil => intro h; cases h
       | cons u l ih2 =>
        intro hm
        have hle : l.countP (fun v : Nat => decide (-10000 * (k : Int) ≤ p (v : Int))) ≤ l.countP (fun v : Nat => decide (-10000 * ((k + 1 : Nat) : Int) ≤ p (v : Int))) := List.countP_mono_left fun w _ hw => by simp only [decide_eq_true_eq] at hw ⊢; omega
        rw [List.countP_cons, List.countP_cons]
        rcases List.mem_cons.1 hm with e | hm
        ·rw [← e, show ((v.toNat : Nat) : Int) = v by omega, if_neg (by simpa using h3), if_pos (by simpa using h2)]
         omega
        ·have := ih2 hm
         by_cases q : -10000 * (k : Int) ≤ p (u : Int)
         ·rw [if_pos (by simpa using q), if_pos (by simp only [decide_eq_true_eq]; omega)]; omega
         ·rw [if_neg (by simpa using q)]; omega
      exact this _ (List.mem_range.2 (by omega))
     omega
    ·left
     have hcl := leave_all ok hj hf hs0 hs1 (S := fun v => decide (-10000 * (k : Int) ≤ p v)) (by have := hps; simp only [decide_eq_true_eq]; omega) (fun a ha hfr => by
      simp only [decide_eq_true_eq] at hfr ⊢
      have o := hO a ha
      have h1 := hpa a ha (by omega)
      have h2 := o.l0
      refine Classical.byContradiction fun hnot => hn ⟨a.tv, o.t0, o.t1, by omega, hnot⟩)
     intro v h0 h1
     have := hcl v h0 h1
     simp only [decide_eq_true_eq] at this
     omega
 rcases cnt 8 (Nat.le_refl _) with h | h
 ·intro v h0 h1
  have := h v h0 h1
  omega
 ·have := List.length_filter_le (fun v => decide (-10000 * ((8 : Nat) : Int) ≤ p ((v : Nat) : Int))) (List.range n.ls.length)
  rw [List.length_range] at this
  omega
end Go.Proofs.YtbdleggmdbihnaaGreat

/- The lowest and the greatest best corrections of a joined net, by longest paths; without a program. -/
namespace Go.Proofs.YtbdleggmdbihnaaGreat
set_option linter.unusedVariables false
set_option linter.unusedSimpArgs false
abbrev arZ (n : Nt) : List Ac := arcsU n.cs (flZ n) n.cs.length
def minC (n : Nt) : Int := valU n.cs (flZ n) n.cs.length
theorem minC_le {n : Nt} (ok : OkN n) (p : Int → Int) : minC n ≤ costP n.cs p n.cs.length := weak ok (flZ_ok ok).1 p
theorem feas_best {n : Nt} (ok : OkN n) {p : Int → Int} (h : Feas (arZ n) p) : costP n.cs p n.cs.length = minC n := (strong ok (flZ_ok ok).1 h).symm
theorem best_feas {n : Nt} (ok : OkN n) {p : Int → Int} (h : costP n.cs p n.cs.length = minC n) : Feas (arZ n) p := by
 have hf := (flZ_ok ok).1
 have hv := valP_eq ok hf p
 have key : ∀ i, i ≤ n.cs.length → valP n.cs (flZ n) p i ≤ costP n.cs p i ∧ (valP n.cs (flZ n) p i = costP n.cs p i → ∀ j, j < i → cAt (flZ n) (j : Nat) * resP (n.cs.getD j default) p = (n.cs.getD j default).wt * absI (resP (n.cs.getD j default) p)) := fun i => by
  induction i with
  | zero => intro _; exact ⟨Int.le_refl _, fun _ j hj => by omega⟩
  | succ i ih =>
   intro hi
   obtain ⟨h1, h2⟩ := ih (by omega)
   have hb := hf.bd i (by omega)
   rw [← gd_at (by omega)] at hb
   have h3 := absI_mul (z := resP (n.cs.getD i default) p) hb.1 hb.2
   rw [valP, costP]
   refine ⟨by omega, fun he j hj => ?_⟩
   by_cases e : j = i
   ·subst e; omega
   ·exact h2 (by omega) j (by omega)
 have hk := (key _ (Nat.le_refl _)).2 (by rw [hv, h]; rfl)
 intro a ha
 have o := arcsU_ok (fl := flZ n) n.cs.length (Nat.le_refl _) a ha
 have hj : a.cr.toNat < n.cs.length := by have := o.c0; have := o.c1; omega
 have he := hk a.cr.toNat hj
 rw [show ((a.cr.toNat : Nat) : Int) = a.cr by have := o.c0; omega] at he
 have hx := ok.rg _ (List.getElem_mem hj)
 rw [← gd_at hj] at hx
 have hw := hx.wt
 rcases o.dir with ⟨-, e1, e2, e3, e4⟩ | ⟨-, e1, e2, e3, e4⟩
 ·rw [e1, e2, e3]
  generalize n.cs.getD a.cr.toNat default = x at *
  generalize cAt (flZ n) a.cr = f at *
  have : ¬ 0 < resP x p := fun hp => by
   unfold absI at he
   rw [if_neg (by omega)] at he
   have := Int.mul_lt_mul_of_pos_right e4 hp
   omega
  unfold resP at this
  omega
 ·rw [e1, e2, e3]
  generalize n.cs.getD a.cr.toNat default = x at *
  generalize cAt (flZ n) a.cr = f at *
  have : ¬ resP x p < 0 := fun hp => by
   unfold absI at he
   rw [if_pos hp] at he
   have := Int.mul_lt_mul_of_pos_right e4 (show 0 < 0 - resP x p by omega)
   rw [Int.mul_sub, Int.mul_zero] at he
   rw [Int.sub_mul, Int.zero_mul, Int.mul_sub, Int.mul_zero, Int.mul_sub, Int.mul_zero] at this
   omega
  unfold resP at this
  omega
theorem pot0 {n : Nt} (ok : OkN n) : ∃ p : Int → Int, p 0 = 0 ∧ Feas (arZ n) p := by
 obtain ⟨p, hp⟩ := flow_pot ok (flZ_ok ok).2
 exact ⟨fun v => p v - p 0, by simp, fun a ha => by have := hp a ha; simp only; omega⟩
theorem arZ_ok {n : Nt} (ok : OkN n) : ∀ a ∈ arZ n, OkA n.ls.length 10000 a := fun a ha => (arcsU_ok (fl := flZ n) n.cs.length (Nat.le_refl _) a ha).okA ok
abbrev lgZ (n : Nt) (s : Int) : List Int := (lgS (arZ n) n.ls.length [s]).1.L
theorem lgZ_ok {n : Nt} (ok : OkN n) {s : Int} (h0 : 0 ≤ s) (h1 : s < (n.ls.length : Int)) : lgC (arZ n) n.ls.length [s] = [] ∧ LgOk (arZ n) n.ls.length [s] (lgZ n s) := by
 obtain ⟨p, -, hp⟩ := pot0 ok
 exact lg_feas (by omega) (by omega) ok.l8 (arcsU_len16 ok _) (arZ_ok ok) (fun v hv => by rw [List.mem_singleton] at hv; subst hv; exact ⟨h0, h1⟩) hp
theorem lgZ_all {n : Nt} (ok : OkN n) (hj : Jn n) {s : Int} (h0 : 0 ≤ s) (h1 : s < (n.ls.length : Int)) : ∀ v, 0 ≤ v → v < (n.ls.length : Int) → -80000 ≤ cAt (lgZ n s) v := by
 have hL := (lgZ_ok ok h0 h1).2
 exact lg_all ok hj (flZ_ok ok).1 h0 h1 (p := cAt (lgZ n s)) (hL.src s (by simp)) hL.sat
theorem lgZ_feas {n : Nt} (ok : OkN n) (hj : Jn n) {s : Int} (h0 : 0 ≤ s) (h1 : s < (n.ls.length : Int)) : Feas (arZ n) (cAt (lgZ n s)) := fun a ha => by
 have o := arZ_ok ok a ha
 have := lgZ_all ok hj h0 h1 a.fr o.f0 o.f1
 exact (lgZ_ok ok h0 h1).2.sat a ha (by omega)
theorem feas_bd {n : Nt} (ok : OkN n) (hj : Jn n) {q : Int → Int} (hq : Feas (arZ n) q) {s v : Int} (h0 : 0 ≤ s) (h1 : s < (n.ls.length : Int)) (v0 : 0 ≤ v) (v1 : v < (n.ls.length : Int)) : -80000 ≤ q v - q s :=
 lg_all ok hj (flZ_ok ok).1 h0 h1 (p := fun v => q v - q s) (by simp) (fun a ha _ => by have := hq a ha; omega) v v0 v1
theorem lgZ_low {n : Nt} (ok : OkN n) (hj : Jn n) {q : Int → Int} (hq : Feas (arZ n) q) {s v : Int} (h0 : 0 ≤ s) (h1 : s < (n.ls.length : Int)) (v0 : 0 ≤ v) (v1 : v < (n.ls.length : Int)) : cAt (lgZ n s) v ≤ q v - q s := by
 refine (lgZ_ok ok h0 h1).2.low (fun v => q v - q s) (fun a ha => by have := hq a ha; simp only; omega) (fun u u0 u1 => ?_) v v0 v1
 rw [srcL_one h0 h1 u0]
 have := feas_bd ok hj hq h0 h1 u0 u1
 split
 ·rename_i e; subst e; simp
 ·omega
theorem lgZ_self {n : Nt} (ok : OkN n) (hj : Jn n) {s : Int} (h0 : 0 ≤ s) (h1 : s < (n.ls.length : Int)) : cAt (lgZ n s) s = 0 := by
 obtain ⟨p, -, hp⟩ := pot0 ok
 have := lgZ_low ok hj hp h0 h1 h0 h1
 have := (lgZ_ok ok h0 h1).2.src s (by simp)
 omega
def upP (n : Nt) (v : Int) : Int := 0 - cAt (lgZ n v) 0
theorem upP_feas {n : Nt} (ok : OkN n) (hj : Jn n) : Feas (arZ n) (upP n) := fun a ha => by
 have o := arZ_ok ok a ha
 have l1 := ok.l1
 have h1 := lgZ_feas ok hj o.f0 o.f1
 have h2 := lgZ_low ok hj h1 o.t0 o.t1 (v := 0) (by omega) (by omega)
 have h3 := h1 a ha
 have h4 := (lgZ_ok ok o.f0 o.f1).2.src a.fr (by simp)
 unfold upP
 omega
theorem upP_zero {n : Nt} (ok : OkN n) (hj : Jn n) : upP n 0 = 0 := by
 have l1 := ok.l1
 unfold upP
 rw [lgZ_self ok hj (by omega) (by omega)]; rfl
theorem upP_ge {n : Nt} (ok : OkN n) (hj : Jn n) {q : Int → Int} (hq : Feas (arZ n) q) (h0 : q 0 = 0) {v : Int} (v0 : 0 ≤ v) (v1 : v < (n.ls.length : Int)) : q v ≤ upP n v := by
 have l1 := ok.l1
 have := lgZ_low ok hj hq v0 v1 (v := 0) (by omega) (by omega)
 unfold upP
 omega
theorem best_in {n : Nt} (ok : OkN n) (hj : Jn n) {q : Int → Int} (hq : costP n.cs q n.cs.length = minC n) (h0 : q 0 = 0) {v : Int} (v0 : 0 ≤ v) (v1 : v < (n.ls.length : Int)) : cAt (lgZ n 0) v ≤ q v ∧ q v ≤ upP n v ∧ -80000 ≤ q v ∧ q v ≤ 80000 := by
 have l1 := ok.l1
 have hf := best_feas ok hq
 have h1 := lgZ_low ok hj hf (s := 0) (by omega) (by omega) v0 v1
 have h2 := upP_ge ok hj hf h0 v0 v1
 have h3 := feas_bd ok hj hf (s := 0) (by omega) (by omega) v0 v1
 have h4 := feas_bd ok hj hf v0 v1 (v := 0) (by omega) (by omega)
 rw [h0] at h1 h3 h4
 exact ⟨by omega, h2, by omega, by omega⟩
theorem low_is {n : Nt} (ok : OkN n) (hj : Jn n) {p : Int → Int} (hp : costP n.cs p n.cs.length = minC n) (h0 : p 0 = 0) (h : ∀ S : Int → Bool, S 0 = false → (∃ v, 0 ≤ v ∧ v < (n.ls.length : Int) ∧ S v = true) → costP n.cs (mvP p S (-1)) n.cs.length ≠ costP n.cs p n.cs.length) {v : Int} (v0 : 0 ≤ v) (v1 : v < (n.ls.length : Int)) : p v = cAt (lgZ n 0) v := by
 have l1 := ok.l1
 have hz := lgZ_self ok hj (s := 0) (by omega) (by omega)
 have h1 := local_low ok (p := p) (fun q _ => by rw [hp]; exact minC_le ok q) h (q := cAt (lgZ n 0)) (by rw [hz, h0]) (by rw [feas_best ok (lgZ_feas ok hj (by omega) (by omega)), hp]) v0 v1
 have h2 := (best_in ok hj hp h0 v0 v1).1
 omega
def negN (n : Nt) : Nt := ⟨n.ls, n.cs.map fun x => ⟨x.ln, x.ti, x.pa, x.pt, 0 - x.df, x.wt⟩⟩
theorem negN_ok {n : Nt} (ok : OkN n) : OkN (negN n) := by
 refine ⟨ok.l1, ok.l8, by simpa [negN] using ok.c16, fun x hx => ?_, fun x hx => ?_, fun i j hi hj hij => ?_⟩
 ·obtain ⟨y, hy, rfl⟩ := List.mem_map.1 hx
  have o := ok.rg y hy
  exact ⟨o.l0, o.l1, o.t0, o.t1, o.pa, o.pt, by have := o.df; simp only; omega, o.wt⟩
 ·obtain ⟨y, hy, rfl⟩ := List.mem_map.1 hx
  exact ok.kd y hy
 ·have hl : (negN n).cs.length = n.cs.length := by simp [negN]
  have := ok.ds i j (by omega) (by omega) hij
  simp only [negN, List.getElem_map]
  exact this
theorem costP_neg (n : Nt) (p : Int → Int) : costP (negN n).cs p (negN n).cs.length = costP n.cs (fun v => 0 - p v) n.cs.length := by
 have hl : (negN n).cs.length = n.cs.length := by simp [negN]
 rw [hl]
 have : ∀ i, i ≤ n.cs.length → costP (negN n).cs p i = costP n.cs (fun v => 0 - p v) i := fun i => by
  induction i with
  | zero => intro _; rfl
  | succ i ih =>
   intro hi
   have e : (negN n).cs.getD i default = ⟨(n.cs.getD i default).ln, (n.cs.getD i default).ti, (n.cs.getD i default).pa, (n.cs.getD i default).pt, 0 - (n.cs.getD i default).df, (n.cs.getD i default).wt⟩ := by
    rw [List.getD_eq_getElem?_getD, List.getD_eq_getElem?_getD, List.getElem?_eq_getElem (by omega)]
    simp [negN, List.getElem?_eq_getElem (show i < n.cs.length by omega)]
   rw [costP, costP, ih (by omega), e]
   unfold resP
   simp only
   congr 2
   unfold absI
   split <;> split <;> omega
 exact this _ (Nat.le_refl _)
theorem minC_neg {n : Nt} (ok : OkN n) : minC (negN n) = minC n := by
 have ok' := negN_ok ok
 obtain ⟨p, hp⟩ := (flZ_max ok).2
 obtain ⟨q, hq⟩ := (flZ_max ok').2
 have h1 := minC_le ok' (fun v => 0 - p v)
 have h2 := minC_le ok (fun v => 0 - q v)
 rw [costP_neg] at h1
 rw [show (fun v => 0 - (0 - p v)) = p by funext v; omega] at h1
 have h3 := costP_neg n q
 have e1 : minC n = costP n.cs p n.cs.length := hp
 have e2 : minC (negN n) = costP (negN n).cs q (negN n).cs.length := hq
 omega
theorem negN_jn {n : Nt} (hj : Jn n) : Jn (negN n) := fun S h0 hc v v0 v1 => hj S h0 (fun x hx => hc ⟨x.ln, x.ti, x.pa, x.pt, 0 - x.df, x.wt⟩ (List.mem_map.2 ⟨x, hx, rfl⟩)) v v0 v1
theorem low_neg {n : Nt} (ok : OkN n) (hj : Jn n) {v : Int} (v0 : 0 ≤ v) (v1 : v < (n.ls.length : Int)) : cAt (lgZ (negN n) 0) v = 0 - upP n v := by
 have ok' := negN_ok ok
 have hj' := negN_jn hj
 have l1 := ok.l1
 have hb : costP (negN n).cs (fun v => 0 - upP n v) (negN n).cs.length = minC (negN n) := by
  rw [costP_neg, minC_neg ok]
  rw [show (fun v => 0 - (0 - upP n v)) = upP n by funext v; omega]
  exact feas_best ok (upP_feas ok hj)
 have h1 := (best_in ok' hj' hb (by simp [upP_zero ok hj]) v0 v1).1
 have hf := lgZ_feas ok' hj' (s := 0) (by omega) (by show (0 : Int) < (n.ls.length : Int); omega)
 have hb2 : costP n.cs (fun v => 0 - cAt (lgZ (negN n) 0) v) n.cs.length = minC n := by
  rw [← costP_neg, ← minC_neg ok]
  exact feas_best ok' hf
 have hz := lgZ_self ok' hj' (s := 0) (by omega) (by show (0 : Int) < (n.ls.length : Int); omega)
 have h2 := (best_in ok hj hb2 (by simp [hz]) v0 v1).2.1
 try simp only at h1 h2
 omega
end Go.Proofs.YtbdleggmdbihnaaGreat

/- Contracts: nets that must be joined; the lowest best corrections; the ranges; the program. -/
namespace Go.Proofs.YtbdleggmdbihnaaGreat
open Go.RowKit
set_option linter.unusedVariables false
set_option linter.unusedSimpArgs false
def minU (L : List Int) : Nat → Int
 | 0 => cAt L 0
 | i + 1 => mn (minU L i) (cAt L (i + 1))
theorem minU_far {L : List Int} : ∀ i, (∀ v : Nat, v ≤ i → -1099511627776 ≤ cAt L v) → (minU L i = -1099511627776 ↔ ∃ v : Nat, v ≤ i ∧ cAt L v = -1099511627776) ∧ -1099511627776 ≤ minU L i
 | 0, h => ⟨⟨fun e => ⟨0, Nat.le_refl _, e⟩, fun ⟨v, h1, h2⟩ => (by have e : v = 0 := (by omega); subst e; exact h2)⟩, h 0 (Nat.le_refl _)⟩
 | i + 1, h => by
  obtain ⟨h1, h2⟩ := minU_far i (fun v hv => h v (by omega))
  have h3 := h (i + 1) (Nat.le_refl _)
  have e : ((i + 1 : Nat) : Int) = (i : Int) + 1 := by omega
  rw [e] at h3
  rw [minU]
  unfold mn
  refine ⟨⟨fun hm => ?_, fun ⟨v, hv, he⟩ => ?_⟩, by split <;> omega⟩
  ·split at hm
   ·exact ⟨i + 1, Nat.le_refl _, by rw [e]; exact hm⟩
   ·obtain ⟨v, hv, he⟩ := h1.1 hm
    exact ⟨v, by omega, he⟩
  ·by_cases ev : v = i + 1
   ·subst ev
    rw [e] at he
    split <;> omega
   ·have := h1.2 ⟨v, by omega, he⟩
    split <;> omega
theorem mf_Min : MT.mf 92 = some mfW_l92 := mfW_q92
theorem Min_z (k : Nat) (L : List Int) (h1 : 0 < L.length) (h8 : L.length ≤ 1000) : runZ MT (orA k) (itA k) 4000000 92 [.sl (L.map I64)] [] = some (I64 (minU L (L.length - 1)), []) := by
 have hl : (MV.sl (L.map I64)).slen = some L.length := by simp [MV.slen]
 have e0 : (L.map I64)[(0 : Int).toNat]? = some (I64 (cAt L 0)) := cAt_at rfl (by omega) (by omega)
 refine runZ_of mf_Min (by simp) ?_
 simp only [argsL]
 repeat (first | apply ef_seq | (apply ef_mv; exact rfl; exact rfl) | (apply ef_bin; (iterate 3 exact rfl); (exact cmp_f rfl (by simp only [cmpP]; omega))) | (apply ef_len; exact rfl; exact rfl; (assumption)) | (apply ef_ldr; exact rfl; exact rfl; (exact rfl)) | (apply ef_ias; (iterate 3 exact rfl); (omega); assumption; exact rfl) | apply ef_nil | apply seqQ.normal | apply ef_block | apply ef_skip | (apply ef_condf; exact rfl; (exact (rfl : false = false))))
 refine ef_loopf (α := Nat) (fun i => i < L.length) (fun i => [(4, I64 ((i : Int) + 1)), (3, I64 (minU L i))]) [(0, .sl (L.map I64))] (fun _ => []) (fun i => L.length - i) 0 [4, 3] (fun _ => rfl) (by ((repeat (refine Hold.cons (by exact rfl) ?_)); exact Hold.nil)) (by ((repeat (refine Hold.cons (by exact rfl) ?_)); exact Hold.nil)) rfl rfl h1 (by show L.length - 0 < 4000000; omega) ?_
 intro i hi
 try simp only at hi ⊢
 by_cases hlt : i + 1 < L.length
 ·have e1 : (L.map I64)[((i : Int) + 1).toNat]? = some (I64 (cAt L ((i : Int) + 1))) := cAt_at rfl (by omega) (by omega)
  have HN := Bx.mk (show minU L (i + 1) = mn (minU L i) (cAt L ((i : Int) + 1)) from rfl)
  generalize cAt L ((i : Int) + 1) = z at e1 HN
  generalize minU L i = w at *
  repeat (first | apply ef_seq | (apply ef_mv; exact rfl; exact rfl) | (apply ef_bin; (iterate 3 exact rfl); (first | exact cmp_t rfl (by first | exact rfl | (simp only [cmpP]; omega)) | ((with_reducible refine bin_add (wrap_of ?_ ?_)) <;> omega))) | (apply ef_len; exact rfl; exact rfl; (assumption)) | (apply ef_ldr; exact rfl; exact rfl; (exact rfl)) | (apply ef_ias; (iterate 3 exact rfl); (omega); assumption; exact rfl) | (apply ef_mn; (iterate 3 exact rfl)) | apply ef_nil | apply seqQ.normal | apply blockQ.normal | apply ef_block | apply ef_skip | (apply ef_condt; exact rfl; (exact (rfl : true = true))))
  refine loopQ.normal _ _ ⟨i + 1, hlt, by (show L.length - (i + 1) < L.length - i; omega), ⟨?_, by ((repeat (refine Hold.cons (by exact rfl) ?_)); exact Hold.nil)⟩, .inl (Nat.le_refl _), by exact rfl⟩
  rw [HN.out, show ((i + 1 : Nat) : Int) = (i : Int) + 1 by omega]
  ((repeat (refine Hold.cons (by exact rfl) ?_)); exact Hold.nil)
 ·have e : L.length - 1 = i := by omega
  rw [e]
  repeat (first | apply ef_seq | (apply ef_mv; exact rfl; exact rfl) | (apply ef_bin; (iterate 3 exact rfl); (exact cmp_f rfl (by simp only [cmpP]; omega))) | (apply ef_len; exact rfl; exact rfl; (assumption)) | apply ef_nil | apply seqQ.normal | apply loopQ.exit | apply ef_ret | apply ef_exit | apply seqQ.exit | apply blockQ.here | (apply ef_condf; exact rfl; (exact (rfl : false = false))))
  (refine fin1 rfl (by exact rfl) rfl ?_)
  rfl
theorem Min_c (k : Nat) (L : List Int) (h1 : 0 < L.length) (h8 : L.length ≤ 1000) (h : MHeap) {v : MV} (hv : frz 0 [] h 8 v = some (.sl (L.map I64))) : orA (k + 1) 92 [v] h = some (I64 (minU L (L.length - 1)), h) :=
 callL (args' := [.sl (L.map I64)]) (by simp [List.mapM_cons, hv]) rfl (Min_z k L h1 h8)
def wayA (x : Cr) : List Ac := [⟨x.ln, x.ti, 0, 0, 0⟩, ⟨x.ti, x.ln, 0, 0, 0⟩]
def waysU (cs : List Cr) : Nat → List Ac
 | 0 => []
 | i + 1 => waysU cs i ++ wayA (cs.getD i default)
theorem waysU_len (cs : List Cr) : ∀ i, (waysU cs i).length = 2 * i
 | 0 => rfl
 | i + 1 => by rw [waysU, List.length_append, waysU_len cs i]; simp [wayA]; omega
theorem waysU_next {cs : List Cr} {i : Nat} {x : Cr} (h : cs[i]? = some x) : waysU cs (i + 1) = waysU cs i ++ wayA x := by
 rw [waysU, List.getD_eq_getElem?_getD, h]; rfl
theorem waysU_mem {n : Nt} : ∀ i, i ≤ n.cs.length → ∀ a, a ∈ waysU n.cs i ↔ ∃ j, j < i ∧ ∃ h : j < n.cs.length, a ∈ wayA n.cs[j]
 | 0, _, a => by simp [waysU]
 | i + 1, hi, a => by
  have ih := waysU_mem (n := n) i (by omega) a
  rw [waysU_next (List.getElem?_eq_getElem (show i < n.cs.length by omega)), List.mem_append, ih]
  constructor
  ·rintro (⟨j, h1, h2, h3⟩ | h)
   ·exact ⟨j, by omega, h2, h3⟩
   ·exact ⟨i, by omega, by omega, h⟩
  ·rintro ⟨j, h1, h2, h3⟩
   by_cases e : j = i
   ·subst e; exact .inr h3
   ·exact .inl ⟨j, by omega, h2, h3⟩
theorem ways_ok {n : Nt} (ok : OkN n) : ∀ a ∈ waysU n.cs n.cs.length, OkA n.ls.length 0 a := fun a ha => by
 obtain ⟨j, -, hj, hm⟩ := (waysU_mem _ (Nat.le_refl _) a).1 ha
 have o := ok.rg _ (List.getElem_mem hj)
 have k := ok.kd _ (List.getElem_mem hj)
 have hne : n.cs[j].ln ≠ n.cs[j].ti := fun e => by rw [e] at k; rw [k.1] at k; exact absurd k.2 (by simp)
 simp only [wayA, List.mem_cons, List.not_mem_nil, or_false] at hm
 rcases hm with rfl | rfl
 ·exact ⟨o.l0, o.l1, o.t0, o.t1, by simp, by simp, hne⟩
 ·exact ⟨o.t0, o.t1, o.l0, o.l1, by simp, by simp, hne.symm⟩
abbrev lgW (n : Nt) : List Int := (lgS (waysU n.cs n.cs.length) n.ls.length [0]).1.L
theorem lgW_ok {n : Nt} (ok : OkN n) : lgC (waysU n.cs n.cs.length) n.ls.length [0] = [] ∧ LgOk (waysU n.cs n.cs.length) n.ls.length [0] (lgW n) := by
 have l1 := ok.l1
 have c16 := ok.c16
 refine lg_feas (f := fun _ => 0) (B := 0) (by omega) (by omega) ok.l8 (by rw [waysU_len]; omega) (ways_ok ok) (fun v hv => by rw [List.mem_singleton] at hv; subst hv; omega) (fun a ha => ?_)
 have o := ways_ok ok a ha
 have := o.l1
 simp only; omega
def jnB (n : Nt) : Bool := decide (minU (lgW n) (n.ls.length - 1) ≠ -1099511627776)
theorem jnB_iff {n : Nt} (ok : OkN n) : jnB n = true ↔ Jn n := by
 have l1 := ok.l1
 obtain ⟨-, hL⟩ := lgW_ok ok
 have hm := (minU_far (L := lgW n) (n.ls.length - 1) (fun v _ => hL.far v)).1
 unfold jnB
 rw [decide_eq_true_eq]
 constructor
 ·intro hne S h0 hc v v0 v1
  refine Classical.byContradiction fun hS => ?_
  have hlow := hL.low (fun v => if S v then 0 else -1099511627776) (fun a ha => by
   obtain ⟨j, -, hj, hmem⟩ := (waysU_mem _ (Nat.le_refl _) a).1 ha
   have e := hc _ (List.getElem_mem hj)
   simp only [wayA, List.mem_cons, List.not_mem_nil, or_false] at hmem
   rcases hmem with rfl | rfl
   ·simp only; rw [e]; omega
   ·simp only; rw [e]; omega) (fun u u0 u1 => by
   rw [srcL_one (by omega) (by omega) u0]
   split
   ·rename_i e; subst e; simp [h0]
   ·(repeat' split) <;> omega) v v0 v1
  try simp only at hlow
  rw [if_neg hS] at hlow
  have := hL.far v
  refine hne (hm.2 ⟨v.toNat, by omega, ?_⟩)
  rw [show ((v.toNat : Nat) : Int) = v by omega]
  omega
 ·intro hj he
  obtain ⟨v, hv, hf⟩ := hm.1 he
  have := hj (fun v => decide (cAt (lgW n) v > -549755813888)) (by have := hL.src 0 (by simp); simp only [decide_eq_true_eq]; omega) (fun x hx => by
   obtain ⟨j, hj2, rfl⟩ := List.getElem_of_mem hx
   have m1 := (waysU_mem (n := n) _ (Nat.le_refl _) ⟨n.cs[j].ln, n.cs[j].ti, 0, 0, 0⟩).2 ⟨j, hj2, hj2, by simp [wayA]⟩
   have m2 := (waysU_mem (n := n) _ (Nat.le_refl _) ⟨n.cs[j].ti, n.cs[j].ln, 0, 0, 0⟩).2 ⟨j, hj2, hj2, by simp [wayA]⟩
   have s1 := hL.sat _ m1
   have s2 := hL.sat _ m2
   simp only at s1 s2
   by_cases c1 : cAt (lgW n) n.cs[j].ln > -549755813888
   ·have := s1 c1
    rw [decide_eq_true c1, decide_eq_true (by omega)]
   ·by_cases c2 : cAt (lgW n) n.cs[j].ti > -549755813888
    ·have := s2 c2; omega
    ·rw [decide_eq_false c1, decide_eq_false c2]) v (by omega) (by omega)
  simp only [decide_eq_true_eq] at this
  omega
end Go.Proofs.YtbdleggmdbihnaaGreat

/- Contracts: nets that must be joined; the lowest best corrections; the program. -/
namespace Go.Proofs.YtbdleggmdbihnaaGreat
open Go.RowKit
set_option linter.unusedVariables false
set_option linter.unusedSimpArgs false
def joE (n : Nt) : Int := if (netF n).2 = 0 then (if jnB n then 0 else 21) else (netF n).2
theorem joE_ok {n : Nt} (h : joE n = 0) : (netF n).2 = 0 ∧ OkN n ∧ Jn n := by
 unfold joE at h
 split at h
 ·rename_i h0
  split at h
  ·rename_i hj; exact ⟨h0, net_ok h0, (jnB_iff (net_ok h0)).1 hj⟩
  ·cases h
 ·rename_i h0; exact absurd h h0
abbrev opH (n : Nt) (i : Nat) (rs : List MV) : MHeap := [⟨0, false, 2, [encN n]⟩, ⟨0, false, 2, [.agg [.lit (.slice none 0 0), .lit (.slice none 0 0)]]⟩, ⟨0, true, 5, []⟩, ⟨0, false, 2, [encN n]⟩, ⟨i, decide (i = 0), 5, rs⟩]
theorem fin_op {x : MX2} {A : Sl} {h : MHeap} {r : MRes} {t u w id k g : Nat} {o : MObj} {es : List MV} {nl : Bool} {sz : Nat} {m : MV} {a b : Value} (hx : outX x = true) (hr : ResV A h r m) (hm : m.lt 0 = true) (hna : impIds 0 [m] = []) (hv : look A t = some (.arr id 0 k g)) (ha : look A u = some (.lit a)) (hb : look A w = some (.lit b)) (ho : h[id]? = some o) (hg : o.g = g) (hk : k = es.length) (hl : ltL 0 es = true) (he : o.es = es) (hz : o.sz = sz) (hn : o.nl = nl) (hex : expL 0 [id] h [m, .arr id 0 k g, .lit a, .lit b] 0 = some ([m, .arr 0 0 k 0, .lit a, .lit b], [⟨0, nl, sz, es⟩])) (hi : impIds 0 [m, .arr id 0 k g, .lit a, .lit b] = [id]) :
  FinF [r, .tmp t, .tmp u, .tmp w] (.tup [m, .arr 0 0 k 0, .lit a, .lit b]) [⟨0, nl, sz, es⟩] x A h := by
 refine ⟨hx, [m, .arr id 0 k g, .lit a, .lit b], [m, .arr 0 0 k 0, .lit a, .lit b], ⟨_, _, rfl, hr, _, _, rfl, hv, _, _, rfl, ha, _, [], rfl, hb, rfl⟩, ?_, ?_, rfl⟩
 ·rw [hi]; simp
 ·rw [hi]; exact hex
theorem fin_opN {x : MX2} {A : Sl} {h : MHeap} {r : MRes} {t u w id k g : Nat} {o : MObj} {es : List MV} {nl : Bool} {sz : Nat} {n : Nt} {a b : Value} (hx : outX x = true) (hr : ResV A h r (encN n)) (hv : look A t = some (.arr id 0 k g)) (ha : look A u = some (.lit a)) (hb : look A w = some (.lit b)) (ho : h[id]? = some o) (hg : o.g = g) (hk : k = es.length) (hl : ltL 0 es = true) (he : o.es = es) (hz : o.sz = sz) (hn : o.nl = nl) :
  FinF [r, .tmp t, .tmp u, .tmp w] (.tup [encN n, .arr 0 0 k 0, .lit a, .lit b]) [⟨0, nl, sz, es⟩] x A h := by
 subst hz hn he hk
 refine fin_op hx hr (ltL_N n 0) (by simp [impIds]) hv ha hb ho hg rfl hl rfl rfl rfl ?_ (by simp [impIds])
 simp [expL, ho, hg, hl, frz, MV.lt, ltL, ltL_Ln, ltL_Cr]
theorem mf_openJoined : MT.mf 44 = some mfW_l44 := mfW_q44
set_option maxHeartbeats 4000000 in
theorem openJoined_z (k : Nat) (n : Nt) (hb : BdN n) (h0 : (netF n).2 = 0) :
  runZ MT (orA (k + 6)) (itA (k + 6)) 4000000 44 [encN n] [] = some (if jnB n then (.tup [encN n, .arr 0 0 (arZ n).length 0, I64 (minC n), I64 0], [⟨0, decide ((arZ n).length = 0), 5, (arZ n).map encA⟩]) else (.tup [encN n, .arr 0 0 0 0, I64 0, I64 21], [⟨0, true, 5, []⟩])) := by
 have ok := net_ok h0
 have c16 := ok.c16
 have l1 := ok.l1
 have l8 := ok.l8
 have hs1 : (MV.sl (n.ls.map encLn)).slen = some n.ls.length := by simp [MV.slen]
 have hs2 : (MV.sl (n.cs.map encCr)).slen = some n.cs.length := by simp [MV.slen]
 have w1 := fun h => open_c k n hb h
 rw [h0] at w1
 have w2 := fun h v w hv hw => longest_c (k + 1) n.ls.length l1 l8 (waysU n.cs n.cs.length) 0 (by omega) (by omega) (ways_ok ok) (by rw [waysU_len]; omega) [0] (fun v hv => by rw [List.mem_singleton] at hv; subst hv; omega) (by simp) h (v := v) (w := w) hv hw
 have w4 := fun h => flow_c k n ok h
 have hz := (flZ_ok ok).1
 have w5 := fun h v hv => arcs_c (k + 5) n ok (flZ n) hz.len h (v := v) hv
 have w6 := fun h v hv => value_c (k + 5) n ok (flZ n) hz.len (hz.bd10 ok) h (v := v) hv
 obtain ⟨hgC, hgL⟩ := lgW_ok ok
 have w3 := fun h v hv => Min_c (k + 5) (lgW n) (by rw [hgL.len]; omega) (by rw [hgL.len]; omega) h (v := v) hv
 rw [hgC] at w2
 rw [hgL.len] at w3
 have hwl := hgL.len
 have HJ := Bx.mk (show jnB n = decide (minU (lgW n) (n.ls.length - 1) ≠ -1099511627776) from rfl)
 have hzl := hz.len
 have hwy := waysU_len n.cs n.cs.length
 unfold minC
 refine runZ_of mf_openJoined (by simp) ?_
 simp only [argsL]
 repeat (first | apply ef_seq | (apply ef_mv; exact rfl; exact rfl) | (apply ef_bin; (iterate 3 exact rfl); (exact cmp_f rfl (by simp only [cmpP]; omega))) | (apply ef_len; exact rfl; exact rfl; (assumption)) | (apply ef_ldp; exact rfl; exact rfl; (exact rfl); exact rfl; (exact rfl); (first | exact rd_2 rfl rfl | exact rfl)) | (apply ef_fap; exact rfl; exact rfl) | (apply ef_ext; (iterate 3 exact rfl)) | (apply ef_box; (iterate 4 exact rfl)) | (apply ef_new; exact rfl) | (apply ef_nil0; exact rfl) | (apply ef_st; (iterate 6 exact rfl); (exact rfl); exact rfl) | apply ef_nil | apply seqQ.normal | apply ef_block | apply ef_skip | (apply ef_condf; exact rfl; (exact (rfl : false = false))) | (apply ef_call; exact rfl; ((repeat (apply XVs.cons; exact rfl)); exact XVs.nil); (with_reducible exact w1 _)))
 refine ef_loopf (α := Nat × List MV) (fun p => p.1 ≤ n.cs.length ∧ p.2 = (waysU n.cs p.1).map encA) (fun p => [(26, I64 (p.1 : Int)), (8, .arr 4 0 (2 * p.1) p.1)]) [(25, I64 (n.cs.length : Int)), (24, .sl (n.cs.map encCr)), (1, .ptr 0 0 0 0), (6, .ptr 3 0 0 0), (2, .ptr 1 0 0 0)] (fun p => opH n p.1 p.2) (fun p => n.cs.length - p.1) (0, []) [26, 8] (fun _ => rfl) (by ((repeat (refine Hold.cons (by exact rfl) ?_)); exact Hold.nil)) (by ((repeat (refine Hold.cons (by exact rfl) ?_)); exact Hold.nil)) rfl rfl ⟨by omega, rfl⟩ (by show n.cs.length - 0 < 4000000; omega) ?_
 rintro ⟨i, rs⟩ ⟨hi, hrs⟩
 try simp only at hi hrs ⊢
 have hrl : rs.length = 2 * i := by rw [hrs, List.length_map, waysU_len]
 have hlr : ∀ j, ltL j rs = true := fun j => by rw [hrs]; exact ltL_A j _
 by_cases hlt : i < n.cs.length
 ·have e1 := at_map encCr n.cs i hlt
  have hat : n.cs[i]? = some n.cs[i] := List.getElem?_eq_getElem hlt
  have HN := Bx.mk (waysU_next hat)
  generalize n.cs[i] = x at e1 HN
  clear hat
  repeat (first | apply ef_seq | (apply ef_mv; exact rfl; exact rfl) | (apply ef_bin; (iterate 3 exact rfl); (exact cmp_t rfl (by first | exact rfl | (simp only [cmpP]; omega)))) | (apply ef_ldr; exact rfl; exact rfl; (exact rd_6 rfl rfl rfl rfl rfl rfl)) | (apply ef_ldp; exact rfl; exact rfl; (exact rfl); exact rfl; (exact rfl); (exact rfl)) | (apply ef_ias; (iterate 3 exact rfl); (omega); assumption; exact rfl) | (apply ef_fap; exact rfl; exact rfl) | (apply ef_new; exact rfl) | (apply ef_build; exact rfl; (repeat (apply XVs.cons; exact rfl)); exact XVs.nil; exact rfl; exact rfl) | (apply ef_bsl; exact rfl; (repeat (apply XVs.cons; exact rfl)); exact XVs.nil; exact rfl) | (apply ef_st; (iterate 6 exact rfl); (exact rfl); exact rfl) | apply ef_nil | apply seqQ.normal | apply ef_block | apply ef_skip | (apply ef_condt; exact rfl; (exact (rfl : true = true))))
  (apply ef_app; (· exact rfl); (· exact rfl); (· exact rfl); (· exact rfl); (· exact rfl); (· exact rfl); (· (simp [hrl])); (· exact rfl); (· (simp [hrl]; omega)); (· (exact rfl)); (· exact rfl))
  repeat (first | (apply ef_mv; exact rfl; exact rfl) | (apply ef_bin; (iterate 3 exact rfl); (((with_reducible refine bin_add (wrap_of ?_ ?_)) <;> omega))) | apply ef_nil | apply seqQ.normal | apply blockQ.normal)
  (refine loopQ.normal _ _ ⟨(i + 1, rs ++ [encA ⟨x.ln, x.ti, 0, 0, 0⟩, encA ⟨x.ti, x.ln, 0, 0, 0⟩]), ⟨hlt, by rw [HN.out, hrs]; simp [wayA]⟩, (by first | (simp only; omega) | omega), ⟨by ((repeat (refine Hold.cons (by exact rfl) ?_)); exact Hold.nil), by ((repeat (refine Hold.cons (by exact rfl) ?_)); exact Hold.nil)⟩, .inr ⟨by ((repeat (refine hdl_cons rfl (by first | rfl | (simp [MV.lt, ltL, ltL_Ln, ltL_Cr, ltL_I, hlr, ltL_app2, splice, MV.cells])) ?_)); exact hdl_nil), by (simp [hltL, ltL, MV.lt, ltL, ltL_Ln, ltL_Cr, ltL_I, hlr, ltL_app2, splice, MV.cells])⟩, by exact rfl⟩)
 ·obtain rfl : i = n.cs.length := by omega
  repeat (first | apply ef_seq | (apply ef_mv; exact rfl; exact rfl) | (apply ef_bin; (iterate 3 exact rfl); (exact cmp_f rfl (by simp only [cmpP]; omega))) | (apply ef_len; exact rfl; exact rfl; (assumption)) | (apply ef_ldp; exact rfl; exact rfl; (exact rfl); exact rfl; (exact rfl); (exact rfl)) | (apply ef_fap; exact rfl; exact rfl) | (apply ef_bsl; exact rfl; (repeat (apply XVs.cons; exact rfl)); exact XVs.nil; exact rfl) | apply ef_nil | apply seqQ.normal | apply loopQ.exit | apply ef_exit | apply seqQ.exit | apply blockQ.here | (apply ef_condf; exact rfl; (exact (rfl : false = false))))
  (apply ef_call; (· exact rfl); (· ((repeat (apply XVs.cons; exact rfl)); exact XVs.nil)); · exact w2 _ _ _ (frz_row (o := ⟨n.cs.length, decide (n.cs.length = 0), 5, rs⟩) rfl rfl (by simp [hwy]) (ltL_A 0 _) hrs) (frz_row (o := ⟨0, false, 1, [I64 0]⟩) rfl rfl rfl rfl rfl))
  repeat (first | apply ef_seq | (apply ef_mv; exact rfl; exact rfl) | (apply ef_ext; (iterate 3 exact rfl)) | apply ef_nil | apply seqQ.normal)
  (apply ef_call; (· exact rfl); (· ((repeat (apply XVs.cons; exact rfl)); exact XVs.nil)); · exact w3 _ _ (frz_row (o := ⟨0, false, 1, (lgW n).map I64⟩) rfl rfl (by simp [hwl]) (ltL_I 0 _) rfl))
  cases hj : jnB n
  ·have hmf : minU (lgW n) (n.ls.length - 1) = -1099511627776 := by rw [HJ.out] at hj; simpa using hj
   rw [hmf]
   repeat (first | apply ef_seq | (apply ef_mv; exact rfl; exact rfl) | (apply ef_bin; (iterate 3 exact rfl); (exact cmp_t rfl (by first | exact rfl | (simp only [cmpP]; omega)))) | (apply ef_ldp; exact rfl; exact rfl; (exact rfl); exact rfl; (exact rfl); (exact rd_2 rfl rfl)) | (apply ef_nil0; exact rfl) | (apply ef_st; (iterate 6 exact rfl); (exact rfl); exact rfl) | apply ef_nil | apply seqQ.normal | apply ef_ret | apply seqQ.ret | (apply ef_condt; exact rfl; (exact (rfl : true = true))))
   show FinF _ (.tup [encN n, .arr 0 0 0 0, I64 0, I64 21]) [⟨0, true, 5, []⟩] _ _ _
   (apply fin_opN; (· exact rfl); (· exact ⟨1, 0, 0, 0, _, _, by exact rfl, by exact rfl, rfl, rfl, rd_2 rfl rfl⟩); (· exact rfl); (· exact rfl); (· exact rfl); (· exact rfl); (· exact rfl); (· exact rfl); (· exact rfl); (· exact rfl); (· exact rfl); (· exact rfl))
  ·have hmf : (minU (lgW n) (n.ls.length - 1) == -1099511627776) = false := by rw [HJ.out] at hj; simpa using hj
   generalize minU (lgW n) (n.ls.length - 1) = mm at *
   clear HJ
   repeat (first | apply ef_seq | (apply ef_mv; exact rfl; exact rfl) | (apply ef_bin; (iterate 3 exact rfl); (exact rfl)) | (apply ef_ldp; exact rfl; exact rfl; (exact rfl); exact rfl; (exact rfl); (exact rd_2 rfl rfl)) | apply ef_nil | apply seqQ.normal | apply ef_skip | (apply ef_condf; exact rfl; (assumption)) | (apply ef_call; exact rfl; ((repeat (apply XVs.cons; exact rfl)); exact XVs.nil); (with_reducible exact w4 _)))
   (apply ef_call; (· exact rfl); (· ((repeat (apply XVs.cons; exact rfl)); exact XVs.nil)); · exact w5 _ _ (frz_row (o := ⟨0, false, 1, (flZ n).map I64⟩) rfl rfl (by simp [hzl]) (ltL_I 0 _) rfl))
   repeat (first | (apply ef_mv; exact rfl; exact rfl) | (apply ef_ldp; exact rfl; exact rfl; (exact rfl); exact rfl; (exact rfl); (exact rd_2 rfl rfl)))
   (apply ef_call; (· exact rfl); (· ((repeat (apply XVs.cons; exact rfl)); exact XVs.nil)); · exact w6 _ _ (frz_row (o := ⟨0, false, 1, (flZ n).map I64⟩) rfl rfl (by simp [hzl]) (ltL_I 0 _) rfl))
   repeat (first | (apply ef_mv; exact rfl; exact rfl) | (apply ef_st; (iterate 6 exact rfl); (exact rfl); exact rfl) | apply ef_nil | apply seqQ.normal | apply ef_ret)
   show FinF _ (.tup [encN n, .arr 0 0 (arZ n).length 0, I64 (valU n.cs (flZ n) n.cs.length), I64 0]) [⟨0, decide ((arZ n).length = 0), 5, (arZ n).map encA⟩] _ _ _
   (apply fin_opN; (· exact rfl); (· exact ⟨1, 0, 0, 0, _, _, by exact rfl, by exact rfl, rfl, rfl, rd_2 rfl rfl⟩); (· exact rfl); (· exact rfl); (· exact rfl); (· exact rfl); (· exact rfl); (· simp); (· exact ltL_A 0 _); (· exact rfl); (· exact rfl); (· exact rfl))
theorem openJoined_c (k : Nat) (n : Nt) (hb : BdN n) (h0 : joE n = 0) (h : MHeap) :
  orA (k + 7) 44 [encN n] h = some (.tup [encN n, .arr h.length 0 (arZ n).length 0, I64 (minC n), I64 0], h ++ [⟨0, decide ((arZ n).length = 0), 5, (arZ n).map encA⟩]) := by
 obtain ⟨hn, ok, hj⟩ := joE_ok h0
 have hz := openJoined_z k n hb hn
 rw [if_pos ((jnB_iff ok).2 hj)] at hz
 have := callA (k := k + 6) (h := h) (args := [encN n]) (args' := [encN n]) (frzL_lt (by simp [ltL, MV.lt, ltL_Ln, ltL_Cr])) rfl hz (by simp [okV, ok1, MV.lt, ltL, ltL_Ln, ltL_Cr, MV.pure]) (by simp [okH, ltL_A, pureL_A])
 simpa [shV, sh1] using this
theorem openJoined_e (k : Nat) (n : Nt) (hb : BdN n) (h0 : joE n ≠ 0) (h : MHeap) :
  orA (k + 7) 44 [encN n] h = some (.tup [encN n, .arr h.length 0 0 0, I64 0, I64 (joE n)], h ++ [⟨0, true, 5, []⟩]) := by
 have hz : runZ MT (orA (k + 6)) (itA (k + 6)) 4000000 44 [encN n] [] = some (.tup [encN n, .arr 0 0 0 0, I64 0, I64 (joE n)], [⟨0, true, 5, []⟩]) := by
  by_cases hn : (netF n).2 = 0
  ·have hz := openJoined_z k n hb hn
   have hj : jnB n = false := by
    cases hj : jnB n
    ·rfl
    ·exfalso; apply h0; unfold joE; rw [if_pos hn, hj]; rfl
   have he : joE n = 21 := by unfold joE; rw [if_pos hn, hj]; rfl
   rw [hj, if_neg (by simp)] at hz
   rw [he]; exact hz
  ·have he : joE n = (netF n).2 := by unfold joE; rw [if_neg hn]
   rw [he]
   have w1 := fun h => open_c k n hb h
   refine runZ_of mf_openJoined (by simp) ?_
   simp only [argsL]
   generalize (netF n).2 = e at *
   repeat (first | apply ef_seq | (apply ef_mv; exact rfl; exact rfl) | (apply ef_bin; (iterate 3 exact rfl); (exact cmp_t rfl (by first | exact rfl | (simp only [cmpP]; omega)))) | (apply ef_ldp; exact rfl; exact rfl; (exact rfl); exact rfl; (exact rfl); (exact rd_2 rfl rfl)) | (apply ef_ext; (iterate 3 exact rfl)) | (apply ef_box; (iterate 4 exact rfl)) | (apply ef_new; exact rfl) | (apply ef_nil0; exact rfl) | (apply ef_st; (iterate 6 exact rfl); (exact rfl); exact rfl) | apply ef_nil | apply seqQ.normal | apply ef_ret | apply seqQ.ret | (apply ef_condt; exact rfl; (exact (rfl : true = true))) | (apply ef_call; exact rfl; ((repeat (apply XVs.cons; exact rfl)); exact XVs.nil); (with_reducible exact w1 _)))
   (apply fin_opN; (· exact rfl); (· exact ⟨1, 0, 0, 0, _, _, by exact rfl, by exact rfl, rfl, rfl, rd_2 rfl rfl⟩); (· exact rfl); (· exact rfl); (· exact rfl); (· exact rfl); (· exact rfl); (· exact rfl); (· exact rfl); (· exact rfl); (· exact rfl); (· exact rfl))
 have := callA (k := k + 6) (h := h) (args := [encN n]) (args' := [encN n]) (frzL_lt (by simp [ltL, MV.lt, ltL_Ln, ltL_Cr])) rfl hz (by simp [okV, ok1, MV.lt, ltL, ltL_Ln, ltL_Cr, MV.pure]) (by simp [okH, ltL, pureL])
 simpa [shV, sh1] using this
theorem fin_all {x : MX2} {A : Sl} {h : MHeap} {t u w id k g : Nat} {o : MObj} {es : List MV} {sz : Nat} {nl : Bool} {a b : Value} (hx : outX x = true) (hv : look A t = some (.arr id 0 k g)) (ha : look A u = some (.lit a)) (hb : look A w = some (.lit b)) (ho : h[id]? = some o) (hg : o.g = g) (hk : k = es.length) (hl : ltL 0 es = true) (he : o.es = es) (hz : o.sz = sz) (hn : o.nl = nl) :
  FinF [.tmp t, .tmp u, .tmp w] (.tup [.arr 0 0 k 0, .lit a, .lit b]) [⟨0, nl, sz, es⟩] x A h := by
 subst hz hn he hk
 refine ⟨hx, [.arr id 0 o.es.length g, .lit a, .lit b], [.arr 0 0 o.es.length 0, .lit a, .lit b], ⟨_, _, rfl, hv, _, _, rfl, ha, _, [], rfl, hb, rfl⟩, ?_, ?_, rfl⟩
 ·simp [impIds]
 ·simp [impIds, expL, ho, hg, hl, frz, MV.lt]
theorem mf_BestOf : MT.mf 10 = some mfW_l10 := mfW_q10
theorem BestOf_c (k : Nat) (n : Nt) (hb : BdN n) (h0 : joE n = 0) (h : MHeap) :
  orA (k + 8) 10 [encN n] h = some (.tup [.arr h.length 0 n.ls.length 0, I64 (minC n), I64 0], h ++ [⟨0, false, 1, (lgZ n 0).map I64⟩]) := by
 obtain ⟨hn, ok, hj⟩ := joE_ok h0
 have l1 := ok.l1
 have l8 := ok.l8
 have hs1 : (MV.sl (n.ls.map encLn)).slen = some n.ls.length := by simp [MV.slen]
 have w1 := fun h => openJoined_c k n hb h0 h
 have w2 := fun h v w hv hw => longest_c (k + 2) n.ls.length l1 l8 (arZ n) 10000 (by omega) (by omega) (arZ_ok ok) (arcsU_len16 ok _) [0] (fun v hv => by rw [List.mem_singleton] at hv; subst hv; omega) (by simp) h (v := v) (w := w) hv hw
 obtain ⟨hgC, hgL⟩ := lgZ_ok ok (s := 0) (by omega) (by omega)
 rw [hgC] at w2
 have hwl := hgL.len
 have hz : runZ MT (orA (k + 7)) (itA (k + 7)) 4000000 10 [encN n] [] = some (.tup [.arr 0 0 n.ls.length 0, I64 (minC n), I64 0], [⟨0, false, 1, (lgZ n 0).map I64⟩]) := by
  refine runZ_of mf_BestOf (by simp) ?_
  simp only [argsL]
  generalize minC n = mc at *
  repeat (first | apply ef_seq | (apply ef_mv; exact rfl; exact rfl) | (apply ef_bin; (iterate 3 exact rfl); (exact cmp_f rfl (by simp only [cmpP]; omega))) | (apply ef_len; exact rfl; exact rfl; (assumption)) | (apply ef_ldp; exact rfl; exact rfl; (exact rfl); exact rfl; (exact rfl); (first | exact rd_2 rfl rfl | exact rfl)) | (apply ef_fap; exact rfl; exact rfl) | (apply ef_ext; (iterate 3 exact rfl)) | (apply ef_box; (iterate 4 exact rfl)) | (apply ef_new; exact rfl) | (apply ef_nil0; exact rfl) | (apply ef_bsl; exact rfl; (repeat (apply XVs.cons; exact rfl)); exact XVs.nil; exact rfl) | (apply ef_st; (iterate 6 exact rfl); (exact rfl); exact rfl) | apply ef_nil | apply seqQ.normal | apply ef_skip | (apply ef_condf; exact rfl; (exact (rfl : false = false))) | (apply ef_call; exact rfl; ((repeat (apply XVs.cons; exact rfl)); exact XVs.nil); (with_reducible exact w1 _)))
  (apply ef_call; (· exact rfl); (· ((repeat (apply XVs.cons; exact rfl)); exact XVs.nil)); · exact w2 _ _ _ (frz_row (o := ⟨0, decide ((arZ n).length = 0), 5, (arZ n).map encA⟩) rfl rfl (by simp) (ltL_A 0 _) rfl) (frz_row (o := ⟨0, false, 1, [I64 0]⟩) rfl rfl rfl rfl rfl))
  repeat (first | apply ef_seq | (apply ef_mv; exact rfl; exact rfl) | (apply ef_ext; (iterate 3 exact rfl)) | apply ef_nil | apply seqQ.normal | apply ef_ret)
  (apply fin_all; (· exact rfl); (· exact rfl); (· exact rfl); (· exact rfl); (· exact rfl); (· exact rfl); (· simp [hwl]); (· exact ltL_I 0 _); (· exact rfl); (· exact rfl); (· exact rfl))
 have := callA (k := k + 7) (h := h) (args := [encN n]) (args' := [encN n]) (frzL_lt (by simp [ltL, MV.lt, ltL_Ln, ltL_Cr])) rfl hz (by simp [okV, ok1, MV.lt, MV.pure]) (by simp [okH, ltL_I, pureL_I])
 simpa [shV, sh1] using this
theorem BestOf_e (k : Nat) (n : Nt) (hb : BdN n) (h0 : joE n ≠ 0) (h : MHeap) :
  orA (k + 8) 10 [encN n] h = some (.tup [.arr h.length 0 0 0, I64 0, I64 (joE n)], h ++ [⟨0, true, 1, []⟩]) := by
 have w1 := fun h => openJoined_e k n hb h0 h
 have hz : runZ MT (orA (k + 7)) (itA (k + 7)) 4000000 10 [encN n] [] = some (.tup [.arr 0 0 0 0, I64 0, I64 (joE n)], [⟨0, true, 1, []⟩]) := by
  refine runZ_of mf_BestOf (by simp) ?_
  simp only [argsL]
  generalize joE n = e at *
  repeat (first | apply ef_seq | (apply ef_mv; exact rfl; exact rfl) | (apply ef_bin; (iterate 3 exact rfl); (exact cmp_t rfl (by first | exact rfl | (simp only [cmpP]; omega)))) | (apply ef_ldp; exact rfl; exact rfl; (exact rfl); exact rfl; (exact rfl); (exact rd_2 rfl rfl)) | (apply ef_ext; (iterate 3 exact rfl)) | (apply ef_box; (iterate 4 exact rfl)) | (apply ef_new; exact rfl) | (apply ef_nil0; exact rfl) | (apply ef_st; (iterate 6 exact rfl); (exact rfl); exact rfl) | apply ef_nil | apply seqQ.normal | apply ef_ret | apply seqQ.ret | (apply ef_condt; exact rfl; (exact (rfl : true = true))) | (apply ef_call; exact rfl; ((repeat (apply XVs.cons; exact rfl)); exact XVs.nil); (with_reducible exact w1 _)))
  (apply fin_all; (· exact rfl); (· exact rfl); (· exact rfl); (· exact rfl); (· exact rfl); (· exact rfl); (· exact rfl); (· exact rfl); (· exact rfl); (· exact rfl); (· exact rfl))
 have := callA (k := k + 7) (h := h) (args := [encN n]) (args' := [encN n]) (frzL_lt (by simp [ltL, MV.lt, ltL_Ln, ltL_Cr])) rfl hz (by simp [okV, ok1, MV.lt, MV.pure]) (by simp [okH, ltL, pureL])
 simpa [shV, sh1] using this
end Go.Proofs.YtbdleggmdbihnaaGreat

/- Contracts: the ranges of the best corrections; the program. -/
namespace Go.Proofs.YtbdleggmdbihnaaGreat
open Go.RowKit
set_option linter.unusedVariables false
set_option linter.unusedSimpArgs false
def rgL (n : Nt) : List (Int × Int) := (List.range n.ls.length).map fun i => (cAt (lgZ n 0) (i : Nat), upP n (i : Nat))
theorem rgL_len (n : Nt) : (rgL n).length = n.ls.length := by simp [rgL]
theorem rgL_next (n : Nt) {i : Nat} (h : i < n.ls.length) : ((rgL n).take (i + 1)).map encR = ((rgL n).take i).map encR ++ [.agg [I64 (cAt (lgZ n 0) (i : Nat)), I64 (upP n (i : Nat))]] := by
 have e : (rgL n)[i]? = some (cAt (lgZ n 0) (i : Nat), upP n (i : Nat)) := by simp [rgL, h]
 rw [List.take_add_one, e]; simp [encR]
abbrev rgH (n : Nt) (i : Nat) (rs : List MV) : MHeap := [⟨0, false, 2, [encN n]⟩, ⟨0, true, 2, []⟩, ⟨0, decide ((arZ n).length = 0), 5, (arZ n).map encA⟩, ⟨0, false, 2, [encN n]⟩, ⟨0, false, 1, [I64 0]⟩, ⟨0, false, 1, (lgZ n 0).map I64⟩, ⟨0, true, 5, []⟩, ⟨i, decide (i = 0), 2, rs⟩]
theorem mf_RangesOf : MT.mf 12 = some mfW_l12 := mfW_q12
set_option maxHeartbeats 4000000 in
theorem RangesOf_z (k : Nat) (n : Nt) (hb : BdN n) (h0 : joE n = 0) :
  runZ MT (orA (k + 7)) (itA (k + 7)) 4000000 12 [encN n] [] = some (.tup [.arr 0 0 n.ls.length 0, I64 0], [⟨0, decide (n.ls.length = 0), 2, (rgL n).map encR⟩]) := by
 obtain ⟨hn, ok, hj⟩ := joE_ok h0
 have l1 := ok.l1
 have l8 := ok.l8
 have hs1 : (MV.sl (n.ls.map encLn)).slen = some n.ls.length := by simp [MV.slen]
 have w1 := fun h => openJoined_c k n hb h0 h
 have w2 := fun (s : Int) (hs0 : 0 ≤ s) (hs1 : s < (n.ls.length : Int)) h v w hv hw => longest_c (k + 2) n.ls.length l1 l8 (arZ n) 10000 (by omega) (by omega) (arZ_ok ok) (arcsU_len16 ok _) [s] (fun v hv => by rw [List.mem_singleton] at hv; subst hv; exact ⟨hs0, hs1⟩) (by simp) h (v := v) (w := w) hv hw
 obtain ⟨hgC, hgL⟩ := lgZ_ok ok (s := 0) (by omega) (by omega)
 have w20 := w2 0 (by omega) (by omega)
 rw [hgC] at w20
 have hwl := hgL.len
 clear hgC hgL
 refine runZ_of mf_RangesOf (by simp) ?_
 simp only [argsL]
 generalize minC n = mc at *
 repeat (first | apply ef_seq | (apply ef_mv; exact rfl; exact rfl) | (apply ef_bin; (iterate 3 exact rfl); (exact cmp_f rfl (by simp only [cmpP]; omega))) | (apply ef_len; exact rfl; exact rfl; (assumption)) | (apply ef_ldp; exact rfl; exact rfl; (exact rfl); exact rfl; (exact rfl); (first | exact rd_2 rfl rfl | exact rfl)) | (apply ef_fap; exact rfl; exact rfl) | (apply ef_ext; (iterate 3 exact rfl)) | (apply ef_box; (iterate 4 exact rfl)) | (apply ef_new; exact rfl) | (apply ef_nil0; exact rfl) | (apply ef_bsl; exact rfl; (repeat (apply XVs.cons; exact rfl)); exact XVs.nil; exact rfl) | (apply ef_st; (iterate 6 exact rfl); (exact rfl); exact rfl) | apply ef_nil | apply seqQ.normal | apply ef_skip | (apply ef_condf; exact rfl; (exact (rfl : false = false))) | (apply ef_call; exact rfl; ((repeat (apply XVs.cons; exact rfl)); exact XVs.nil); (with_reducible exact w1 _)))
 (apply ef_call; (· exact rfl); (· ((repeat (apply XVs.cons; exact rfl)); exact XVs.nil)); · exact w20 _ _ _ (frz_row (o := ⟨0, decide ((arZ n).length = 0), 5, (arZ n).map encA⟩) rfl rfl (by simp) (ltL_A 0 _) rfl) (frz_row (o := ⟨0, false, 1, [I64 0]⟩) rfl rfl rfl rfl rfl))
 repeat (first | apply ef_seq | (apply ef_mv; exact rfl; exact rfl) | (apply ef_len; exact rfl; exact rfl; (exact rfl)) | (apply ef_ext; (iterate 3 exact rfl)) | (apply ef_nil0; exact rfl) | apply ef_nil | apply seqQ.normal | apply ef_block)
 refine ef_loopf (α := Nat × List MV) (fun p => p.1 ≤ n.ls.length ∧ p.2 = ((rgL n).take p.1).map encR) (fun p => [(37, I64 (p.1 : Int)), (10, .arr 7 0 p.1 p.1)]) [(36, I64 (n.ls.length : Int)), (35, .arr 5 0 n.ls.length 0), (4, .ptr 3 0 0 0), (5, .arr 2 0 (arZ n).length 0)] (fun p => rgH n p.1 p.2) (fun p => n.ls.length - p.1) (0, []) [37, 10] (fun _ => rfl) (by ((repeat (refine Hold.cons (by exact rfl) ?_)); exact Hold.nil)) (by ((repeat (refine Hold.cons (by exact rfl) ?_)); exact Hold.nil)) rfl rfl ⟨by omega, rfl⟩ (by show n.ls.length - 0 < 4000000; omega) ?_
 rintro ⟨i, rs⟩ ⟨hi, hrs⟩
 try simp only at hi hrs ⊢
 have hrl : rs.length = i := by rw [hrs, List.length_map, List.length_take, rgL_len]; omega
 have hlr : ∀ j, ltL j rs = true := fun j => by rw [hrs]; exact ltL_R j _
 by_cases hlt : i < n.ls.length
 ·obtain ⟨hgC, hgL⟩ := lgZ_ok ok (s := (i : Int)) (by omega) (by omega)
  have w2i := w2 (i : Int) (by omega) (by omega)
  rw [hgC] at w2i
  have hil := hgL.len
  have hup := hgL.up 0
  have hlo := lgZ_all ok hj (s := (i : Int)) (by omega) (by omega) 0 (by omega) (by omega)
  have HN := Bx.mk (rgL_next n hlt)
  have HU := Bx.mk (show upP n (i : Nat) = 0 - cAt (lgZ n (i : Int)) 0 from rfl)
  have e1 : ((lgZ n 0).map I64)[0 + ((i : Nat) : Int).toNat]? = some (I64 (cAt (lgZ n 0) (i : Nat))) := by rw [Nat.zero_add]; exact cAt_at hwl (by omega) (by omega)
  have e2 : ((lgZ n (i : Int)).map I64)[0 + (0 : Int).toNat]? = some (I64 (cAt (lgZ n (i : Int)) 0)) := by rw [Nat.zero_add]; exact cAt_at hil (by omega) (by omega)
  clear hgC hgL w2
  generalize cAt (lgZ n 0) (i : Nat) = lo at *
  generalize hz : cAt (lgZ n (i : Int)) 0 = z at *
  repeat (first | apply ef_seq | (apply ef_mv; exact rfl; exact rfl) | (apply ef_bin; (iterate 3 exact rfl); (exact cmp_t rfl (by first | exact rfl | (simp only [cmpP]; omega)))) | (apply ef_len; exact rfl; exact rfl; (assumption)) | (apply ef_ldp; exact rfl; exact rfl; (exact rfl); exact rfl; (first | exact rfl | assumption); (exact rfl)) | (apply ef_iaa; (iterate 3 exact rfl); (omega); (omega); (exact rfl)) | (apply ef_fap; exact rfl; exact rfl) | (apply ef_bsl; exact rfl; (repeat (apply XVs.cons; exact rfl)); exact XVs.nil; exact rfl) | apply ef_nil | apply seqQ.normal | apply ef_block | apply ef_skip | (apply ef_condt; exact rfl; (exact (rfl : true = true))))
  (apply ef_call; (· exact rfl); (· ((repeat (apply XVs.cons; exact rfl)); exact XVs.nil)); · exact w2i _ _ _ (frz_row (o := ⟨0, decide ((arZ n).length = 0), 5, (arZ n).map encA⟩) rfl rfl (by simp) (ltL_A 0 _) rfl) (frz_row (o := ⟨0, false, 1, [I64 (i : Int)]⟩) rfl rfl rfl rfl rfl))
  repeat (first | (apply ef_mv; exact rfl; exact rfl) | (apply ef_ldp; exact rfl; exact rfl; (exact rfl); exact rfl; (assumption); (exact rfl)) | (apply ef_iaa; (iterate 3 exact rfl); (omega); (omega); (exact rfl)) | (apply ef_neg; exact rfl; exact rfl; exact wrap_of (by omega) (by omega)) | (apply ef_ext; (iterate 3 exact rfl)) | (apply ef_build; exact rfl; (repeat (apply XVs.cons; exact rfl)); exact XVs.nil; exact rfl; exact rfl) | (apply ef_bsl; exact rfl; (repeat (apply XVs.cons; exact rfl)); exact XVs.nil; exact rfl) | apply ef_nil | apply seqQ.normal)
  (apply ef_app; (· exact rfl); (· exact rfl); (· exact rfl); (· exact rfl); (· exact rfl); (· exact rfl); (· (simp [hrl])); (· exact rfl); (· (simp [hrl]; omega)); (· (exact rfl)); (· exact rfl))
  repeat (first | (apply ef_mv; exact rfl; exact rfl) | (apply ef_bin; (iterate 3 exact rfl); (((with_reducible refine bin_add (wrap_of ?_ ?_)) <;> omega))) | apply ef_nil | apply seqQ.normal | apply blockQ.normal)
  (refine loopQ.normal _ _ ⟨(i + 1, rs ++ [.agg [I64 lo, I64 (0 - z)]]), ⟨hlt, by rw [HN.out, HU.out, hrs]⟩, (by first | (simp only; omega) | omega), ⟨by ((repeat (refine Hold.cons (by exact rfl) ?_)); exact Hold.nil), by ((repeat (refine Hold.cons (by exact rfl) ?_)); exact Hold.nil)⟩, .inr ⟨by ((repeat (refine hdl_cons rfl (by first | rfl | (simp [MV.lt, ltL, ltL_Ln, ltL_Cr, ltL_I, ltL_A, hlr, ltL_app2, splice, MV.cells])) ?_)); exact hdl_nil), by (simp [hltL, ltL, MV.lt, ltL, ltL_Ln, ltL_Cr, ltL_I, ltL_A, hlr, ltL_app2, splice, MV.cells])⟩, by exact rfl⟩)
 ·obtain rfl : i = n.ls.length := by omega
  have hra : rs = (rgL n).map encR := by rw [hrs, List.take_of_length_le (by rw [rgL_len]; exact Nat.le_refl _)]
  repeat (first | apply ef_seq | (apply ef_mv; exact rfl; exact rfl) | (apply ef_bin; (iterate 3 exact rfl); (exact cmp_f rfl (by simp only [cmpP]; omega))) | apply ef_nil | apply seqQ.normal | apply loopQ.exit | apply ef_ret | apply ef_exit | apply seqQ.exit | apply blockQ.here | (apply ef_condf; exact rfl; (exact (rfl : false = false))))
  (apply fin_al; (· exact rfl); (· exact rfl); (· exact rfl); (· exact rfl); (· exact rfl); (· simp [rgL_len]); (· exact ltL_R 0 _); (· exact hra); (· exact rfl); (· exact rfl))
theorem RangesOf_c (k : Nat) (n : Nt) (hb : BdN n) (h0 : joE n = 0) (h : MHeap) :
  orA (k + 8) 12 [encN n] h = some (.tup [.arr h.length 0 n.ls.length 0, I64 0], h ++ [⟨0, decide (n.ls.length = 0), 2, (rgL n).map encR⟩]) := by
 have := callA (k := k + 7) (h := h) (args := [encN n]) (args' := [encN n]) (frzL_lt (by simp [ltL, MV.lt, ltL_Ln, ltL_Cr])) rfl (RangesOf_z k n hb h0) (by simp [okV, ok1, MV.lt, MV.pure]) (by simp [okH, ltL_R, pureL_R])
 simpa [shV, sh1] using this
theorem RangesOf_e (k : Nat) (n : Nt) (hb : BdN n) (h0 : joE n ≠ 0) (h : MHeap) :
  orA (k + 8) 12 [encN n] h = some (.tup [.arr h.length 0 0 0, I64 (joE n)], h ++ [⟨0, true, 2, []⟩]) := by
 have w1 := fun h => openJoined_e k n hb h0 h
 have hz : runZ MT (orA (k + 7)) (itA (k + 7)) 4000000 12 [encN n] [] = some (.tup [.arr 0 0 0 0, I64 (joE n)], [⟨0, true, 2, []⟩]) := by
  refine runZ_of mf_RangesOf (by simp) ?_
  simp only [argsL]
  generalize joE n = e at *
  repeat (first | apply ef_seq | (apply ef_mv; exact rfl; exact rfl) | (apply ef_bin; (iterate 3 exact rfl); (exact cmp_t rfl (by first | exact rfl | (simp only [cmpP]; omega)))) | (apply ef_ldp; exact rfl; exact rfl; (exact rfl); exact rfl; (exact rfl); (exact rd_2 rfl rfl)) | (apply ef_ext; (iterate 3 exact rfl)) | (apply ef_box; (iterate 4 exact rfl)) | (apply ef_new; exact rfl) | (apply ef_nil0; exact rfl) | (apply ef_st; (iterate 6 exact rfl); (exact rfl); exact rfl) | apply ef_nil | apply seqQ.normal | apply ef_ret | apply seqQ.ret | (apply ef_condt; exact rfl; (exact (rfl : true = true))) | (apply ef_call; exact rfl; ((repeat (apply XVs.cons; exact rfl)); exact XVs.nil); (with_reducible exact w1 _)))
  (apply fin_al; (· exact rfl); (· exact rfl); (· exact rfl); (· exact rfl); (· exact rfl); (· exact rfl); (· exact rfl); (· exact rfl); (· exact rfl); (· exact rfl))
 have := callA (k := k + 7) (h := h) (args := [encN n]) (args' := [encN n]) (frzL_lt (by simp [ltL, MV.lt, ltL_Ln, ltL_Cr])) rfl hz (by simp [okV, ok1, MV.lt, MV.pure]) (by simp [okH, ltL, pureL])
 simpa [shV, sh1] using this
end Go.Proofs.YtbdleggmdbihnaaGreat

/- Best corrections (plain): upper ends of ranges are best corrections, too; one more is not. -/
namespace Go.Proofs.YtbdleggmdbihnaaGreat
open Go.RowKit
set_option linter.unusedVariables false
set_option linter.unusedSimpArgs false
structure Bst (n : Nt) (c : List Int) : Prop where
 len : c.length = n.ls.length
 z0 : cAt c 0 = 0
 bd : ∀ v, -80000 ≤ cAt c v ∧ cAt c v ≤ 80000
 cost : costL n c = minC n
 cor : corrE n.ls.length c = 0
theorem cAt_far {c : List Int} {v : Int} (h : (c.length : Int) ≤ v) : cAt c v = 0 := by
 unfold cAt
 rw [List.getD_eq_getElem?_getD, List.getElem?_eq_none (by omega)]; rfl
theorem cAt_neg {c : List Int} {v : Int} (h : v < 0) : cAt c v = cAt c 0 := by
 unfold cAt
 rw [show v.toNat = (0 : Int).toNat by omega]
theorem bst_of {n : Nt} (ok : OkN n) (hj : Jn n) {c : List Int} (hl : c.length = n.ls.length) (h0 : cAt c 0 = 0) (hc : costL n c = minC n) : Bst n c := by
 have l1 := ok.l1
 have hb : ∀ v, -80000 ≤ cAt c v ∧ cAt c v ≤ 80000 := fun v => by
  by_cases h1 : v < 0
  ·rw [cAt_neg h1, h0]; omega
  ·by_cases h2 : (c.length : Int) ≤ v
   ·rw [cAt_far h2]; omega
   ·have := best_in ok hj (q := cAt c) (by rw [← costL_P]; exact hc) h0 (v := v) (by omega) (by omega)
    omega
 refine ⟨hl, h0, hb, hc, ?_⟩
 unfold corrE
 rw [if_pos hl, if_neg, if_pos]
 ·exact h0
 ·rw [Bool.not_eq_true, List.any_eq_false]
  intro z hz
  obtain ⟨i, hi, rfl⟩ := List.getElem_of_mem hz
  have := hb (i : Int)
  have e : cAt c (i : Int) = c[i] := by unfold cAt; rw [Int.toNat_natCast, List.getD_eq_getElem?_getD, List.getElem?_eq_getElem hi]; rfl
  rw [e] at this
  have hin : inB c[i] (-1000000) 1000000 = true := inB_iff.2 ⟨by omega, by omega⟩
  unfold strB
  rw [hin]; simp
theorem bst_low {n : Nt} (ok : OkN n) (hj : Jn n) : Bst n (lgZ n 0) := by
 have l1 := ok.l1
 obtain ⟨-, hL⟩ := lgZ_ok ok (s := 0) (by omega) (by omega)
 refine bst_of ok hj hL.len (lgZ_self ok hj (by omega) (by omega)) ?_
 rw [costL_P]
 exact feas_best ok (lgZ_feas ok hj (by omega) (by omega))
def upQ (n : Nt) : List Int := (List.range n.ls.length).map fun i => upP n (i : Nat)
theorem upQ_len (n : Nt) : (upQ n).length = n.ls.length := by simp [upQ]
theorem upQ_at (n : Nt) {i : Nat} (h : i < n.ls.length) : cAt (upQ n) (i : Int) = upP n (i : Nat) := by
 unfold cAt upQ
 rw [Int.toNat_natCast, List.getD_eq_getElem?_getD, List.getElem?_map, List.getElem?_range h]; rfl
theorem bst_up {n : Nt} (ok : OkN n) (hj : Jn n) : Bst n (upQ n) := by
 have l1 := ok.l1
 refine bst_of ok hj (upQ_len n) ?_ ?_
 ·have := upQ_at n l1
  rw [show ((0 : Nat) : Int) = 0 from rfl] at this
  rw [this]; exact upP_zero ok hj
 ·rw [costL_P]
  rw [costP_congr (m := n.ls.length) (q := upP n) (fun x hx => by have o := ok.rg x hx; exact ⟨⟨o.l0, o.l1⟩, o.t0, o.t1⟩) (fun v h1 h2 => by
   have := upQ_at n (i := v.toNat) (by omega)
   rw [show ((v.toNat : Nat) : Int) = v by omega] at this
   exact this) _ (Nat.le_refl _)]
  exact feas_best ok (upP_feas ok hj)
end Go.Proofs.YtbdleggmdbihnaaGreat

/- Contracts of the document: the lowest best corrections. -/
namespace Go.Proofs.YtbdleggmdbihnaaGreat
open Go.RowKit
set_option linter.unusedVariables false
set_option linter.unusedSimpArgs false
structure CL (n : Nt) (c : List Int) : Prop where
 len : c.length = n.ls.length
 z0 : cAt c 0 = 0
 cost : costL n c = minC n
def sumI : List Int → Int
 | [] => 0
 | x :: l => x + sumI l
theorem sumI_lt : ∀ {c x : List Int}, x.length = c.length → (∀ j : Nat, j < c.length → cAt x (j : Int) ≤ cAt c (j : Int)) → (∃ j : Nat, j < c.length ∧ cAt x (j : Int) < cAt c (j : Int)) → sumI x < sumI c
 | [], _, _, _, ⟨j, hj, _⟩ => by simp at hj
 | _ :: _, [], hl, _, _ => by simp at hl
 | a :: c, b :: x, hl, h, ⟨j, hj, hlt⟩ => by
  have h0 := h 0 (by simp)
  have e0 : ∀ (y : Int) (l : List Int), cAt (y :: l) ((0 : Nat) : Int) = y := fun y l => rfl
  have es : ∀ (y : Int) (l : List Int) (i : Nat), cAt (y :: l) ((i + 1 : Nat) : Int) = cAt l (i : Int) := fun y l i => by unfold cAt; simp
  rw [e0, e0] at h0
  have hle : ∀ i : Nat, i < c.length → cAt x (i : Int) ≤ cAt c (i : Int) := fun i hi => by
   have := h (i + 1) (by simp; omega)
   rwa [es, es] at this
  have hl' : x.length = c.length := by simpa using hl
  have hge : ∀ {u v : List Int}, u.length = v.length → (∀ i : Nat, i < v.length → cAt u (i : Int) ≤ cAt v (i : Int)) → sumI u ≤ sumI v := fun {u v} => by
   induction v generalizing u with
   | nil => intro h _; cases u; exact Int.le_refl _; simp at h
   | cons q v ih =>
    intro h1 h2
    cases u with
    | nil => simp at h1
    | cons p u =>
     have a0 := h2 0 (by simp)
     rw [e0, e0] at a0
     have := ih (u := u) (by simpa using h1) (fun i hi => by
      have := h2 (i + 1) (by simp; omega)
      rwa [es, es] at this)
     simp only [sumI]; omega
  simp only [sumI]
  cases j with
  | zero => rw [e0, e0] at hlt; have := hge hl' hle; omega
  | succ j =>
   rw [es, es] at hlt
   have := sumI_lt hl' hle ⟨j, by simp at hj; omega, hlt⟩
   omega
theorem sumI_bd : ∀ {c : List Int} {B : Int}, (∀ j : Nat, j < c.length → -B ≤ cAt c (j : Int) ∧ cAt c (j : Int) ≤ B) → -(B * c.length) ≤ sumI c ∧ sumI c ≤ B * c.length
 | [], _, _ => by simp [sumI]
 | x :: c, B, h => by
  have h0 := h 0 (by simp)
  have e0 : cAt (x :: c) ((0 : Nat) : Int) = x := rfl
  rw [e0] at h0
  have := sumI_bd (c := c) (B := B) (fun i hi => by
   have := h (i + 1) (by simp; omega)
   rwa [show cAt (x :: c) ((i + 1 : Nat) : Int) = cAt c (i : Int) by unfold cAt; simp] at this)
  simp only [sumI, List.length_cons, Int.natCast_add, Int.mul_add]
  omega
theorem CL.bst {n : Nt} (ok : OkN n) (hj : Jn n) {c : List Int} (h : CL n c) : Bst n c := bst_of ok hj h.len h.z0 h.cost
theorem CL.sum {n : Nt} (ok : OkN n) (hj : Jn n) {c : List Int} (h : CL n c) : -640000 ≤ sumI c ∧ sumI c ≤ 640000 := by
 have hb := h.bst ok hj
 have := sumI_bd (c := c) (B := 80000) (fun j _ => hb.bd j)
 have := ok.l8
 have := h.len
 omega
theorem bit_ex : ∀ {s m : Nat}, 2 ≤ s → s % 2 = 0 → s < 2 ^ m → ∃ i, 1 ≤ i ∧ i < m ∧ s.testBit i = true := fun {s m} h1 h2 h3 => by
 refine Classical.byContradiction fun h => ?_
 have hz : s = 0 := Nat.eq_of_testBit_eq fun i => by
  rw [Nat.zero_testBit]
  by_cases hi : i = 0
  ·subst hi; rw [Nat.testBit_zero]; simp [h2]
  ·by_cases him : i < m
   ·cases hb : s.testBit i
    ·rfl
    ·exact absurd ⟨i, by omega, him, hb⟩ h
   ·exact Nat.testBit_lt_two_pow (Nat.lt_of_lt_of_le h3 (Nat.pow_le_pow_right (by omega) (by omega)))
 omega
theorem BtR.down {n : Nt} (ok : OkN n) {c x : List Int} (h : CL n c) {st : Int} (hs : 1 ≤ st) (hb : BtR n c st true (some x)) : CL n x ∧ sumI x < sumI c := by
 obtain ⟨s, b, h2, he, hlt, rfl, h1 | h1⟩ := hb
 ·cases h1.1
 ·obtain ⟨-, rfl, hc⟩ := h1
  have hl := h.len
  have hm : ∀ j : Nat, cAt (mvU c s (0 - st) c.length) (j : Int) = _ := fun j => mvU_at c s (0 - st) _ (Nat.le_refl _) j
  refine ⟨⟨by rw [mvU_len]; exact hl, ?_, by rw [hc]; exact h.cost⟩, ?_⟩
  ·have := hm 0
   rw [if_neg (by omega)] at this
   exact this.trans h.z0
  ·obtain ⟨i, i1, i2, i3⟩ := bit_ex h2 he hlt
   refine sumI_lt (mvU_len _ _ _ _) (fun j hj => ?_) ⟨i, by omega, ?_⟩
   ·rw [hm j]; split <;> omega
   ·rw [hm i, if_pos ⟨by omega, i1, i3⟩]; omega
theorem low_end {n : Nt} (ok : OkN n) (hj : Jn n) {c : List Int} (h : CL n c) (hb : BtR n c 1 true none) : c = lgZ n 0 := by
 have l1 := ok.l1
 have hlow := bst_low ok hj
 have hl := h.len
 have hl2 := hlow.len
 refine List.ext_getElem (by omega) fun i h1 h2 => ?_
 have hat : ∀ (l : List Int) (hi : i < l.length), cAt l (i : Int) = l[i] := fun l hi => by unfold cAt; rw [Int.toNat_natCast, List.getD_eq_getElem?_getD, List.getElem?_eq_getElem hi]; rfl
 rw [← hat c h1, ← hat _ h2]
 refine low_is ok hj (by rw [← costL_P]; exact h.cost) h.z0 (fun S h0 hex => ?_) (by omega) (by omega)
 have he : setN (fun i => S (i : Int)) n.ls.length ≠ 0 := fun hz => by
  obtain ⟨v, v0, v1, hv⟩ := hex
  have := setN_zero hz v.toNat (by omega)
  simp only [show ((v.toNat : Nat) : Int) = v by omega] at this
  rw [this] at hv; cases hv
 have hev := setN_even (S := fun i => S (i : Int)) h0 l1
 have := (hb (setN (fun i => S (i : Int)) n.ls.length) (by omega) hev (setN_lt _ _)).2 rfl
 rw [show (0 - 1 : Int) = -1 from rfl, mvU_P ok hl S h0, costL_P] at this
 exact this
def stM (j : Nat) : Int := [32768, 16384, 8192, 4096, 2048, 1024, 512, 256, 128, 64, 32, 16, 8, 4, 2, 1].getD j 0
theorem stM_bd (j : Nat) (h : j < 16) : 1 ≤ stM j ∧ stM j ≤ 32768 := by
 obtain rfl | rfl | rfl | rfl | rfl | rfl | rfl | rfl | rfl | rfl | rfl | rfl | rfl | rfl | rfl | rfl : j = 0 ∨ j = 1 ∨ j = 2 ∨ j = 3 ∨ j = 4 ∨ j = 5 ∨ j = 6 ∨ j = 7 ∨ j = 8 ∨ j = 9 ∨ j = 10 ∨ j = 11 ∨ j = 12 ∨ j = 13 ∨ j = 14 ∨ j = 15 := by omega
 all_goals decide
theorem stM_quo (j : Nat) (h : j < 16) : binI .quo .i64 (stM j) 2 = some (.int .i64 (stM (j + 1))) := by
 obtain rfl | rfl | rfl | rfl | rfl | rfl | rfl | rfl | rfl | rfl | rfl | rfl | rfl | rfl | rfl | rfl : j = 0 ∨ j = 1 ∨ j = 2 ∨ j = 3 ∨ j = 4 ∨ j = 5 ∨ j = 6 ∨ j = 7 ∨ j = 8 ∨ j = 9 ∨ j = 10 ∨ j = 11 ∨ j = 12 ∨ j = 13 ∨ j = 14 ∨ j = 15 := by omega
 all_goals rfl
theorem mf_rLowest : MT.mf 14 = some ⟨30, [(.tmp 2), (.tmp 3)], (.seq (.reg [⟨none, some 1, .box 2 (.s 0)⟩, ⟨none, some 2, .nil0 1⟩, ⟨none, some 3, .mv (.c (.lit (.int .i64 0)))⟩]) (.seq (.reg [⟨none, some 10, .ld (some 2) (.s 1)⟩, ⟨none, some 11, .call 47 [.s 10]⟩, ⟨none, some 9, .mv (.s 11)⟩, ⟨none, some 12, .ext (.s 9) 0⟩, ⟨none, some 13, .ext (.s 9) 1⟩, ⟨none, some 4, .mv (.s 12)⟩, ⟨none, some 5, .mv (.s 13)⟩]) (.seq (.seq (.reg [⟨none, some 6, .mv (.c (.lit (.int .i64 32768)))⟩]) (.block 0 (.loop [6, 1, 4, 5] (.seq (.seq (.reg [⟨none, some 14, .mv (.s 6)⟩, ⟨none, some 15, .bin .gtr (.s 14) (.c (.lit (.int .i64 0)))⟩]) (.cond (.s 15) .skip (.exit 0))) (.seq (.block 1 (.block 2 (.loop [1, 4, 6, 5] (.block 3 (.seq (.reg [⟨none, some 19, .ld (some 2) (.s 1)⟩, ⟨none, some 20, .mv (.s 4)⟩, ⟨none, some 21, .mv (.s 6)⟩, ⟨none, some 22, .call 48 [.s 19, .s 20, .s 21, (.c (.lit (.bool true)))]⟩, ⟨none, some 18, .mv (.s 22)⟩, ⟨none, some 23, .ext (.s 18) 0⟩, ⟨none, some 24, .ext (.s 18) 1⟩, ⟨none, some 7, .mv (.s 23)⟩, ⟨none, some 8, .mv (.s 24)⟩]) (.seq (.seq (.reg [⟨none, some 25, .mv (.s 8)⟩, ⟨none, some 26, .un .not (.s 25)⟩]) (.cond (.s 26) (.exit 2) .skip)) (.give 7 (.reg [⟨none, some 27, .mv (.s 7)⟩, ⟨none, some 4, .mv (.s 27)⟩])))))))) (.reg [⟨none, some 16, .mv (.s 6)⟩, ⟨none, some 17, .bin .quo (.s 16) (.c (.lit (.int .i64 2)))⟩, ⟨none, some 6, .mv (.s 17)⟩])))))) (.seq (.reg [⟨none, some 28, .mv (.s 4)⟩, ⟨none, some 29, .mv (.s 5)⟩, ⟨none, some 2, .mv (.s 28)⟩, ⟨none, some 3, .mv (.s 29)⟩]) .ret))))⟩ := by kernel_rfl
set_option maxHeartbeats 4000000 in
theorem rLowest_z (k : Nat) (n : Nt) (ok : OkN n) (hj : Jn n) :
  runZ MT (orA (k + 5)) (itA (k + 5)) 4000000 14 [encN n] [] = some (.tup [.sl ((lgZ n 0).map I64), I64 (minC n)], []) := by
 have hs1 : (MV.sl (n.ls.map encLn)).slen = some n.ls.length := by simp [MV.slen]
 have l8 := ok.l8
 obtain ⟨cb, ⟨hcb, hlb⟩, hBest⟩ := Best_c k n ok
 have hmc : costL n cb = minC n := locB_flow ok hcb hlb
 have hcl : CL n cb := ⟨hcb.len, hcb.z0, hmc⟩
 rw [hmc] at hBest
 refine runZ_of mf_rLowest (by simp) ?_
 simp only [argsL]
 have HMC := Bx.mk hcl
 clear hcb hlb hmc hcl
 repeat (first | apply ef_seq | (apply ef_mv; exact rfl; exact rfl) | (apply ef_ldp; exact rfl; exact rfl; (exact rfl); exact rfl; (exact rfl); (exact rd_2 rfl rfl)) | (apply ef_ext; (iterate 3 exact rfl)) | (apply ef_box; (iterate 4 exact rfl)) | (apply ef_nil0; exact rfl) | apply ef_nil | apply seqQ.normal | apply ef_block | (apply ef_call; exact rfl; ((repeat (apply XVs.cons; exact rfl)); exact XVs.nil); (with_reducible exact hBest _)))
 refine ef_loopf (α := Nat × List Int) (fun p => p.1 ≤ 16 ∧ CL n p.2 ∧ (p.1 = 16 → BtR n p.2 1 true none)) (fun p => [(6, I64 (stM p.1)), (4, .sl (p.2.map I64))]) [(1, .ptr 0 0 0 0), (5, I64 (minC n))] (fun _ => [⟨0, false, 2, [encN n]⟩, ⟨0, true, 1, []⟩]) (fun p => 16 - p.1) (0, cb) [6, 4] (fun _ => rfl) (by ((repeat (refine Hold.cons (by exact rfl) ?_)); exact Hold.nil)) (by ((repeat (refine Hold.cons (by exact rfl) ?_)); exact Hold.nil)) rfl rfl ⟨by omega, HMC.out, fun h => by cases h⟩ (by simp) ?_
 rintro ⟨j, c⟩ ⟨hj16, hc, hloc⟩
 try simp only at hj16 hc hloc ⊢
 have HC := Bx.mk hc
 have HL := Bx.mk hloc
 clear hc hloc
 by_cases hlt : j < 16
 ·have hst := stM_bd j hlt
  have hq := stM_quo j hlt
  have HS14 := Bx.mk (fun h : j + 1 = 16 => show stM j = 1 by obtain rfl : j = 15 := (by omega); rfl)
  generalize hs : stM j = st at *
  repeat (first | apply ef_seq | (apply ef_mv; exact rfl; exact rfl) | (apply ef_bin; (iterate 3 exact rfl); (exact cmp_t rfl (by first | exact rfl | (simp only [cmpP]; omega)))) | apply ef_nil | apply seqQ.normal | apply ef_block | apply ef_skip | (apply ef_condt; exact rfl; (exact (rfl : true = true))))
  refine ef_loopf (α := List Int) (fun c => CL n c) (fun c => [(4, .sl (c.map I64))]) [(1, .ptr 0 0 0 0), (6, I64 st), (5, I64 (minC n))] (fun _ => [⟨0, false, 2, [encN n]⟩, ⟨0, true, 1, []⟩]) (fun c => (sumI c + 640000).toNat) c [4] (fun _ => rfl) (by ((repeat (refine Hold.cons (by exact rfl) ?_)); exact Hold.nil)) (by ((repeat (refine Hold.cons (by exact rfl) ?_)); exact Hold.nil)) rfl rfl HC.out (by have := HC.out.sum ok hj; show (sumI c + 640000).toNat < 4000000; omega) ?_
  intro c hc
  have HC := Bx.mk hc
  clear hc
  try simp only
  have hbd := (HC.out.bst ok hj).bd
  obtain ⟨r, hr, hz⟩ := better_z (k + 1) n ok c HC.out.len (fun v => by have := hbd v; omega) st (by omega) true
  cases r with
  | none =>
   have w1 : ∀ h, orA (k + 5) 48 [encN n, .sl (c.map I64), I64 st, Bo true] h = some (.tup [.arr h.length 0 0 0, Bo false], h ++ [⟨0, true, 1, []⟩]) := fun h => by
    have := callA (k := k + 4) (h := h) (args := [encN n, .sl (c.map I64), I64 st, Bo true]) (frzL_lt (by simp [ltL, MV.lt, ltL_Ln, ltL_Cr, ltL_I])) rfl hz (by simp [btM, okV, ok1, MV.lt, MV.pure]) (by simp [btN, okH, ltL, pureL])
    simpa [shV, sh1, btM, btN] using this
   have HR := Bx.mk hr
   clear hr hz
   repeat (first | apply ef_seq | (apply ef_mv; exact rfl; exact rfl) | (apply ef_bin; (iterate 3 exact rfl); (assumption)) | (apply ef_ldp; exact rfl; exact rfl; (exact rfl); exact rfl; (exact rfl); (exact rd_2 rfl rfl)) | (apply ef_notF; exact rfl; exact rfl) | (apply ef_ext; (iterate 3 exact rfl)) | apply ef_nil | apply seqQ.normal | apply loopQ.exit | apply ef_exit | apply seqQ.exit | apply blockQ.normal | apply blockQ.here | (apply blockQ_there; exact rfl) | apply ef_block | (apply ef_condt; exact rfl; (exact (rfl : true = true))) | (apply ef_call; exact rfl; ((repeat (apply XVs.cons; exact rfl)); exact XVs.nil); (with_reducible exact (w1 _))))
   (refine loopQ.normal _ _ ⟨(j + 1, c), ⟨by omega, HC.out, fun h => by have e := HS14.out h; have := HR.out; rw [e] at this; exact this⟩, (by first | (simp only; omega) | omega), ⟨by ((repeat (refine Hold.cons (by exact rfl) ?_)); exact Hold.nil), by ((repeat (refine Hold.cons (by exact rfl) ?_)); exact Hold.nil)⟩, .inr ⟨by ((repeat (refine hdl_cons rfl (by first | rfl | (simp [MV.lt, ltL, ltL_I, ltL_Ln, ltL_Cr])) ?_)); exact hdl_nil), by first | rfl | (simp [hltL, ltL, MV.lt, ltL, ltL_I, ltL_Ln, ltL_Cr])⟩, by first | exact rfl | (simp only [List.map_append, List.map_set]; exact rfl)⟩)
  | some x =>
   have hcl := HC.out.len
   have hx := hr.down ok HC.out (by omega)
   have hxl := hx.1.len
   have w1 : ∀ h, orA (k + 5) 48 [encN n, .sl (c.map I64), I64 st, Bo true] h = some (.tup [.arr h.length 0 c.length 0, Bo true], h ++ [⟨0, false, 1, x.map I64⟩]) := fun h => by
    have := callA (k := k + 4) (h := h) (args := [encN n, .sl (c.map I64), I64 st, Bo true]) (frzL_lt (by simp [ltL, MV.lt, ltL_Ln, ltL_Cr, ltL_I])) rfl hz (by simp [btM, okV, ok1, MV.lt, MV.pure]) (by simp [btN, okH, ltL_I, pureL_I])
    simpa [shV, sh1, btM, btN] using this
   have HX := Bx.mk hx
   clear hx hr hz
   repeat (first | apply ef_seq | (apply ef_mv; exact rfl; exact rfl) | (apply ef_ldp; exact rfl; exact rfl; (exact rfl); exact rfl; (exact rfl); (exact rd_2 rfl rfl)) | (apply ef_notT; exact rfl; exact rfl) | (apply ef_ext; (iterate 3 exact rfl)) | apply ef_nil | apply seqQ.normal | apply ef_block | apply ef_skip | (apply ef_condf; exact rfl; (exact (rfl : false = false))) | (apply ef_call; exact rfl; ((repeat (apply XVs.cons; exact rfl)); exact XVs.nil); (with_reducible exact (w1 _))))
   refine ef_givev rfl (by exact rfl) (giveV_arr (es := x.map I64) rfl (by simp [hxl, hcl]) (ltL_I 0 x) rfl) ?_
   repeat (first | (apply ef_mv; exact rfl; exact rfl) | apply ef_nil | apply blockQ.normal)
   (refine loopQ.normal _ _ ⟨x, HX.out.1, (by have h1 := HX.out.2; have h2 := HX.out.1.sum ok hj; show (sumI x + 640000).toNat < (sumI c + 640000).toNat; omega), ⟨by ((repeat (refine Hold.cons (by exact rfl) ?_)); exact Hold.nil), by ((repeat (refine Hold.cons (by exact rfl) ?_)); exact Hold.nil)⟩, .inr ⟨by ((repeat (refine hdl_cons rfl (by first | rfl | (simp [MV.lt, ltL, ltL_I, ltL_Ln, ltL_Cr])) ?_)); exact hdl_nil), by first | rfl | (simp [hltL, ltL, MV.lt, ltL, ltL_I, ltL_Ln, ltL_Cr])⟩, by first | exact rfl | (simp only [List.map_append, List.map_set]; exact rfl)⟩)
 ·obtain rfl : j = 16 := by omega
  have he := low_end ok hj HC.out (HL.out rfl)
  rw [show stM 16 = 0 from rfl]
  repeat (first | apply ef_seq | (apply ef_mv; exact rfl; exact rfl) | (apply ef_bin; (iterate 3 exact rfl); (exact cmp_f rfl (by simp only [cmpP]; omega))) | apply ef_nil | apply seqQ.normal | apply loopQ.exit | apply ef_ret | apply ef_exit | apply seqQ.exit | apply blockQ.here | (apply ef_condf; exact rfl; (exact (rfl : false = false))))
  rw [he]
  exact fin_sll rfl (by exact rfl) (by exact rfl) (ltL_I 0 _)
theorem rLowest_c (k : Nat) (n : Nt) (ok : OkN n) (hj : Jn n) (h : MHeap) : orA (k + 6) 14 [encN n] h = some (.tup [.sl ((lgZ n 0).map I64), I64 (minC n)], h) := by
 have := callA (k := k + 5) (h := h) (args := [encN n]) (args' := [encN n]) (frzL_lt (by simp [ltL, MV.lt, ltL_Ln, ltL_Cr])) rfl (rLowest_z k n ok hj) (by simp [okV, ok1, MV.lt, MV.pure, ltL, ltL_Ln, ltL_Cr, ltL_I]) rfl
 simpa [shV, sh1] using this
end Go.Proofs.YtbdleggmdbihnaaGreat

/- Contracts of the document: the ranges of the best corrections. -/
namespace Go.Proofs.YtbdleggmdbihnaaGreat
open Go.RowKit
set_option linter.unusedVariables false
set_option linter.unusedSimpArgs false
theorem frzI_arr {f : Nat} {imp : List Nat} {h : MHeap} {id k g : Nat} {o : MObj} {es : List MV} (hi : imp.contains id = false) (ho : h[id]? = some o) (hg : o.g = g) (hk : k = es.length) (hl : ltL 0 es = true) (he : o.es = es) : frz 0 imp h (f + 1) (.arr id 0 k g) = some (.sl es) := by
 subst he hk
 simp only [frz, MV.lt, Nat.not_lt_zero, decide_false, Bool.false_eq_true, if_false, hi, ho]
 simp [hg, hl]
theorem sealH_net {a b : Nat} {o0 o1 : MObj} {L rs : List MV} (ha : a = L.length) (hb : b = rs.length) (hL : ltL 0 L = true) (hr : ltL 0 rs = true) :
  sealH (fun _ => false) [o0, o1, ⟨0, false, 2, L⟩, ⟨0, false, 6, rs⟩, ⟨0, false, 2, [.agg [.arr 2 0 a 0, .arr 3 0 b 0]]⟩] (.ptr 4 0 0 0) = some [o0, o1, ⟨1, false, 2, []⟩, ⟨1, false, 6, []⟩, ⟨0, false, 2, [.agg [.sl L, .sl rs]]⟩] := by
 generalize hH : ([o0, o1, ⟨0, false, 2, L⟩, ⟨0, false, 6, rs⟩, ⟨0, false, 2, [.agg [.arr 2 0 a 0, .arr 3 0 b 0]]⟩] : MHeap) = H
 have g2 : H[2]? = some ⟨0, false, 2, L⟩ := by rw [← hH]; rfl
 have g3 : H[3]? = some ⟨0, false, 6, rs⟩ := by rw [← hH]; rfl
 have g4 : H[4]? = some ⟨0, false, 2, [.agg [.arr 2 0 a 0, .arr 3 0 b 0]]⟩ := by rw [← hH]; rfl
 have hids : ([MV.agg [.arr 2 0 a 0, .arr 3 0 b 0]].flatMap (MV.ids H 6)) = [2, 3] := by
  have e1 : MV.ids H 6 (.agg [.arr 2 0 a 0, .arr 3 0 b 0]) = [.arr 2 0 a 0, .arr 3 0 b 0].flatMap (MV.ids H 5) := rfl
  have e2 : MV.ids H 5 (.arr 2 0 a 0) = 2 :: (match H[2]? with | some o => o.es.flatMap (MV.ids H 4) | none => []) := rfl
  have e3 : MV.ids H 5 (.arr 3 0 b 0) = 3 :: (match H[3]? with | some o => o.es.flatMap (MV.ids H 4) | none => []) := rfl
  rw [g2] at e2
  rw [g3] at e3
  dsimp only at e2 e3
  rw [idsL_lt0 hL] at e2
  rw [idsL_lt0 hr] at e3
  rw [List.flatMap_cons, List.flatMap_nil, List.append_nil, e1]
  simp only [List.flatMap_cons, List.flatMap_nil, e2, e3]
  rfl
 have hes : ∀ imp : List Nat, imp.contains 2 = false → imp.contains 3 = false → [MV.agg [.arr 2 0 a 0, .arr 3 0 b 0]].mapM (frz 0 imp H 8) = some [MV.agg [.sl L, .sl rs]] := fun imp i2 i3 => by
  have : frz 0 imp H 8 (.agg [.arr 2 0 a 0, .arr 3 0 b 0]) = some (.agg [.sl L, .sl rs]) := by
   rw [frz, show (MV.agg [.arr 2 0 a 0, .arr 3 0 b 0]).lt 0 = false from rfl]
   simp only [Bool.false_eq_true, if_false, List.mapM_cons, List.mapM_nil, frzI_arr i2 g2 rfl ha hL rfl, frzI_arr i3 g3 rfl hb hr rfl]
   rfl
  simp [this]
 unfold sealH
 simp only [g4]
 rw [hids, hes _ (by rw [← hH]; rfl) (by rw [← hH]; rfl)]
 subst hH
 rfl
theorem sealH_net0 {a : Nat} {o0 o1 : MObj} {L : List MV} (ha : a = L.length) (hL : ltL 0 L = true) :
  sealH (fun _ => false) [o0, o1, ⟨0, false, 2, L⟩, ⟨0, false, 2, [.agg [.arr 2 0 a 0, .sl []]]⟩] (.ptr 3 0 0 0) = some [o0, o1, ⟨1, false, 2, []⟩, ⟨0, false, 2, [.agg [.sl L, .sl []]]⟩] := by
 generalize hH : ([o0, o1, ⟨0, false, 2, L⟩, ⟨0, false, 2, [.agg [.arr 2 0 a 0, .sl []]]⟩] : MHeap) = H
 have g2 : H[2]? = some ⟨0, false, 2, L⟩ := by rw [← hH]; rfl
 have g4 : H[3]? = some ⟨0, false, 2, [.agg [.arr 2 0 a 0, .sl []]]⟩ := by rw [← hH]; rfl
 have hids : ([MV.agg [.arr 2 0 a 0, .sl []]].flatMap (MV.ids H 6)) = [2] := by
  have e1 : MV.ids H 6 (.agg [.arr 2 0 a 0, .sl []]) = [.arr 2 0 a 0, .sl []].flatMap (MV.ids H 5) := rfl
  have e2 : MV.ids H 5 (.arr 2 0 a 0) = 2 :: (match H[2]? with | some o => o.es.flatMap (MV.ids H 4) | none => []) := rfl
  rw [g2] at e2
  dsimp only at e2
  rw [idsL_lt0 hL] at e2
  rw [List.flatMap_cons, List.flatMap_nil, List.append_nil, e1]
  simp only [List.flatMap_cons, List.flatMap_nil, e2, ids_lt0 5 (.sl []) rfl]
  rfl
 have hes : ∀ imp : List Nat, imp.contains 2 = false → [MV.agg [.arr 2 0 a 0, .sl []]].mapM (frz 0 imp H 8) = some [MV.agg [.sl L, .sl []]] := fun imp i2 => by
  have : frz 0 imp H 8 (.agg [.arr 2 0 a 0, .sl []]) = some (.agg [.sl L, .sl []]) := by
   rw [frz, show (MV.agg [.arr 2 0 a 0, .sl []]).lt 0 = false from rfl]
   simp only [Bool.false_eq_true, if_false, List.mapM_cons, List.mapM_nil, frzI_arr i2 g2 rfl ha hL rfl]
   rfl
  simp [this]
 unfold sealH
 simp only [g4]
 rw [hids, hes _ (by rw [← hH]; rfl)]
 subst hH
 rfl
def ngD (n : Nt) : List Int := n.cs.map fun x => 0 - x.df
theorem wiU_lt (cs : List Cr) (ds : List Int) : ∀ i j, j < i → j < cs.length → (wiU cs ds i)[j]? = some (setD (cs.getD j default) (cAt ds j))
 | 0, j, h, _ => by omega
 | i + 1, j, h, hj => by
  rw [wiU]
  by_cases e : j = i
  ·subst e
   rw [List.getElem?_set_self (by rw [wiU_len]; exact hj)]
  ·rw [List.getElem?_set_ne (by omega)]
   exact wiU_lt cs ds i j (by omega) hj
theorem ngD_at {n : Nt} {i : Nat} (hi : i < n.cs.length) : cAt (ngD n) (i : Int) = 0 - n.cs[i].df := by
 unfold cAt ngD
 rw [Int.toNat_natCast, List.getD_eq_getElem?_getD, List.getElem?_map, List.getElem?_eq_getElem hi]; rfl
theorem nW_neg (n : Nt) : nW n (ngD n) = negN n := by
 unfold nW negN
 congr 1
 refine List.ext_getElem? fun i => ?_
 by_cases hi : i < n.cs.length
 ·rw [wiU_lt _ _ _ _ hi hi, List.getElem?_map, List.getElem?_eq_getElem hi, ngD_at hi, List.getD_eq_getElem?_getD, List.getElem?_eq_getElem hi]; rfl
 ·rw [List.getElem?_eq_none (by rw [wiU_len]; omega), List.getElem?_eq_none (by simp; omega)]
theorem mf_rRanges : MT.mf 17 = some ⟨62, [(.tmp 2)], (.seq (.reg [⟨none, some 1, .box 2 (.s 0)⟩, ⟨none, some 2, .nil0 2⟩]) (.seq (.reg [⟨none, some 12, .ld (some 2) (.s 1)⟩, ⟨none, some 13, .call 14 [.s 12]⟩, ⟨none, some 11, .mv (.s 13)⟩, ⟨none, some 14, .ext (.s 11) 0⟩, ⟨none, some 15, .ext (.s 11) 1⟩, ⟨none, some 3, .mv (.s 14)⟩, ⟨none, some 4, .mv (.s 15)⟩]) (.seq (.reg [⟨none, some 16, .ld (some 2) (.s 1)⟩, ⟨none, some 17, .call 11 [.s 16]⟩, ⟨none, some 5, .new (.agg [(.lit (.slice none 0 0)), (.lit (.slice none 0 0))])⟩, ⟨none, none, .st 2 (.s 5) (.s 17)⟩]) (.seq (.seq (.reg [⟨none, some 6, .mv (.c (.lit (.int .i64 0)))⟩]) (.block 0 (.loop [6, 5, 3] (.seq (.seq (.reg [⟨none, some 18, .mv (.s 6)⟩, ⟨none, some 19, .fa 1 (.s 5)⟩, ⟨none, some 20, .ld none (.s 19)⟩, ⟨none, some 21, .len (.s 20)⟩, ⟨none, some 22, .bin .lss (.s 18) (.s 21)⟩]) (.cond (.s 22) .skip (.exit 0))) (.seq (.block 1 (.reg [⟨none, some 25, .fa 1 (.s 5)⟩, ⟨none, some 26, .ld none (.s 25)⟩, ⟨none, some 27, .mv (.s 6)⟩, ⟨none, some 28, .fa 1 (.s 5)⟩, ⟨none, some 29, .ld none (.s 28)⟩, ⟨none, some 30, .mv (.s 6)⟩, ⟨none, some 31, .ia 6 (.s 29) (.s 30)⟩, ⟨none, some 32, .fa 4 (.s 31)⟩, ⟨none, some 33, .ld none (.s 32)⟩, ⟨none, some 34, .un .neg (.s 33)⟩, ⟨none, some 35, .ia 6 (.s 26) (.s 27)⟩, ⟨none, some 36, .fa 4 (.s 35)⟩, ⟨none, none, .st 1 (.s 36) (.s 34)⟩])) (.reg [⟨none, some 23, .mv (.s 6)⟩, ⟨none, some 24, .bin .add (.s 23) (.c (.lit (.int .i64 1)))⟩, ⟨none, some 6, .mv (.s 24)⟩])))))) (.seq (.give 5 (.reg [⟨none, some 38, .ld (some 2) (.s 5)⟩, ⟨none, some 39, .call 14 [.s 38]⟩, ⟨none, some 37, .mv (.s 39)⟩, ⟨none, some 40, .ext (.s 37) 0⟩, ⟨none, some 41, .ext (.s 37) 1⟩, ⟨none, some 7, .mv (.s 40)⟩, ⟨none, some 8, .mv (.s 41)⟩])) (.seq (.reg [⟨none, some 9, .nil0 2⟩]) (.seq (.seq (.reg [⟨none, some 10, .mv (.c (.lit (.int .i64 0)))⟩]) (.block 2 (.loop [10, 3, 9, 7] (.seq (.seq (.reg [⟨none, some 42, .mv (.s 10)⟩, ⟨none, some 43, .mv (.s 3)⟩, ⟨none, some 44, .len (.s 43)⟩, ⟨none, some 45, .bin .lss (.s 42) (.s 44)⟩]) (.cond (.s 45) .skip (.exit 2))) (.seq (.block 3 (.reg [⟨none, some 48, .mv (.s 9)⟩, ⟨none, some 49, .mv (.s 3)⟩, ⟨none, some 50, .mv (.s 10)⟩, ⟨none, some 51, .ia 1 (.s 49) (.s 50)⟩, ⟨none, some 52, .ld none (.s 51)⟩, ⟨none, some 53, .mv (.s 7)⟩, ⟨none, some 54, .mv (.s 10)⟩, ⟨none, some 55, .ia 1 (.s 53) (.s 54)⟩, ⟨none, some 56, .ld none (.s 55)⟩, ⟨none, some 57, .un .neg (.s 56)⟩, ⟨none, some 58, .build [(.lit (.int .i64 0)), (.lit (.int .i64 0))] [(0, (1, (.s 52))), (1, (1, (.s 57)))]⟩, ⟨none, some 59, .bsl (.agg [(.lit (.int .i64 0)), (.lit (.int .i64 0))]) 2 1 [(0, (.s 58))]⟩, ⟨none, some 60, .app 2 (.s 48) (.s 59)⟩, ⟨none, some 9, .mv (.s 60)⟩])) (.reg [⟨none, some 46, .mv (.s 10)⟩, ⟨none, some 47, .bin .add (.s 46) (.c (.lit (.int .i64 1)))⟩, ⟨none, some 10, .mv (.s 47)⟩])))))) (.seq (.reg [⟨none, some 61, .mv (.s 9)⟩, ⟨none, some 2, .mv (.s 61)⟩]) .ret))))))))⟩ := by kernel_rfl
set_option maxRecDepth 20000 in
set_option maxHeartbeats 4000000 in
theorem rRanges_z (k : Nat) (n : Nt) (hb : BdN n) (ok : OkN n) (hj : Jn n) :
  runZ MT (orA (k + 6)) (itA (k + 6)) 4000000 17 [encN n] [] = some (.arr 0 0 n.ls.length 0, [⟨0, decide (n.ls.length = 0), 2, (rgL n).map encR⟩]) := by
 have l1 := ok.l1
 have l8 := ok.l8
 have c16 := ok.c16
 have okn := negN_ok ok
 have hjn := negN_jn hj
 have hll := (bst_low ok hj).len
 have hln : (lgZ (negN n) 0).length = n.ls.length := (bst_low okn hjn).len
 have hs1 : (MV.sl ((lgZ n 0).map I64)).slen = some n.ls.length := by simp [MV.slen, hll]
 have w1 := fun h => Copy_c (k + 5) n hb h
 have w2 := fun h => rLowest_c k n ok hj h
 have w3 := fun h => rLowest_c k (negN n) okn hjn h
 have HLO := Bx.mk (fun (i : Nat) (h : i < n.ls.length) => low_neg ok hj (v := (i : Int)) (by omega) (by omega))
 have HUB := Bx.mk (fun (i : Nat) (h : i < n.ls.length) => And.intro (upQ_at n h) ((bst_up ok hj).bd (i : Int)))
 have HRG := Bx.mk (fun (x : Cr) (hx : x ∈ n.cs) => (ok.rg x hx).df)
 have HNX := Bx.mk (fun (i : Nat) (h : i < n.ls.length) => rgL_next n h)
 have hrgl := rgL_len n
 have hW := Bx.mk (nW_neg n)
 have hNg := Bx.mk (fun (i : Nat) (hi : i < n.cs.length) => ngD_at hi)
 clear okn hjn ok hj
 refine runZ_of mf_rRanges (by simp) ?_
 simp only [argsL]
 have hsm : (∃ l ls, n.ls = l :: ls) := by
  cases hq : n.ls with
  | nil => rw [hq] at l1; simp at l1
  | cons l ls => exact ⟨l, ls, rfl⟩
 by_cases hc0 : n.cs = []
 ·have ew : ∀ p, cpV p n.ls n.cs = .agg [.arr p 0 n.ls.length 0, .sl []] := fun p => by
   obtain ⟨l, ls, hl⟩ := hsm
   rw [hc0, hl]; rfl
  have eh : cpH n.ls n.cs = [⟨0, false, 2, n.ls.map encLn⟩] := by
   obtain ⟨l, ls, hl⟩ := hsm
   rw [hc0, hl]; rfl
  simp only [ew, eh] at w1
  clear ew eh hsm
  repeat (first | apply ef_seq | (apply ef_mv; exact rfl; exact rfl) | (apply ef_ldp; exact rfl; exact rfl; (exact rfl); exact rfl; (exact rfl); (exact rd_2 rfl rfl)) | (apply ef_ext; (iterate 3 exact rfl)) | (apply ef_box; (iterate 4 exact rfl)) | (apply ef_new; exact rfl) | (apply ef_nil0; exact rfl) | (apply ef_st; (iterate 6 exact rfl); (exact rfl); exact rfl) | apply ef_nil | apply seqQ.normal | apply ef_block | (apply ef_call; exact rfl; ((repeat (apply XVs.cons; exact rfl)); exact XVs.nil); (with_reducible first | exact w2 _ | exact w1 _)))
  refine ef_loop (α := Unit) (fun _ => True) (fun _ => [(6, I64 0), (5, .ptr 3 0 0 0), (3, .sl ((lgZ n 0).map I64))]) (fun _ => [⟨0, false, 2, [encN n]⟩, ⟨0, true, 2, []⟩, ⟨0, false, 2, n.ls.map encLn⟩, ⟨0, false, 2, [.agg [.arr 2 0 n.ls.length 0, .sl []]]⟩]) (fun _ => 0) () [6, 5, 3] (fun _ => rfl) rfl trivial (by simp) (by ((repeat (refine Hold.cons (by exact rfl) ?_)); exact Hold.nil)) rfl ?_
  rintro ⟨⟩ -
  repeat (first | apply ef_seq | (apply ef_mv; exact rfl; exact rfl) | (apply ef_bin; (iterate 3 exact rfl); (exact rfl)) | (apply ef_len; exact rfl; exact rfl; (exact rfl)) | (apply ef_ldp; exact rfl; exact rfl; (exact rfl); exact rfl; (exact rfl); (exact rfl)) | (apply ef_fap; exact rfl; exact rfl) | apply ef_nil | apply seqQ.normal | apply loopQ.exit | apply ef_exit | apply seqQ.exit | apply blockQ.here | (apply ef_condf; exact rfl; (exact (rfl : false = false))))
  refine ef_give (by exact rfl) (sealH_net0 (L := n.ls.map encLn) (by simp) (ltL_Ln 0 _)) ?_
  have hen : MV.agg [.sl (n.ls.map encLn), .sl []] = encN (negN n) := by unfold negN; rw [hc0]; rfl
  rw [hen]
  repeat (first | apply ef_seq | (apply ef_mv; exact rfl; exact rfl) | (apply ef_ldp; exact rfl; exact rfl; (exact rfl); exact rfl; (exact rfl); (exact rd_2 rfl rfl)) | (apply ef_ext; (iterate 3 exact rfl)) | (apply ef_nil0; exact rfl) | apply ef_nil | apply seqQ.normal | apply ef_block | (apply ef_call; exact rfl; ((repeat (apply XVs.cons; exact rfl)); exact XVs.nil); (with_reducible exact w3 _)))
  refine ef_loopf (α := Nat × List MV) (fun p => p.1 ≤ n.ls.length ∧ p.2 = ((rgL n).take p.1).map encR) (fun p => [(10, I64 (p.1 : Int)), (9, .arr 4 0 p.1 p.1)]) [(3, .sl ((lgZ n 0).map I64)), (7, .sl ((lgZ (negN n) 0).map I64))] (fun p => [⟨0, false, 2, [encN n]⟩, ⟨0, true, 2, []⟩, ⟨1, false, 2, []⟩, ⟨0, false, 2, [encN (negN n)]⟩, ⟨p.1, decide (p.1 = 0), 2, p.2⟩]) (fun p => n.ls.length - p.1) (0, []) [10, 9] (fun _ => rfl) (by ((repeat (refine Hold.cons (by exact rfl) ?_)); exact Hold.nil)) (by ((repeat (refine Hold.cons (by exact rfl) ?_)); exact Hold.nil)) rfl rfl ⟨by omega, rfl⟩ (by show n.ls.length - 0 < 4000000; omega) ?_
  rintro ⟨i, rs⟩ ⟨hi, hrs⟩
  try simp only at hi hrs ⊢
  have hrl : rs.length = i := by rw [hrs, List.length_map, List.length_take, rgL_len]; omega
  have hlr : ∀ j, ltL j rs = true := fun j => by rw [hrs]; exact ltL_R j _
  by_cases hlt : i < n.ls.length
  ·have hz := HLO.out i hlt
   obtain ⟨hq, hb1, hb2⟩ := HUB.out i hlt
   rw [hq] at hb1 hb2
   have HN := Bx.mk (HNX.out i hlt)
   have e1 : ((lgZ n 0).map I64)[((i : Nat) : Int).toNat]? = some (I64 (cAt (lgZ n 0) (i : Nat))) := cAt_at hll (by omega) (by omega)
   have e2 : ((lgZ (negN n) 0).map I64)[((i : Nat) : Int).toNat]? = some (I64 (0 - upP n (i : Nat))) := by rw [← hz]; exact cAt_at hln (by omega) (by omega)
   clear hz hq
   generalize cAt (lgZ n 0) (i : Nat) = lo at *
   generalize hu : 0 - upP n (i : Nat) = z at *
   repeat (first | apply ef_seq | (apply ef_mv; exact rfl; exact rfl) | (apply ef_bin; (iterate 3 exact rfl); (exact cmp_t rfl (by first | exact rfl | (simp only [cmpP]; omega)))) | (apply ef_len; exact rfl; exact rfl; (assumption)) | (apply ef_ldr; exact rfl; exact rfl; (exact rfl)) | (apply ef_ias; (iterate 3 exact rfl); (omega); assumption; exact rfl) | (apply ef_neg; exact rfl; exact rfl; exact wrap_of (by omega) (by omega)) | (apply ef_build; exact rfl; (repeat (apply XVs.cons; exact rfl)); exact XVs.nil; exact rfl; exact rfl) | (apply ef_bsl; exact rfl; (repeat (apply XVs.cons; exact rfl)); exact XVs.nil; exact rfl) | apply ef_nil | apply seqQ.normal | apply ef_block | apply ef_skip | (apply ef_condt; exact rfl; (exact (rfl : true = true))))
   (apply ef_app; (· exact rfl); (· exact rfl); (· exact rfl); (· exact rfl); (· exact rfl); (· exact rfl); (· (simp [hrl])); (· exact rfl); (· (simp [hrl]; omega)); (· (exact rfl)); (· exact rfl))
   repeat (first | (apply ef_mv; exact rfl; exact rfl) | (apply ef_bin; (iterate 3 exact rfl); (((with_reducible refine bin_add (wrap_of ?_ ?_)) <;> omega))) | apply ef_nil | apply seqQ.normal | apply blockQ.normal)
   (refine loopQ.normal _ _ ⟨(i + 1, rs ++ [.agg [I64 lo, I64 (0 - z)]]), ⟨hlt, by rw [HN.out, hrs, show 0 - z = upP n (i : Nat) by omega]⟩, (by first | (simp only; omega) | omega), ⟨by ((repeat (refine Hold.cons (by exact rfl) ?_)); exact Hold.nil), by ((repeat (refine Hold.cons (by exact rfl) ?_)); exact Hold.nil)⟩, .inr ⟨by ((repeat (refine hdl_cons rfl (by first | rfl | (simp [MV.lt, ltL, ltL_Ln, ltL_Cr, ltL_I, ltL_A, hlr, ltL_app2, splice, MV.cells])) ?_)); exact hdl_nil), by (simp [hltL, ltL, MV.lt, ltL, ltL_Ln, ltL_Cr, ltL_I, ltL_A, hlr, ltL_app2, splice, MV.cells])⟩, by exact rfl⟩)
  ·obtain rfl : i = n.ls.length := by omega
   have hra : rs = (rgL n).map encR := by rw [hrs, List.take_of_length_le (by rw [rgL_len]; exact Nat.le_refl _)]
   repeat (first | apply ef_seq | (apply ef_mv; exact rfl; exact rfl) | (apply ef_bin; (iterate 3 exact rfl); (exact cmp_f rfl (by simp only [cmpP]; omega))) | (apply ef_len; exact rfl; exact rfl; (assumption)) | apply ef_nil | apply seqQ.normal | apply loopQ.exit | apply ef_ret | apply ef_exit | apply seqQ.exit | apply blockQ.here | (apply ef_condf; exact rfl; (exact (rfl : false = false))))
   (apply fin_arr; (· exact rfl); (· exact rfl); (· exact rfl); (· exact rfl); (· (show 0 + _ ≤ rs.length; rw [hrl]; omega)); (· (exact hlr 0)); (· (show (rs.drop 0).take _ = _; rw [List.drop_zero, List.take_of_length_le (by omega), hra])); (· exact rfl); (· exact rfl); (· rfl))
 ·have e : cpV 0 n.ls n.cs = .agg [.arr 0 0 n.ls.length 0, .arr 1 0 n.cs.length 0] := by
   obtain ⟨l, ls, hl⟩ := hsm
   cases hc : n.cs with
   | nil => exact absurd hc hc0
   | cons c cs => rw [hl]; rfl
  have ew : ∀ p, cpV p n.ls n.cs = .agg [.arr p 0 n.ls.length 0, .arr (1 + p) 0 n.cs.length 0] := fun p => by
   obtain ⟨l, ls, hl⟩ := hsm
   cases hc : n.cs with
   | nil => exact absurd hc hc0
   | cons c cs => rw [hl]; rfl
  have eh : cpH n.ls n.cs = [⟨0, false, 2, n.ls.map encLn⟩, ⟨0, false, 6, n.cs.map encCr⟩] := by
   obtain ⟨l, ls, hl⟩ := hsm
   cases hc : n.cs with
   | nil => exact absurd hc hc0
   | cons c cs => rw [hl]; rfl
  simp only [ew, eh] at w1
  clear e ew eh hsm
  repeat (first | apply ef_seq | (apply ef_mv; exact rfl; exact rfl) | (apply ef_ldp; exact rfl; exact rfl; (exact rfl); exact rfl; (exact rfl); (exact rd_2 rfl rfl)) | (apply ef_ext; (iterate 3 exact rfl)) | (apply ef_box; (iterate 4 exact rfl)) | (apply ef_new; exact rfl) | (apply ef_nil0; exact rfl) | (apply ef_st; (iterate 6 exact rfl); (exact rfl); exact rfl) | apply ef_nil | apply seqQ.normal | apply ef_block | (apply ef_call; exact rfl; ((repeat (apply XVs.cons; exact rfl)); exact XVs.nil); (with_reducible first | exact w2 _ | exact w1 _)))
  refine ef_loopf (α := Nat × List MV) (fun p => p.1 ≤ n.cs.length ∧ p.2 = (wiU n.cs (ngD n) p.1).map encCr) (fun p => [(6, I64 (p.1 : Int))]) [(5, .ptr 4 0 0 0), (3, .sl ((lgZ n 0).map I64))] (fun p => [⟨0, false, 2, [encN n]⟩, ⟨0, true, 2, []⟩, ⟨0, false, 2, n.ls.map encLn⟩, ⟨0, false, 6, p.2⟩, ⟨0, false, 2, [.agg [.arr 2 0 n.ls.length 0, .arr 3 0 n.cs.length 0]]⟩]) (fun p => n.cs.length - p.1) (0, n.cs.map encCr) [6] (fun _ => rfl) (by ((repeat (refine Hold.cons (by exact rfl) ?_)); exact Hold.nil)) (by ((repeat (refine Hold.cons (by exact rfl) ?_)); exact Hold.nil)) rfl rfl ⟨by omega, rfl⟩ (by show n.cs.length - 0 < 4000000; omega) ?_
  rintro ⟨i, rs⟩ ⟨hi, hrs⟩
  try simp only at hi hrs ⊢
  have hrl : rs.length = n.cs.length := by rw [hrs]; simp [wiU_len]
  by_cases hlt : i < n.cs.length
  ·have hat : n.cs[i]? = some n.cs[i] := List.getElem?_eq_getElem hlt
   have e2 : rs[0 + ((i : Nat) : Int).toNat]? = some (encCr n.cs[i]) := by
    rw [hrs, Nat.zero_add, Int.toNat_natCast, List.getElem?_map, wiU_at n.cs (ngD n) i i (Nat.le_refl _), hat]; rfl
   have HN := Lib.hid (wiU_next (ds := ngD n) hat)
   rw [hNg.out i hlt] at HN
   have hdf := HRG.out _ (List.getElem_mem hlt)
   generalize n.cs[i] = x at e2 HN hdf
   have hls : ∀ (j i : Nat) (a b c d e f : Int), ltL j (rs.set i (.agg [I64 a, I64 b, I64 c, I64 d, I64 e, I64 f])) = true := fun j i a b c d e f => ltL_set (by rw [hrs]; exact ltL_Cr j _) rfl
   repeat (first | apply ef_seq | (apply ef_mv; exact rfl; exact rfl) | (apply ef_bin; (iterate 3 exact rfl); (first | exact cmp_t rfl (by first | exact rfl | (simp only [cmpP]; omega)) | ((with_reducible refine bin_add (wrap_of ?_ ?_)) <;> omega))) | (apply ef_len; exact rfl; exact rfl; (exact rfl)) | (apply ef_ldp; exact rfl; exact rfl; (exact rfl); exact rfl; (first | exact rfl | assumption); (exact rfl)) | (apply ef_iaa; (iterate 3 exact rfl); (omega); (omega); (exact rfl)) | (apply ef_fap; exact rfl; exact rfl) | (apply ef_neg; exact rfl; exact rfl; exact wrap_of (by omega) (by omega)) | (apply ef_st; (iterate 6 exact rfl); (assumption); exact rfl) | apply ef_nil | apply seqQ.normal | apply blockQ.normal | apply ef_block | apply ef_skip | (apply ef_condt; exact rfl; (exact (rfl : true = true))))
   (refine loopQ.normal _ _ ⟨(i + 1, rs.set (0 + ((i : Nat) : Int).toNat) (encCr (setD x (0 - x.df)))), ⟨hlt, by rw [HN.out, hrs, Nat.zero_add, Int.toNat_natCast, List.map_set]⟩, (by first | (simp only; omega) | omega), ⟨by ((repeat (refine Hold.cons (by exact rfl) ?_)); exact Hold.nil), by ((repeat (refine Hold.cons (by exact rfl) ?_)); exact Hold.nil)⟩, .inr ⟨by ((repeat (refine hdl_cons rfl (by first | rfl | (simp [MV.lt, ltL, ltL_Ln, ltL_Cr, ltL_I, hls, splice, MV.cells])) ?_)); exact hdl_nil), by (simp [hltL, ltL, MV.lt, ltL, ltL_Ln, ltL_Cr, ltL_I, hls, splice, MV.cells])⟩, by exact rfl⟩)
  ·obtain rfl : i = n.cs.length := by omega
   have hre : rs = (negN n).cs.map encCr := by rw [hrs, ← hW.out]; rfl
   clear hrs
   repeat (first | apply ef_seq | (apply ef_mv; exact rfl; exact rfl) | (apply ef_bin; (iterate 3 exact rfl); (exact cmp_f rfl (by simp only [cmpP]; omega))) | (apply ef_len; exact rfl; exact rfl; (exact rfl)) | (apply ef_ldp; exact rfl; exact rfl; (exact rfl); exact rfl; (exact rfl); (exact rfl)) | (apply ef_fap; exact rfl; exact rfl) | apply ef_nil | apply seqQ.normal | apply loopQ.exit | apply ef_exit | apply seqQ.exit | apply blockQ.here | (apply ef_condf; exact rfl; (exact (rfl : false = false))))
   refine ef_give (by exact rfl) (sealH_net (L := n.ls.map encLn) (rs := rs) (by simp) hrl.symm (ltL_Ln 0 _) (by rw [hre]; exact ltL_Cr 0 _)) ?_
   have hen : MV.agg [.sl (n.ls.map encLn), .sl ((negN n).cs.map encCr)] = encN (negN n) := rfl
   rw [hre, hen]
   repeat (first | apply ef_seq | (apply ef_mv; exact rfl; exact rfl) | (apply ef_ldp; exact rfl; exact rfl; (exact rfl); exact rfl; (exact rfl); (exact rd_2 rfl rfl)) | (apply ef_ext; (iterate 3 exact rfl)) | (apply ef_nil0; exact rfl) | apply ef_nil | apply seqQ.normal | apply ef_block | (apply ef_call; exact rfl; ((repeat (apply XVs.cons; exact rfl)); exact XVs.nil); (with_reducible exact w3 _)))
   refine ef_loopf (α := Nat × List MV) (fun p => p.1 ≤ n.ls.length ∧ p.2 = ((rgL n).take p.1).map encR) (fun p => [(10, I64 (p.1 : Int)), (9, .arr 5 0 p.1 p.1)]) [(3, .sl ((lgZ n 0).map I64)), (7, .sl ((lgZ (negN n) 0).map I64))] (fun p => [⟨0, false, 2, [encN n]⟩, ⟨0, true, 2, []⟩, ⟨1, false, 2, []⟩, ⟨1, false, 6, []⟩, ⟨0, false, 2, [encN (negN n)]⟩, ⟨p.1, decide (p.1 = 0), 2, p.2⟩]) (fun p => n.ls.length - p.1) (0, []) [10, 9] (fun _ => rfl) (by ((repeat (refine Hold.cons (by exact rfl) ?_)); exact Hold.nil)) (by ((repeat (refine Hold.cons (by exact rfl) ?_)); exact Hold.nil)) rfl rfl ⟨by omega, rfl⟩ (by show n.ls.length - 0 < 4000000; omega) ?_
   clear hre hrl
   rintro ⟨i, rs⟩ ⟨hi, hrs⟩
   try simp only at hi hrs ⊢
   have hrl : rs.length = i := by rw [hrs, List.length_map, List.length_take, rgL_len]; omega
   have hlr : ∀ j, ltL j rs = true := fun j => by rw [hrs]; exact ltL_R j _
   by_cases hlt : i < n.ls.length
   ·have hz := HLO.out i hlt
    obtain ⟨hq, hb1, hb2⟩ := HUB.out i hlt
    rw [hq] at hb1 hb2
    have HN := Bx.mk (HNX.out i hlt)
    have e1 : ((lgZ n 0).map I64)[((i : Nat) : Int).toNat]? = some (I64 (cAt (lgZ n 0) (i : Nat))) := cAt_at hll (by omega) (by omega)
    have e2 : ((lgZ (negN n) 0).map I64)[((i : Nat) : Int).toNat]? = some (I64 (0 - upP n (i : Nat))) := by rw [← hz]; exact cAt_at hln (by omega) (by omega)
    clear hz hq
    generalize cAt (lgZ n 0) (i : Nat) = lo at *
    generalize hu : 0 - upP n (i : Nat) = z at *
    repeat (first | apply ef_seq | (apply ef_mv; exact rfl; exact rfl) | (apply ef_bin; (iterate 3 exact rfl); (exact cmp_t rfl (by first | exact rfl | (simp only [cmpP]; omega)))) | (apply ef_len; exact rfl; exact rfl; (assumption)) | (apply ef_ldr; exact rfl; exact rfl; (exact rfl)) | (apply ef_ias; (iterate 3 exact rfl); (omega); assumption; exact rfl) | (apply ef_neg; exact rfl; exact rfl; exact wrap_of (by omega) (by omega)) | (apply ef_build; exact rfl; (repeat (apply XVs.cons; exact rfl)); exact XVs.nil; exact rfl; exact rfl) | (apply ef_bsl; exact rfl; (repeat (apply XVs.cons; exact rfl)); exact XVs.nil; exact rfl) | apply ef_nil | apply seqQ.normal | apply ef_block | apply ef_skip | (apply ef_condt; exact rfl; (exact (rfl : true = true))))
    (apply ef_app; (· exact rfl); (· exact rfl); (· exact rfl); (· exact rfl); (· exact rfl); (· exact rfl); (· (simp [hrl])); (· exact rfl); (· (simp [hrl]; omega)); (· (exact rfl)); (· exact rfl))
    repeat (first | (apply ef_mv; exact rfl; exact rfl) | (apply ef_bin; (iterate 3 exact rfl); (((with_reducible refine bin_add (wrap_of ?_ ?_)) <;> omega))) | apply ef_nil | apply seqQ.normal | apply blockQ.normal)
    (refine loopQ.normal _ _ ⟨(i + 1, rs ++ [.agg [I64 lo, I64 (0 - z)]]), ⟨hlt, by rw [HN.out, hrs, show 0 - z = upP n (i : Nat) by omega]⟩, (by first | (simp only; omega) | omega), ⟨by ((repeat (refine Hold.cons (by exact rfl) ?_)); exact Hold.nil), by ((repeat (refine Hold.cons (by exact rfl) ?_)); exact Hold.nil)⟩, .inr ⟨by ((repeat (refine hdl_cons rfl (by first | rfl | (simp [MV.lt, ltL, ltL_Ln, ltL_Cr, ltL_I, ltL_A, hlr, ltL_app2, splice, MV.cells])) ?_)); exact hdl_nil), by (simp [hltL, ltL, MV.lt, ltL, ltL_Ln, ltL_Cr, ltL_I, ltL_A, hlr, ltL_app2, splice, MV.cells])⟩, by exact rfl⟩)
   ·obtain rfl : i = n.ls.length := by omega
    have hra : rs = (rgL n).map encR := by rw [hrs, List.take_of_length_le (by rw [rgL_len]; exact Nat.le_refl _)]
    repeat (first | apply ef_seq | (apply ef_mv; exact rfl; exact rfl) | (apply ef_bin; (iterate 3 exact rfl); (exact cmp_f rfl (by simp only [cmpP]; omega))) | (apply ef_len; exact rfl; exact rfl; (assumption)) | apply ef_nil | apply seqQ.normal | apply loopQ.exit | apply ef_ret | apply ef_exit | apply seqQ.exit | apply blockQ.here | (apply ef_condf; exact rfl; (exact (rfl : false = false))))
    (apply fin_arr; (· exact rfl); (· exact rfl); (· exact rfl); (· exact rfl); (· (show 0 + _ ≤ rs.length; rw [hrl]; omega)); (· (exact hlr 0)); (· (show (rs.drop 0).take _ = _; rw [List.drop_zero, List.take_of_length_le (by omega), hra])); (· exact rfl); (· exact rfl); (· rfl))
theorem rRanges_c (k : Nat) (n : Nt) (hb : BdN n) (ok : OkN n) (hj : Jn n) (h : MHeap) :
  orA (k + 7) 17 [encN n] h = some (.arr h.length 0 n.ls.length 0, h ++ [⟨0, decide (n.ls.length = 0), 2, (rgL n).map encR⟩]) := by
 have := callA (k := k + 6) (h := h) (args := [encN n]) (args' := [encN n]) (frzL_lt (by simp [ltL, MV.lt, ltL_Ln, ltL_Cr])) rfl (rRanges_z k n hb ok hj) (by simp [okV, ok1, MV.lt, MV.pure]) (by simp [okH, ltL_R, pureL_R])
 simpa [shV, sh1] using this
end Go.Proofs.YtbdleggmdbihnaaGreat

/- Contracts of the document: whether a net is joined. -/
namespace Go.Proofs.YtbdleggmdbihnaaGreat
open Go.RowKit
set_option linter.unusedVariables false
set_option linter.unusedSimpArgs false
structure JI (n : Nt) (R : List Int) : Prop where
 nd : R.Nodup
 rg : ∀ v ∈ R, 0 ≤ v ∧ v < (n.ls.length : Int)
 z : (0 : Int) ∈ R
 cl : ∀ S : Int → Bool, S 0 = true → (∀ x ∈ n.cs, S x.ln = S x.ti) → ∀ v ∈ R, S v = true
theorem nodup_le {m : Nat} {R : List Int} (nd : R.Nodup) (rg : ∀ v ∈ R, 0 ≤ v ∧ v < (m : Int)) : R.length ≤ m := by
 refine Classical.byContradiction fun h => ?_
 obtain ⟨i, j, hij, hj, e⟩ := pigeon m (fun i => R.getD i 0) (fun i hi => by
  have : i < R.length := by omega
  simp only [List.getD_eq_getElem?_getD, List.getElem?_eq_getElem this, Option.getD_some]
  exact rg _ (List.getElem_mem _))
 have h1 : i < R.length := by omega
 have h2 : j < R.length := by omega
 simp only [List.getD_eq_getElem?_getD, List.getElem?_eq_getElem h1, List.getElem?_eq_getElem h2, Option.getD_some] at e
 exact List.pairwise_iff_getElem.1 nd i j h1 h2 hij e
theorem JI.len {n : Nt} {R : List Int} (h : JI n R) : R.length ≤ n.ls.length := nodup_le h.nd h.rg
theorem JI.start {n : Nt} (h : 0 < n.ls.length) : JI n [0] := ⟨by simp, fun v hv => by rw [List.mem_singleton] at hv; subst hv; omega, by simp, fun S h0 _ v hv => by rw [List.mem_singleton] at hv; subst hv; exact h0⟩
theorem JI.add {n : Nt} (ok : OkN n) {R : List Int} (h : JI n R) {x : Cr} (hx : x ∈ n.cs) {a b : Int} (hab : (a = x.ln ∧ b = x.ti) ∨ (a = x.ti ∧ b = x.ln)) (ha : a ∈ R) (hb : ¬ b ∈ R) : JI n (R ++ [b]) := by
 have o := ok.rg x hx
 refine ⟨?_, fun v hv => ?_, by simp [h.z], fun S h0 hc v hv => ?_⟩
 ·rw [List.nodup_append]
  exact ⟨h.nd, by simp, fun u hu w hw => by rw [List.mem_singleton] at hw; subst hw; exact fun e => hb (e ▸ hu)⟩
 ·rcases List.mem_append.1 hv with hv | hv
  ·exact h.rg v hv
  ·rw [List.mem_singleton] at hv
   subst hv
   rcases hab with ⟨-, rfl⟩ | ⟨-, rfl⟩
   ·exact ⟨o.t0, o.t1⟩
   ·exact ⟨o.l0, o.l1⟩
 ·rcases List.mem_append.1 hv with hv | hv
  ·exact h.cl S h0 hc v hv
  ·rw [List.mem_singleton] at hv
   subst hv
   have h1 := h.cl S h0 hc a ha
   have h2 := hc x hx
   rcases hab with ⟨rfl, rfl⟩ | ⟨rfl, rfl⟩
   ·rw [← h2]; exact h1
   ·rw [h2]; exact h1
theorem JI.done {n : Nt} (ok : OkN n) {R : List Int} (h : JI n R) (hc : ∀ (j : Nat) (hj : j < n.cs.length), n.cs[j].ln ∈ R ↔ n.cs[j].ti ∈ R) : decide (R.length = n.ls.length) = jnB n := by
 have hl := h.len
 rw [Bool.eq_iff_iff, decide_eq_true_eq, jnB_iff ok]
 constructor
 ·intro he S h0 hcl v v0 v1
  refine h.cl S h0 hcl v (Classical.byContradiction fun hv => ?_)
  have := nodup_le (m := n.ls.length) (R := v :: R) (List.nodup_cons.2 ⟨hv, h.nd⟩) (fun u hu => by
   rcases List.mem_cons.1 hu with rfl | hu
   ·exact ⟨v0, v1⟩
   ·exact h.rg u hu)
  simp at this; omega
 ·intro hj
  have hall : ∀ v : Int, 0 ≤ v → v < (n.ls.length : Int) → v ∈ R := fun v v0 v1 => by
   have := hj (fun v => decide (v ∈ R)) (by simp [h.z]) (fun x hx => by
    obtain ⟨j, hj2, rfl⟩ := List.getElem_of_mem hx
    have := hc j hj2
    simp only [decide_eq_decide]
    exact this) v v0 v1
   simpa using this
  refine Classical.byContradiction fun hne => ?_
  have hlt : R.length < n.ls.length := by omega
  obtain ⟨i, j, hij, hj2, e⟩ := pigeon R.length (fun i => ((R.idxOf (i : Int) : Nat) : Int)) (fun i hi => by
   have := List.idxOf_lt_length_iff.2 (hall (i : Int) (by omega) (by omega))
   exact ⟨by omega, by omega⟩)
  have h1 := List.idxOf_lt_length_iff.2 (hall (i : Int) (by omega) (by omega))
  have h2 := List.idxOf_lt_length_iff.2 (hall (j : Int) (by omega) (by omega))
  have e1 := List.getElem_idxOf h1
  have e2 := List.getElem_idxOf h2
  have e3 : R.idxOf (i : Int) = R.idxOf (j : Int) := by omega
  have : (i : Int) = (j : Int) := by rw [← e1, ← e2]; simp only [e3]
  omega
end Go.Proofs.YtbdleggmdbihnaaGreat

/- Contracts of the document: whether a net is joined (walk). -/
namespace Go.Proofs.YtbdleggmdbihnaaGreat
open Go.RowKit
set_option linter.unusedVariables false
set_option linter.unusedSimpArgs false
abbrev ijH (n : Nt) (rs : List MV) (g : Nat) : MHeap := [⟨0, false, 2, [encN n]⟩, ⟨g, false, 1, rs⟩]
def clI (n : Nt) (R : List Int) (i : Nat) : Prop := ∀ (j : Nat) (hj : j < n.cs.length), j < i → (n.cs[j].ln ∈ R ↔ n.cs[j].ti ∈ R)
structure IJ (n : Nt) (m : Nat) (p : Nat × List Int × Nat × Bool) : Prop where
 i : p.1 ≤ n.cs.length
 ji : JI n p.2.1
 le : m ≤ p.2.1.length
 fl : p.2.2.2 = true → m < p.2.1.length
 cl : p.2.2.2 = false → clI n p.2.1 p.1
theorem IJ.skip {n : Nt} {m i g : Nat} {R : List Int} {f : Bool} (h : IJ n m (i, R, g, f)) (hlt : i < n.cs.length) (he : n.cs[i].ln ∈ R ↔ n.cs[i].ti ∈ R) : IJ n m (i + 1, R, g, f) :=
 ⟨hlt, h.ji, h.le, h.fl, fun hf j hj hji => by
  by_cases e : j = i
  ·subst e; exact he
  ·exact h.cl hf j hj (by show j < i; omega)⟩
theorem IJ.add {n : Nt} (ok : OkN n) {m i g : Nat} {R : List Int} {f : Bool} (h : IJ n m (i, R, g, f)) (hlt : i < n.cs.length) {a b : Int} (hab : (a = n.cs[i].ln ∧ b = n.cs[i].ti) ∨ (a = n.cs[i].ti ∧ b = n.cs[i].ln)) (ha : a ∈ R) (hb : ¬ b ∈ R) (g' : Nat) : IJ n m (i + 1, R ++ [b], g', true) := by
 have h1 := h.ji.add ok (List.getElem_mem hlt) hab ha hb
 have h2 := h.le
 exact ⟨hlt, h1, by simp at h2 ⊢; omega, fun _ => by simp at h2 ⊢; omega, fun hf => by cases hf⟩
theorem mf_IsJoined : MT.mf 46 = some ⟨61, [(.tmp 2)], (.seq (.reg [⟨none, some 1, .box 2 (.s 0)⟩, ⟨none, some 2, .mv (.c (.lit (.bool false)))⟩]) (.seq (.reg [⟨none, some 8, .bsl (.lit (.int .i64 0)) 1 1 [(0, (.c (.lit (.int .i64 0))))]⟩, ⟨none, some 3, .mv (.s 8)⟩]) (.seq (.seq (.reg [⟨none, some 4, .mv (.c (.lit (.bool true)))⟩]) (.block 0 (.loop [4, 1, 3] (.seq (.seq (.reg [⟨none, some 9, .mv (.s 4)⟩]) (.cond (.s 9) .skip (.exit 0))) (.block 1 (.seq (.reg [⟨none, some 4, .mv (.c (.lit (.bool false)))⟩]) (.seq (.reg [⟨none, some 5, .mv (.c (.lit (.int .i64 0)))⟩]) (.block 2 (.loop [5, 1, 3, 4] (.seq (.seq (.reg [⟨none, some 10, .mv (.s 5)⟩, ⟨none, some 11, .fa 1 (.s 1)⟩, ⟨none, some 12, .ld none (.s 11)⟩, ⟨none, some 13, .len (.s 12)⟩, ⟨none, some 14, .bin .lss (.s 10) (.s 13)⟩]) (.cond (.s 14) .skip (.exit 2))) (.seq (.block 3 (.seq (.reg [⟨none, some 17, .fa 1 (.s 1)⟩, ⟨none, some 18, .ld none (.s 17)⟩, ⟨none, some 19, .mv (.s 5)⟩, ⟨none, some 20, .ia 6 (.s 18) (.s 19)⟩, ⟨none, some 21, .fa 0 (.s 20)⟩, ⟨none, some 22, .ld none (.s 21)⟩, ⟨none, some 23, .fa 1 (.s 1)⟩, ⟨none, some 24, .ld none (.s 23)⟩, ⟨none, some 25, .mv (.s 5)⟩, ⟨none, some 26, .ia 6 (.s 24) (.s 25)⟩, ⟨none, some 27, .fa 1 (.s 26)⟩, ⟨none, some 28, .ld none (.s 27)⟩, ⟨none, some 6, .mv (.s 22)⟩, ⟨none, some 7, .mv (.s 28)⟩]) (.seq (.seq (.reg [⟨none, some 29, .mv (.s 3)⟩, ⟨none, some 30, .mv (.s 6)⟩, ⟨none, some 31, .call 95 [.s 29, .s 30]⟩, ⟨none, some 32, .mv (.s 31)⟩, ⟨some (32, true), some 33, .mv (.s 3)⟩, ⟨some (32, true), some 34, .mv (.s 7)⟩, ⟨some (32, true), some 35, .call 95 [.s 33, .s 34]⟩, ⟨some (32, true), some 36, .un .not (.s 35)⟩, ⟨none, some 37, .pick (.s 32) (.s 36) (.c (.lit (.bool false)))⟩]) (.cond (.s 37) (.reg [⟨none, some 38, .mv (.s 3)⟩, ⟨none, some 39, .mv (.s 7)⟩, ⟨none, some 40, .bsl (.lit (.int .i64 0)) 1 1 [(0, (.s 39))]⟩, ⟨none, some 41, .app 1 (.s 38) (.s 40)⟩, ⟨none, some 3, .mv (.s 41)⟩, ⟨none, some 4, .mv (.c (.lit (.bool true)))⟩]) .skip)) (.seq (.reg [⟨none, some 42, .mv (.s 3)⟩, ⟨none, some 43, .mv (.s 7)⟩, ⟨none, some 44, .call 95 [.s 42, .s 43]⟩, ⟨none, some 45, .mv (.s 44)⟩, ⟨some (45, true), some 46, .mv (.s 3)⟩, ⟨some (45, true), some 47, .mv (.s 6)⟩, ⟨some (45, true), some 48, .call 95 [.s 46, .s 47]⟩, ⟨some (45, true), some 49, .un .not (.s 48)⟩, ⟨none, some 50, .pick (.s 45) (.s 49) (.c (.lit (.bool false)))⟩]) (.cond (.s 50) (.reg [⟨none, some 51, .mv (.s 3)⟩, ⟨none, some 52, .mv (.s 6)⟩, ⟨none, some 53, .bsl (.lit (.int .i64 0)) 1 1 [(0, (.s 52))]⟩, ⟨none, some 54, .app 1 (.s 51) (.s 53)⟩, ⟨none, some 3, .mv (.s 54)⟩, ⟨none, some 4, .mv (.c (.lit (.bool true)))⟩]) .skip))))) (.reg [⟨none, some 15, .mv (.s 5)⟩, ⟨none, some 16, .bin .add (.s 15) (.c (.lit (.int .i64 1)))⟩, ⟨none, some 5, .mv (.s 16)⟩])))))))))))) (.seq (.reg [⟨none, some 55, .mv (.s 3)⟩, ⟨none, some 56, .len (.s 55)⟩, ⟨none, some 57, .fa 0 (.s 1)⟩, ⟨none, some 58, .ld none (.s 57)⟩, ⟨none, some 59, .len (.s 58)⟩, ⟨none, some 60, .bin .eql (.s 56) (.s 59)⟩, ⟨none, some 2, .mv (.s 60)⟩]) .ret))))⟩ := by kernel_rfl
set_option maxHeartbeats 4000000 in
theorem IsJoined_z (k : Nat) (n : Nt) (ok : OkN n) : runZ MT (orA (k + 1)) (itA (k + 1)) 4000000 46 [encN n] [] = some (Bo (jnB n), []) := by
 have l1 := ok.l1
 have l8 := ok.l8
 have c16 := ok.c16
 have hs1 : (MV.sl (n.ls.map encLn)).slen = some n.ls.length := by simp [MV.slen]
 have hs2 : (MV.sl (n.cs.map encCr)).slen = some n.cs.length := by simp [MV.slen]
 refine runZ_of mf_IsJoined (by simp) ?_
 simp only [argsL]
 repeat (first | apply ef_seq | (apply ef_mv; exact rfl; exact rfl) | (apply ef_box; (iterate 4 exact rfl)) | (apply ef_bsl; exact rfl; (repeat (apply XVs.cons; exact rfl)); exact XVs.nil; exact rfl) | apply ef_nil | apply seqQ.normal | apply ef_block)
 refine ef_loopf (α := (List Int × Nat × List MV) × Nat × Bool) (fun p => (JI n p.1.1 ∧ (p.2.2 = false → clI n p.1.1 n.cs.length)) ∧ p.1.2.1 = p.1.1.length ∧ p.1.2.2 = p.1.1.map I64) (fun p => [(4, Bo p.2.2), (3, .arr 1 0 p.1.2.1 p.2.1)]) [(1, .ptr 0 0 0 0)] (fun p => ijH n p.1.2.2 p.2.1) (fun p => 2 * (n.ls.length - p.1.2.1) + (if p.2.2 then 1 else 0)) (([0], 1, [I64 0]), 0, true) [4, 3] (fun _ => rfl) (by ((repeat (refine Hold.cons (by exact rfl) ?_)); exact Hold.nil)) (by ((repeat (refine Hold.cons (by exact rfl) ?_)); exact Hold.nil)) rfl rfl ⟨⟨.start l1, fun h => by cases h⟩, rfl, rfl⟩ (by show 2 * (n.ls.length - 1) + 1 < 4000000; omega) ?_
 rintro ⟨⟨R, K, rs⟩, g, f⟩ ⟨⟨hji, hcl⟩, hK, hrs⟩
 try simp only at hji hcl hK hrs ⊢
 have hle := hji.len
 have HJ := Bx.mk hji
 have HC := Bx.mk hcl
 clear hji hcl
 cases f
 ·repeat (first | apply ef_seq | (apply ef_mv; exact rfl; exact rfl) | (apply ef_bin; (iterate 3 exact rfl); (exact rfl)) | (apply ef_len; exact rfl; exact rfl; (first | assumption | exact rfl)) | (apply ef_ldp; exact rfl; exact rfl; (exact rfl); exact rfl; (exact rfl); (exact rfl)) | (apply ef_fap; exact rfl; exact rfl) | apply ef_nil | apply seqQ.normal | apply loopQ.exit | apply ef_ret | apply ef_exit | apply seqQ.exit | apply blockQ.here | (apply ef_condf; exact rfl; (exact (rfl : false = false))))
  (refine fin1 rfl (by exact rfl) rfl ?_)
  rw [← HJ.out.done ok (fun j hj => HC.out rfl j hj hj)]
  rw [hK]; congr 2; rw [Bool.eq_iff_iff]; simp; omega
 ·repeat (first | apply ef_seq | (apply ef_mv; exact rfl; exact rfl) | apply ef_nil | apply seqQ.normal | apply ef_block | apply ef_skip | (apply ef_condt; exact rfl; (exact (rfl : true = true))))
  refine ef_loopf (α := Nat × (List Int × Nat × List MV) × Nat × Bool) (fun p => IJ n K (p.1, p.2.1.1, p.2.2) ∧ p.2.1.2.1 = p.2.1.1.length ∧ p.2.1.2.2 = p.2.1.1.map I64) (fun p => [(5, I64 (p.1 : Int)), (4, Bo p.2.2.2), (3, .arr 1 0 p.2.1.2.1 p.2.2.1)]) [(1, .ptr 0 0 0 0)] (fun p => ijH n p.2.1.2.2 p.2.2.1) (fun p => n.cs.length - p.1) (0, (R, K, rs), g, false) [5, 4, 3] (fun _ => rfl) (by ((repeat (refine Hold.cons (by exact rfl) ?_)); exact Hold.nil)) (by ((repeat (refine Hold.cons (by exact rfl) ?_)); exact Hold.nil)) rfl rfl ⟨⟨by simp, HJ.out, by rw [hK]; exact Nat.le_refl _, (fun h => by cases h), (fun _ j hj hj0 => by cases hj0)⟩, hK, hrs⟩ (by show n.cs.length - 0 < 4000000; omega) ?_
  rintro ⟨i, ⟨Q, L, qs⟩, q, f⟩ ⟨hI, hL, hqs⟩
  try simp only at hI hL hqs
  have hQl := hI.ji.len
  have hi := hI.i
  have hQ0 := hI.le
  have hf1 := hI.fl
  have HI := Bx.mk hI
  clear hI
  try simp only at hQl hi hQ0 hf1 ⊢
  have hlr : ∀ j, ltL j qs = true := fun j => by rw [hqs]; exact ltL_I j _
  have hql : qs.length = L := by rw [hqs, hL]; simp
  by_cases hlt : i < n.cs.length
  ·have e1 := at_map encCr n.cs i hlt
   have HA := Bx.mk (fun {a b : Int} (hab : (a = n.cs[i].ln ∧ b = n.cs[i].ti) ∨ (a = n.cs[i].ti ∧ b = n.cs[i].ln)) (ha : a ∈ Q) (hb : ¬ b ∈ Q) (g' : Nat) => HI.out.add ok hlt hab ha hb g')
   have HS := Bx.mk (fun (he : n.cs[i].ln ∈ Q ↔ n.cs[i].ti ∈ Q) => HI.out.skip hlt he)
   generalize n.cs[i] = x at e1 HA HS
   have wq := fun (z : Int) (t : Bool) (ht : Q.any (· == z) = t) h v hv => bHas_c k Q z (by omega) h (v := v) hv ht
   have hany : ∀ z : Int, z ∈ Q → Q.any (· == z) = true := fun z hz => by simp [hz]
   have hnan : ∀ z : Int, ¬ z ∈ Q → Q.any (· == z) = false := fun z hz => by
    cases h : Q.any (· == z)
    ·rfl
    ·exact absurd (by simpa using h) hz
   by_cases ha : x.ln ∈ Q
   ·have wa := wq _ _ (hany _ ha)
    by_cases hb : x.ti ∈ Q
    ·have wb := wq _ _ (hany _ hb)
     repeat (first | apply ef_seq | (apply ef_mv; exact rfl; exact rfl) | (apply ef_bin; (iterate 3 exact rfl); (exact cmp_t rfl (by first | exact rfl | (simp only [cmpP]; omega)))) | (apply ef_len; exact rfl; exact rfl; (assumption)) | (apply ef_ldr; exact rfl; exact rfl; (exact rfl)) | (apply ef_ldp; exact rfl; exact rfl; (exact rfl); exact rfl; (exact rfl); (exact rfl)) | (apply ef_ias; (iterate 3 exact rfl); (omega); assumption; exact rfl) | (apply ef_fap; exact rfl; exact rfl) | (apply ef_far; exact rfl; exact rfl) | apply ef_nil | apply seqQ.normal | apply ef_block | apply ef_skip | (apply ef_condt; exact rfl; (exact (rfl : true = true))))
     (apply ef_call; (· exact rfl); (· ((repeat (apply XVs.cons; exact rfl)); exact XVs.nil)); · exact wa _ _ (frz_row (o := ⟨q, false, 1, qs⟩) rfl rfl (by simp [hL]) (ltL_I 0 _) hqs))
     repeat (first | (apply ef_mv; exact rfl; exact rfl) | (apply ef_gy; exact rfl; (exact (rfl : true = true))))
     (apply ef_call; (· exact rfl); (· ((repeat (apply XVs.cons; exact rfl)); exact XVs.nil)); · exact wb _ _ (frz_row (o := ⟨q, false, 1, qs⟩) rfl rfl (by simp [hL]) (ltL_I 0 _) hqs))
     repeat (first | apply ef_seq | (apply ef_mv; exact rfl; exact rfl) | (apply ef_gy; exact rfl; (exact (rfl : true = true))) | (apply ef_pick; (iterate 3 exact rfl)) | (apply ef_notT; exact rfl; exact rfl) | apply ef_nil | apply seqQ.normal | apply ef_skip | (apply ef_condf; exact rfl; (exact (rfl : false = false))))
     (apply ef_call; (· exact rfl); (· ((repeat (apply XVs.cons; exact rfl)); exact XVs.nil)); · exact wb _ _ (frz_row (o := ⟨q, false, 1, qs⟩) rfl rfl (by simp [hL]) (ltL_I 0 _) hqs))
     repeat (first | (apply ef_mv; exact rfl; exact rfl) | (apply ef_gy; exact rfl; (exact (rfl : true = true))))
     (apply ef_call; (· exact rfl); (· ((repeat (apply XVs.cons; exact rfl)); exact XVs.nil)); · exact wa _ _ (frz_row (o := ⟨q, false, 1, qs⟩) rfl rfl (by simp [hL]) (ltL_I 0 _) hqs))
     repeat (first | (apply ef_mv; exact rfl; exact rfl) | (apply ef_bin; (iterate 3 exact rfl); (((with_reducible refine bin_add (wrap_of ?_ ?_)) <;> omega))) | (apply ef_gy; exact rfl; (exact (rfl : true = true))) | (apply ef_pick; (iterate 3 exact rfl)) | (apply ef_notT; exact rfl; exact rfl) | apply ef_nil | apply seqQ.normal | apply blockQ.normal | apply ef_skip | (apply ef_condf; exact rfl; (exact (rfl : false = false))))
     (refine loopQ.normal _ _ ⟨(i + 1, (Q, L, qs), q, f), ⟨HS.out ⟨fun _ => hb, fun _ => ha⟩, hL, hqs⟩, (by first | (simp only; omega) | omega), ⟨by ((repeat (refine Hold.cons (by exact rfl) ?_)); exact Hold.nil), by ((repeat (refine Hold.cons (by exact rfl) ?_)); exact Hold.nil)⟩, .inr ⟨by ((repeat (refine hdl_cons rfl (by first | rfl | (simp [MV.lt, ltL, ltL_Ln, ltL_Cr, ltL_I, hlr])) ?_)); exact hdl_nil), by first | rfl | (simp [hltL, ltL, MV.lt, ltL, ltL_Ln, ltL_Cr, ltL_I, hlr])⟩, by first | exact rfl | (simp only [List.map_append, List.map_set]; exact rfl)⟩)
    ·have wb := wq _ _ (hnan _ hb)
     have wc := fun (z : Int) (t : Bool) (ht : (Q ++ [x.ti]).any (· == z) = t) h v hv => bHas_c k (Q ++ [x.ti]) z (by simp; omega) h (v := v) hv ht
     have wca := wc x.ln true (by simp [ha])
     have wcb := wc x.ti true (by simp)
     repeat (first | apply ef_seq | (apply ef_mv; exact rfl; exact rfl) | (apply ef_bin; (iterate 3 exact rfl); (exact cmp_t rfl (by first | exact rfl | (simp only [cmpP]; omega)))) | (apply ef_len; exact rfl; exact rfl; (assumption)) | (apply ef_ldr; exact rfl; exact rfl; (exact rfl)) | (apply ef_ldp; exact rfl; exact rfl; (exact rfl); exact rfl; (exact rfl); (exact rfl)) | (apply ef_ias; (iterate 3 exact rfl); (omega); assumption; exact rfl) | (apply ef_fap; exact rfl; exact rfl) | (apply ef_far; exact rfl; exact rfl) | apply ef_nil | apply seqQ.normal | apply ef_block | apply ef_skip | (apply ef_condt; exact rfl; (exact (rfl : true = true))))
     (apply ef_call; (· exact rfl); (· ((repeat (apply XVs.cons; exact rfl)); exact XVs.nil)); · exact wa _ _ (frz_row (o := ⟨q, false, 1, qs⟩) rfl rfl (by simp [hL]) (ltL_I 0 _) hqs))
     repeat (first | (apply ef_mv; exact rfl; exact rfl) | (apply ef_gy; exact rfl; (exact (rfl : true = true))))
     (apply ef_call; (· exact rfl); (· ((repeat (apply XVs.cons; exact rfl)); exact XVs.nil)); · exact wb _ _ (frz_row (o := ⟨q, false, 1, qs⟩) rfl rfl (by simp [hL]) (ltL_I 0 _) hqs))
     repeat (first | (apply ef_mv; exact rfl; exact rfl) | (apply ef_gy; exact rfl; (exact (rfl : true = true))) | (apply ef_pick; (iterate 3 exact rfl)) | (apply ef_notF; exact rfl; exact rfl) | (apply ef_bsl; exact rfl; (repeat (apply XVs.cons; exact rfl)); exact XVs.nil; exact rfl) | apply ef_nil | apply seqQ.normal | (apply ef_condt; exact rfl; (exact (rfl : true = true))))
     (apply ef_app; (· exact rfl); (· exact rfl); (· exact rfl); (· exact rfl); (· exact rfl); (· exact rfl); (· (simp [hql])); (· exact rfl); (· (simp [hql]; omega)); (· (exact rfl)); (· exact rfl))
     repeat (first | apply ef_seq | (apply ef_mv; exact rfl; exact rfl) | apply ef_nil | apply seqQ.normal)
     (apply ef_call; (· exact rfl); (· ((repeat (apply XVs.cons; exact rfl)); exact XVs.nil)); · exact wcb _ _ (frz_row (o := ⟨q + 1, false, 1, qs ++ [I64 x.ti]⟩) rfl rfl (by simp [hL]) (ltL_I 0 _) (by simp [hqs])))
     repeat (first | (apply ef_mv; exact rfl; exact rfl) | (apply ef_gy; exact rfl; (exact (rfl : true = true))))
     (apply ef_call; (· exact rfl); (· ((repeat (apply XVs.cons; exact rfl)); exact XVs.nil)); · exact wca _ _ (frz_row (o := ⟨q + 1, false, 1, qs ++ [I64 x.ti]⟩) rfl rfl (by simp [hL]) (ltL_I 0 _) (by simp [hqs])))
     repeat (first | (apply ef_mv; exact rfl; exact rfl) | (apply ef_bin; (iterate 3 exact rfl); (((with_reducible refine bin_add (wrap_of ?_ ?_)) <;> omega))) | (apply ef_gy; exact rfl; (exact (rfl : true = true))) | (apply ef_pick; (iterate 3 exact rfl)) | (apply ef_notT; exact rfl; exact rfl) | apply ef_nil | apply seqQ.normal | apply blockQ.normal | apply ef_skip | (apply ef_condf; exact rfl; (exact (rfl : false = false))))
     (refine loopQ.normal _ _ ⟨(i + 1, (Q ++ [x.ti], L + 1, qs ++ [I64 x.ti]), q + 1, true), ⟨HA.out (.inl ⟨rfl, rfl⟩) ha hb _, (by simp [hL]), (by simp [hqs])⟩, (by first | (simp only; omega) | omega), ⟨by ((repeat (refine Hold.cons (by exact rfl) ?_)); exact Hold.nil), by ((repeat (refine Hold.cons (by exact rfl) ?_)); exact Hold.nil)⟩, .inr ⟨by ((repeat (refine hdl_cons rfl (by first | rfl | (simp [MV.lt, ltL, ltL_Ln, ltL_Cr, ltL_I, hlr, ltL_app2, splice, MV.cells])) ?_)); exact hdl_nil), by (simp [hltL, ltL, MV.lt, ltL, ltL_Ln, ltL_Cr, ltL_I, hlr, ltL_app2, splice, MV.cells])⟩, by exact rfl⟩)
   ·have wa := wq _ _ (hnan _ ha)
    by_cases hb : x.ti ∈ Q
    ·have wb := wq _ _ (hany _ hb)
     repeat (first | apply ef_seq | (apply ef_mv; exact rfl; exact rfl) | (apply ef_bin; (iterate 3 exact rfl); (exact cmp_t rfl (by first | exact rfl | (simp only [cmpP]; omega)))) | (apply ef_len; exact rfl; exact rfl; (assumption)) | (apply ef_ldr; exact rfl; exact rfl; (exact rfl)) | (apply ef_ldp; exact rfl; exact rfl; (exact rfl); exact rfl; (exact rfl); (exact rfl)) | (apply ef_ias; (iterate 3 exact rfl); (omega); assumption; exact rfl) | (apply ef_fap; exact rfl; exact rfl) | (apply ef_far; exact rfl; exact rfl) | apply ef_nil | apply seqQ.normal | apply ef_block | apply ef_skip | (apply ef_condt; exact rfl; (exact (rfl : true = true))))
     (apply ef_call; (· exact rfl); (· ((repeat (apply XVs.cons; exact rfl)); exact XVs.nil)); · exact wa _ _ (frz_row (o := ⟨q, false, 1, qs⟩) rfl rfl (by simp [hL]) (ltL_I 0 _) hqs))
     repeat (first | apply ef_seq | (apply ef_mv; exact rfl; exact rfl) | (apply ef_gn; exact rfl; (exact (rfl : false = false)); exact rfl) | (apply ef_pick; (iterate 3 exact rfl)) | apply ef_nil | apply seqQ.normal | apply ef_skip | (apply ef_condf; exact rfl; (exact (rfl : false = false))))
     (apply ef_call; (· exact rfl); (· ((repeat (apply XVs.cons; exact rfl)); exact XVs.nil)); · exact wb _ _ (frz_row (o := ⟨q, false, 1, qs⟩) rfl rfl (by simp [hL]) (ltL_I 0 _) hqs))
     repeat (first | (apply ef_mv; exact rfl; exact rfl) | (apply ef_gy; exact rfl; (exact (rfl : true = true))))
     (apply ef_call; (· exact rfl); (· ((repeat (apply XVs.cons; exact rfl)); exact XVs.nil)); · exact wa _ _ (frz_row (o := ⟨q, false, 1, qs⟩) rfl rfl (by simp [hL]) (ltL_I 0 _) hqs))
     repeat (first | (apply ef_mv; exact rfl; exact rfl) | (apply ef_gy; exact rfl; (exact (rfl : true = true))) | (apply ef_pick; (iterate 3 exact rfl)) | (apply ef_notF; exact rfl; exact rfl) | (apply ef_bsl; exact rfl; (repeat (apply XVs.cons; exact rfl)); exact XVs.nil; exact rfl) | apply ef_nil | apply seqQ.normal | (apply ef_condt; exact rfl; (exact (rfl : true = true))))
     (apply ef_app; (· exact rfl); (· exact rfl); (· exact rfl); (· exact rfl); (· exact rfl); (· exact rfl); (· (simp [hql])); (· exact rfl); (· (simp [hql]; omega)); (· (exact rfl)); (· exact rfl))
     repeat (first | (apply ef_mv; exact rfl; exact rfl) | (apply ef_bin; (iterate 3 exact rfl); (((with_reducible refine bin_add (wrap_of ?_ ?_)) <;> omega))) | apply ef_nil | apply seqQ.normal | apply blockQ.normal)
     (refine loopQ.normal _ _ ⟨(i + 1, (Q ++ [x.ln], L + 1, qs ++ [I64 x.ln]), q + 1, true), ⟨HA.out (.inr ⟨rfl, rfl⟩) hb ha _, (by simp [hL]), (by simp [hqs])⟩, (by first | (simp only; omega) | omega), ⟨by ((repeat (refine Hold.cons (by exact rfl) ?_)); exact Hold.nil), by ((repeat (refine Hold.cons (by exact rfl) ?_)); exact Hold.nil)⟩, .inr ⟨by ((repeat (refine hdl_cons rfl (by first | rfl | (simp [MV.lt, ltL, ltL_Ln, ltL_Cr, ltL_I, hlr, ltL_app2, splice, MV.cells])) ?_)); exact hdl_nil), by (simp [hltL, ltL, MV.lt, ltL, ltL_Ln, ltL_Cr, ltL_I, hlr, ltL_app2, splice, MV.cells])⟩, by exact rfl⟩)
    ·have wb := wq _ _ (hnan _ hb)
     repeat (first | apply ef_seq | (apply ef_mv; exact rfl; exact rfl) | (apply ef_bin; (iterate 3 exact rfl); (exact cmp_t rfl (by first | exact rfl | (simp only [cmpP]; omega)))) | (apply ef_len; exact rfl; exact rfl; (assumption)) | (apply ef_ldr; exact rfl; exact rfl; (exact rfl)) | (apply ef_ldp; exact rfl; exact rfl; (exact rfl); exact rfl; (exact rfl); (exact rfl)) | (apply ef_ias; (iterate 3 exact rfl); (omega); assumption; exact rfl) | (apply ef_fap; exact rfl; exact rfl) | (apply ef_far; exact rfl; exact rfl) | apply ef_nil | apply seqQ.normal | apply ef_block | apply ef_skip | (apply ef_condt; exact rfl; (exact (rfl : true = true))))
     (apply ef_call; (· exact rfl); (· ((repeat (apply XVs.cons; exact rfl)); exact XVs.nil)); · exact wa _ _ (frz_row (o := ⟨q, false, 1, qs⟩) rfl rfl (by simp [hL]) (ltL_I 0 _) hqs))
     repeat (first | apply ef_seq | (apply ef_mv; exact rfl; exact rfl) | (apply ef_gn; exact rfl; (exact (rfl : false = false)); exact rfl) | (apply ef_pick; (iterate 3 exact rfl)) | apply ef_nil | apply seqQ.normal | apply ef_skip | (apply ef_condf; exact rfl; (exact (rfl : false = false))))
     (apply ef_call; (· exact rfl); (· ((repeat (apply XVs.cons; exact rfl)); exact XVs.nil)); · exact wb _ _ (frz_row (o := ⟨q, false, 1, qs⟩) rfl rfl (by simp [hL]) (ltL_I 0 _) hqs))
     repeat (first | (apply ef_mv; exact rfl; exact rfl) | (apply ef_bin; (iterate 3 exact rfl); (((with_reducible refine bin_add (wrap_of ?_ ?_)) <;> omega))) | (apply ef_gn; exact rfl; (exact (rfl : false = false)); exact rfl) | (apply ef_pick; (iterate 3 exact rfl)) | apply ef_nil | apply seqQ.normal | apply blockQ.normal | apply ef_skip | (apply ef_condf; exact rfl; (exact (rfl : false = false))))
     (refine loopQ.normal _ _ ⟨(i + 1, (Q, L, qs), q, f), ⟨HS.out ⟨fun h => absurd h ha, fun h => absurd h hb⟩, hL, hqs⟩, (by first | (simp only; omega) | omega), ⟨by ((repeat (refine Hold.cons (by exact rfl) ?_)); exact Hold.nil), by ((repeat (refine Hold.cons (by exact rfl) ?_)); exact Hold.nil)⟩, .inr ⟨by ((repeat (refine hdl_cons rfl (by first | rfl | (simp [MV.lt, ltL, ltL_Ln, ltL_Cr, ltL_I, hlr])) ?_)); exact hdl_nil), by first | rfl | (simp [hltL, ltL, MV.lt, ltL, ltL_Ln, ltL_Cr, ltL_I, hlr])⟩, by first | exact rfl | (simp only [List.map_append, List.map_set]; exact rfl)⟩)
  ·obtain rfl : i = n.cs.length := by omega
   repeat (first | apply ef_seq | (apply ef_mv; exact rfl; exact rfl) | (apply ef_bin; (iterate 3 exact rfl); (exact cmp_f rfl (by simp only [cmpP]; omega))) | (apply ef_len; exact rfl; exact rfl; (assumption)) | (apply ef_ldp; exact rfl; exact rfl; (exact rfl); exact rfl; (exact rfl); (exact rfl)) | (apply ef_fap; exact rfl; exact rfl) | apply ef_nil | apply seqQ.normal | apply loopQ.exit | apply ef_exit | apply seqQ.exit | apply blockQ.normal | apply blockQ.here | (apply ef_condf; exact rfl; (exact (rfl : false = false))))
   (refine loopQ.normal _ _ ⟨((Q, L, qs), q, f), ⟨⟨HI.out.ji, HI.out.cl⟩, hL, hqs⟩, (by cases f <;> simp at hf1 ⊢ <;> omega), ⟨by ((repeat (refine Hold.cons (by exact rfl) ?_)); exact Hold.nil), by ((repeat (refine Hold.cons (by exact rfl) ?_)); exact Hold.nil)⟩, .inr ⟨by ((repeat (refine hdl_cons rfl (by first | rfl | (simp [MV.lt, ltL, ltL_Ln, ltL_Cr, ltL_I, hlr])) ?_)); exact hdl_nil), by first | rfl | (simp [hltL, ltL, MV.lt, ltL, ltL_Ln, ltL_Cr, ltL_I, hlr])⟩, by first | exact rfl | (simp only [List.map_append, List.map_set]; exact rfl)⟩)
theorem IsJoined_c (k : Nat) (n : Nt) (ok : OkN n) (h : MHeap) : orA (k + 2) 46 [encN n] h = some (Bo (jnB n), h) :=
 callL (args' := [encN n]) (frzL_lt (by simp [ltL, MV.lt, ltL_Ln, ltL_Cr])) rfl (IsJoined_z k n ok)
theorem mf_JoinedErr : MT.mf 13 = some ⟨12, [(.tmp 2)], (.seq (.reg [⟨none, some 1, .box 2 (.s 0)⟩, ⟨none, some 2, .mv (.c (.lit (.int .i64 0)))⟩]) (.seq (.seq (.reg [⟨none, some 4, .ld (some 2) (.s 1)⟩, ⟨none, some 5, .call 43 [.s 4]⟩, ⟨none, some 3, .mv (.s 5)⟩]) (.seq (.reg [⟨none, some 6, .mv (.s 3)⟩, ⟨none, some 7, .bin .neq (.s 6) (.c (.lit (.int .i64 0)))⟩]) (.cond (.s 7) (.seq (.reg [⟨none, some 8, .mv (.s 3)⟩, ⟨none, some 2, .mv (.s 8)⟩]) .ret) .skip))) (.seq (.seq (.reg [⟨none, some 9, .ld (some 2) (.s 1)⟩, ⟨none, some 10, .call 46 [.s 9]⟩, ⟨none, some 11, .un .not (.s 10)⟩]) (.cond (.s 11) (.seq (.reg [⟨none, some 2, .mv (.c (.lit (.int .i64 21)))⟩]) .ret) .skip)) (.seq (.reg [⟨none, some 2, .mv (.c (.lit (.int .i64 0)))⟩]) .ret))))⟩ := by kernel_rfl
theorem JoinedErr_c (k : Nat) (n : Nt) (hb : BdN n) (h : MHeap) : orA (k + 5) 13 [encN n] h = some (I64 (joE n), h) := by
 refine callL (args' := [encN n]) (frzL_lt (by simp [ltL, MV.lt, ltL_Ln, ltL_Cr])) rfl (runZ_of mf_JoinedErr (by simp) ?_)
 simp only [argsL]
 have w1 := fun h => NetErr_c k n hb h
 by_cases h0 : (netF n).2 = 0
 ·have w2 := fun h => IsJoined_c (k + 2) n (net_ok h0) h
  have HJ := Bx.mk (show joE n = (if jnB n then 0 else 21) by unfold joE; rw [if_pos h0])
  rw [h0] at w1
  cases hj : jnB n
  all_goals rw [hj] at w2 HJ
  all_goals repeat (first | apply ef_seq | (apply ef_mv; exact rfl; exact rfl) | (apply ef_bin; (iterate 3 exact rfl); (exact cmp_f rfl (by simp only [cmpP]; omega))) | (apply ef_ldp; exact rfl; exact rfl; (exact rfl); exact rfl; (exact rfl); (exact rd_2 rfl rfl)) | (apply ef_notT; exact rfl; exact rfl) | (apply ef_notF; exact rfl; exact rfl) | (apply ef_box; (iterate 4 exact rfl)) | apply ef_nil | apply seqQ.normal | apply ef_ret | apply seqQ.ret | apply ef_skip | (apply ef_condt; exact rfl; (exact (rfl : true = true))) | (apply ef_condf; exact rfl; (exact (rfl : false = false))) | (apply ef_call; exact rfl; ((repeat (apply XVs.cons; exact rfl)); exact XVs.nil); (with_reducible first | exact w1 _ | exact w2 _)))
  all_goals (refine fin1 rfl (by exact rfl) rfl ?_)
  all_goals (rw [HJ.out]; rfl)
 ·have HJ := Bx.mk (show joE n = (netF n).2 by unfold joE; rw [if_neg h0])
  generalize (netF n).2 = e at *
  repeat (first | apply ef_seq | (apply ef_mv; exact rfl; exact rfl) | (apply ef_bin; (iterate 3 exact rfl); (exact cmp_t rfl (by first | exact rfl | (simp only [cmpP]; omega)))) | (apply ef_ldp; exact rfl; exact rfl; (exact rfl); exact rfl; (exact rfl); (exact rd_2 rfl rfl)) | (apply ef_box; (iterate 4 exact rfl)) | apply ef_nil | apply seqQ.normal | apply ef_ret | apply seqQ.ret | (apply ef_condt; exact rfl; (exact (rfl : true = true))) | (apply ef_call; exact rfl; ((repeat (apply XVs.cons; exact rfl)); exact XVs.nil); (with_reducible exact w1 _)))
  (refine fin1 rfl (by exact rfl) rfl ?_)
  rw [HJ.out]
end Go.Proofs.YtbdleggmdbihnaaGreat

/- Few lines and crossings. -/
namespace Go.Proofs.YtbdleggmdbihnaaGreat
open Go.RowKit
set_option linter.unusedVariables false
set_option linter.unusedSimpArgs false
theorem mf_light : MT.mf 9 = some ⟨18, [(.tmp 2)], (.seq (.reg [⟨none, some 1, .box 2 (.s 0)⟩, ⟨none, some 2, .mv (.c (.lit (.bool false)))⟩]) (.seq (.reg [⟨none, some 3, .fa 0 (.s 1)⟩, ⟨none, some 4, .ld none (.s 3)⟩, ⟨none, some 5, .len (.s 4)⟩, ⟨none, some 6, .bin .leq (.s 5) (.c (.lit (.int .i64 6)))⟩, ⟨none, some 7, .mv (.s 6)⟩, ⟨some (7, true), some 8, .fa 1 (.s 1)⟩, ⟨some (7, true), some 9, .ld none (.s 8)⟩, ⟨some (7, true), some 10, .len (.s 9)⟩, ⟨some (7, true), some 11, .bin .leq (.s 10) (.c (.lit (.int .i64 10)))⟩, ⟨none, some 12, .pick (.s 7) (.s 11) (.c (.lit (.bool false)))⟩, ⟨none, some 13, .mv (.s 12)⟩, ⟨some (13, false), some 14, .ld (some 2) (.s 1)⟩, ⟨some (13, false), some 15, .call 43 [.s 14]⟩, ⟨some (13, false), some 16, .bin .neq (.s 15) (.c (.lit (.int .i64 0)))⟩, ⟨none, some 17, .pick (.s 13) (.c (.lit (.bool true))) (.s 16)⟩, ⟨none, some 2, .mv (.s 17)⟩]) .ret))⟩ := by kernel_rfl
def lightB (n : Nt) : Bool := (decide (n.ls.length ≤ 6) && decide (n.cs.length ≤ 10)) || decide ((netF n).2 ≠ 0)
theorem light_c (k : Nat) (n : Nt) (hb : BdN n) (h : MHeap) : orA (k + 5) 9 [encN n] h = some (Bo (lightB n), h) := by
 refine callL (args' := [encN n]) (frzL_lt (by simp [ltL, MV.lt, ltL_Ln, ltL_Cr])) rfl (runZ_of mf_light (by simp) ?_)
 simp only [argsL]
 have hs1 : (MV.sl (n.ls.map encLn)).slen = some n.ls.length := by simp [MV.slen]
 have hs2 : (MV.sl (n.cs.map encCr)).slen = some n.cs.length := by simp [MV.slen]
 have ho := fun h => NetErr_c k n hb h
 have HL := Bx.mk (show lightB n = ((decide (n.ls.length ≤ 6) && decide (n.cs.length ≤ 10)) || decide ((netF n).2 ≠ 0)) from rfl)
 generalize (netF n).2 = e at ho HL
 by_cases h1 : n.ls.length ≤ 6
 ·by_cases h2 : n.cs.length ≤ 10
  ·repeat (first | apply ef_seq | (apply ef_mv; exact rfl; exact rfl) | (apply ef_bin; (iterate 3 exact rfl); (exact cmp_t rfl (by first | exact rfl | (simp only [cmpP]; omega)))) | (apply ef_gy; exact rfl; (exact (rfl : true = true))) | (apply ef_gn; exact rfl; (exact (rfl : true = true)); exact rfl) | (apply ef_pick; (iterate 3 exact rfl)) | (apply ef_len; exact rfl; exact rfl; (assumption)) | (apply ef_ldp; exact rfl; exact rfl; (exact rfl); exact rfl; (exact rfl); (exact rfl)) | (apply ef_fap; exact rfl; exact rfl) | (apply ef_box; (iterate 4 exact rfl)) | apply ef_nil | apply seqQ.normal | apply ef_ret)
   (refine fin1 rfl (by exact rfl) rfl ?_)
   rw [HL.out, decide_eq_true h1, decide_eq_true h2]; rfl
  ·by_cases h3 : e = 0
   all_goals repeat (first | apply ef_seq | (apply ef_mv; exact rfl; exact rfl) | (apply ef_bin; (iterate 3 exact rfl); (first | exact cmp_t rfl (by first | exact rfl | (simp only [cmpP]; omega)) | exact cmp_f rfl (by simp only [cmpP]; omega))) | (apply ef_gy; exact rfl; (first | exact (rfl : true = true) | exact (rfl : false = false))) | (apply ef_pick; (iterate 3 exact rfl)) | (apply ef_len; exact rfl; exact rfl; (assumption)) | (apply ef_ldp; exact rfl; exact rfl; (exact rfl); exact rfl; (exact rfl); (first | exact rd_2 rfl rfl | exact rfl)) | (apply ef_fap; exact rfl; exact rfl) | (apply ef_box; (iterate 4 exact rfl)) | apply ef_nil | apply seqQ.normal | apply ef_ret | (apply ef_call; exact rfl; ((repeat (apply XVs.cons; exact rfl)); exact XVs.nil); (with_reducible exact ho _)))
   all_goals (refine fin1 rfl (by exact rfl) rfl ?_)
   all_goals (rw [HL.out]; simp [h1, h2, h3])
 ·by_cases h3 : e = 0
  all_goals repeat (first | apply ef_seq | (apply ef_mv; exact rfl; exact rfl) | (apply ef_bin; (iterate 3 exact rfl); (first | exact cmp_t rfl (by first | exact rfl | (simp only [cmpP]; omega)) | exact cmp_f rfl (by simp only [cmpP]; omega))) | (apply ef_gy; exact rfl; (exact (rfl : false = false))) | (apply ef_gn; exact rfl; (exact (rfl : false = false)); exact rfl) | (apply ef_pick; (iterate 3 exact rfl)) | (apply ef_len; exact rfl; exact rfl; (assumption)) | (apply ef_ldp; exact rfl; exact rfl; (exact rfl); exact rfl; (exact rfl); (first | exact rd_2 rfl rfl | exact rfl)) | (apply ef_fap; exact rfl; exact rfl) | (apply ef_box; (iterate 4 exact rfl)) | apply ef_nil | apply seqQ.normal | apply ef_ret | (apply ef_call; exact rfl; ((repeat (apply XVs.cons; exact rfl)); exact XVs.nil); (with_reducible exact ho _)))
  all_goals (refine fin1 rfl (by exact rfl) rfl ?_)
  all_goals (rw [HL.out]; simp [h1, h3])
end Go.Proofs.YtbdleggmdbihnaaGreat

/- LevelBest: the walk. -/
namespace Go.Proofs.YtbdleggmdbihnaaGreat
open Go.RowKit
set_option linter.unusedVariables false
set_option linter.unusedSimpArgs false
theorem mf_LevelBest : MT.mf 3 = some ⟨85, [(.tmp 2)], (.seq (.reg [⟨none, some 1, .box 2 (.s 0)⟩, ⟨none, some 2, .mv (.c (.lit (.bool false)))⟩]) (.seq (.seq (.reg [⟨none, some 11, .call 7 []⟩, ⟨none, some 12, .un .not (.s 11)⟩]) (.cond (.s 12) (.seq (.reg [⟨none, some 2, .mv (.c (.lit (.bool false)))⟩]) .ret) .skip)) (.seq (.seq (.reg [⟨none, some 13, .ld (some 2) (.s 1)⟩, ⟨none, some 14, .call 8 [.s 13]⟩, ⟨none, some 15, .un .not (.s 14)⟩, ⟨none, some 16, .mv (.s 15)⟩, ⟨some (16, false), some 17, .ld (some 2) (.s 1)⟩, ⟨some (16, false), some 18, .call 9 [.s 17]⟩, ⟨some (16, false), some 19, .un .not (.s 18)⟩, ⟨none, some 20, .pick (.s 16) (.c (.lit (.bool true))) (.s 19)⟩]) (.cond (.s 20) (.seq (.reg [⟨none, some 2, .mv (.c (.lit (.bool true)))⟩]) .ret) .skip)) (.seq (.reg [⟨none, some 22, .ld (some 2) (.s 1)⟩, ⟨none, some 23, .call 11 [.s 22]⟩, ⟨none, some 24, .call 10 [.s 23]⟩, ⟨none, some 21, .mv (.s 24)⟩, ⟨none, some 25, .ext (.s 21) 0⟩, ⟨none, some 26, .ext (.s 21) 1⟩, ⟨none, some 27, .ext (.s 21) 2⟩, ⟨none, some 3, .mv (.s 25)⟩, ⟨none, some 4, .mv (.s 26)⟩, ⟨none, some 5, .mv (.s 27)⟩]) (.seq (.reg [⟨none, some 29, .ld (some 2) (.s 1)⟩, ⟨none, some 30, .call 11 [.s 29]⟩, ⟨none, some 31, .call 12 [.s 30]⟩, ⟨none, some 28, .mv (.s 31)⟩, ⟨none, some 32, .ext (.s 28) 0⟩, ⟨none, some 33, .ext (.s 28) 1⟩, ⟨none, some 6, .mv (.s 32)⟩, ⟨none, some 7, .mv (.s 33)⟩]) (.seq (.seq (.reg [⟨none, some 34, .ld (some 2) (.s 1)⟩, ⟨none, some 35, .call 13 [.s 34]⟩, ⟨none, some 8, .mv (.s 35)⟩]) (.seq (.reg [⟨none, some 36, .mv (.s 8)⟩, ⟨none, some 37, .bin .neq (.s 36) (.c (.lit (.int .i64 0)))⟩]) (.cond (.s 37) (.seq (.reg [⟨none, some 38, .mv (.s 5)⟩, ⟨none, some 39, .mv (.s 8)⟩, ⟨none, some 40, .bin .eql (.s 38) (.s 39)⟩, ⟨none, some 41, .mv (.s 40)⟩, ⟨some (41, true), some 42, .mv (.s 7)⟩, ⟨some (41, true), some 43, .mv (.s 8)⟩, ⟨some (41, true), some 44, .bin .eql (.s 42) (.s 43)⟩, ⟨none, some 45, .pick (.s 41) (.s 44) (.c (.lit (.bool false)))⟩, ⟨none, some 46, .mv (.s 45)⟩, ⟨some (46, true), some 47, .mv (.s 3)⟩, ⟨some (46, true), some 48, .len (.s 47)⟩, ⟨some (46, true), some 49, .mv (.s 6)⟩, ⟨some (46, true), some 50, .len (.s 49)⟩, ⟨some (46, true), some 51, .bin .add (.s 48) (.s 50)⟩, ⟨some (46, true), some 52, .bin .eql (.s 51) (.c (.lit (.int .i64 0)))⟩, ⟨none, some 53, .pick (.s 46) (.s 52) (.c (.lit (.bool false)))⟩, ⟨none, some 54, .mv (.s 53)⟩, ⟨some (54, true), some 55, .mv (.s 4)⟩, ⟨some (54, true), some 56, .bin .eql (.s 55) (.c (.lit (.int .i64 0)))⟩, ⟨none, some 57, .pick (.s 54) (.s 56) (.c (.lit (.bool false)))⟩, ⟨none, some 2, .mv (.s 57)⟩]) .ret) .skip))) (.seq (.reg [⟨none, some 59, .ld (some 2) (.s 1)⟩, ⟨none, some 60, .call 14 [.s 59]⟩, ⟨none, some 58, .mv (.s 60)⟩, ⟨none, some 61, .ext (.s 58) 0⟩, ⟨none, some 62, .ext (.s 58) 1⟩, ⟨none, some 9, .mv (.s 61)⟩, ⟨none, some 10, .mv (.s 62)⟩]) (.seq (.reg [⟨none, some 63, .mv (.s 5)⟩, ⟨none, some 64, .bin .eql (.s 63) (.c (.lit (.int .i64 0)))⟩, ⟨none, some 65, .mv (.s 64)⟩, ⟨some (65, true), some 66, .mv (.s 3)⟩, ⟨some (65, true), some 67, .mv (.s 9)⟩, ⟨some (65, true), some 68, .call 15 [.s 66, .s 67]⟩, ⟨none, some 69, .pick (.s 65) (.s 68) (.c (.lit (.bool false)))⟩, ⟨none, some 70, .mv (.s 69)⟩, ⟨some (70, true), some 71, .mv (.s 4)⟩, ⟨some (70, true), some 72, .mv (.s 10)⟩, ⟨some (70, true), some 73, .bin .eql (.s 71) (.s 72)⟩, ⟨none, some 74, .pick (.s 70) (.s 73) (.c (.lit (.bool false)))⟩, ⟨none, some 75, .mv (.s 74)⟩, ⟨some (75, true), some 76, .mv (.s 7)⟩, ⟨some (75, true), some 77, .bin .eql (.s 76) (.c (.lit (.int .i64 0)))⟩, ⟨none, some 78, .pick (.s 75) (.s 77) (.c (.lit (.bool false)))⟩, ⟨none, some 79, .mv (.s 78)⟩, ⟨some (79, true), some 80, .mv (.s 6)⟩, ⟨some (79, true), some 81, .ld (some 2) (.s 1)⟩, ⟨some (79, true), some 82, .call 17 [.s 81]⟩, ⟨some (79, true), some 83, .call 16 [.s 80, .s 82]⟩, ⟨none, some 84, .pick (.s 79) (.s 83) (.c (.lit (.bool false)))⟩, ⟨none, some 2, .mv (.s 84)⟩]) .ret))))))))⟩ := by kernel_rfl
set_option maxRecDepth 20000 in
set_option maxHeartbeats 4000000 in
theorem LevelBest_z (n : Nt) (m1 : n.ls.length ≤ 9223372036854775807) (m2 : n.cs.length ≤ 9223372036854775807) :
  runZ MT (orC LZ 13) (itA 14) 4000000 3 [encN n] [] = some (Bo true, []) := by
 refine runZ_of mf_LevelBest (by simp) ?_
 simp only [argsL]
 have w0 : ∀ h, orC LZ 13 7 [] h = some (Bo true, h) := fun h => orC_of rfl (awake_c h)
 have w1 : ∀ h, orC LZ 13 8 [encN n] h = _ := fun h => orC_of rfl (Few_c 13 n m1 m2 h)
 cases hf : fewNt n
 ·rw [hf] at w1
  repeat (first | apply ef_seq | (apply ef_mv; exact rfl; exact rfl) | (apply ef_gn; exact rfl; (exact (rfl : true = true)); exact rfl) | (apply ef_pick; (iterate 3 exact rfl)) | (apply ef_ldp; exact rfl; exact rfl; (exact rfl); exact rfl; (exact rfl); (exact rd_2 rfl rfl)) | (apply ef_notT; exact rfl; exact rfl) | (apply ef_notF; exact rfl; exact rfl) | (apply ef_box; (iterate 4 exact rfl)) | apply ef_nil | apply seqQ.normal | apply ef_ret | apply seqQ.ret | apply ef_skip | (apply ef_condt; exact rfl; (exact (rfl : true = true))) | (apply ef_condf; exact rfl; (exact (rfl : false = false))) | (apply ef_call; exact rfl; ((repeat (apply XVs.cons; exact rfl)); exact XVs.nil); (with_reducible first | exact w0 _ | exact w1 _)))
  (refine fin1 rfl (by exact rfl) rfl ?_)
  rfl
 obtain ⟨hb, n10, n18⟩ := fewNt_bd hf
 rw [hf] at w1
 have w2 : ∀ h, orC LZ 13 9 [encN n] h = _ := fun h => orC_of rfl (light_c 9 n hb h)
 cases hli : lightB n
 ·rw [hli] at w2
  repeat (first | apply ef_seq | (apply ef_mv; exact rfl; exact rfl) | (apply ef_gy; exact rfl; (exact (rfl : false = false))) | (apply ef_pick; (iterate 3 exact rfl)) | (apply ef_ldp; exact rfl; exact rfl; (exact rfl); exact rfl; (exact rfl); (exact rd_2 rfl rfl)) | (apply ef_notT; exact rfl; exact rfl) | (apply ef_notF; exact rfl; exact rfl) | (apply ef_box; (iterate 4 exact rfl)) | apply ef_nil | apply seqQ.normal | apply ef_ret | apply seqQ.ret | apply ef_skip | (apply ef_condt; exact rfl; (exact (rfl : true = true))) | (apply ef_condf; exact rfl; (exact (rfl : false = false))) | (apply ef_call; exact rfl; ((repeat (apply XVs.cons; exact rfl)); exact XVs.nil); (with_reducible first | exact w0 _ | exact w1 _ | exact w2 _)))
  (refine fin1 rfl (by exact rfl) rfl ?_)
  rfl
 rw [hli] at w2
 have w4 : ∀ h, orC LZ 13 13 [encN n] h = _ := fun h => orC_of rfl (JoinedErr_c 9 n hb h)
 have w5 := fun h => Copy_cc 13 n hb h
 by_cases h0 : joE n = 0
 ·obtain ⟨hn, ok, hj⟩ := joE_ok h0
  have l1 := ok.l1
  have l8 := ok.l8
  have hlen := (bst_low ok hj).len
  have hrl := rgL_len n
  have w6 : ∀ h, orC LZ 13 10 [encN n] h = _ := fun h => orC_of rfl (BestOf_c 6 n hb h0 h)
  have w7 : ∀ h, orC LZ 13 12 [encN n] h = _ := fun h => orC_of rfl (RangesOf_c 6 n hb h0 h)
  have w8 : ∀ h, orC LZ 13 14 [encN n] h = _ := fun h => orC_of rfl (rLowest_c 8 n ok hj h)
  have w9 : ∀ h, orC LZ 13 17 [encN n] h = _ := fun h => orC_of rfl (rRanges_c 7 n hb ok hj h)
  have w10 : ∀ h v (hv : frz 0 [] h 8 v = some (.sl ((lgZ n 0).map I64))), orC LZ 13 15 [v, .sl ((lgZ n 0).map I64)] h = _ := fun h v hv => orC_of rfl (bInts_c 13 (lgZ n 0) (lgZ n 0) h (by omega) hv (frz_sl (ltL_I 0 _)) (t := true) (by simp))
  have w11 : ∀ h v w (hv : frz 0 [] h 8 v = some (.sl ((rgL n).map encR))) (hw : frz 0 [] h 8 w = some (.sl ((rgL n).map encR))), orC LZ 13 16 [v, w] h = _ := fun h v w hv hw => orC_of rfl (bRanges_c 13 (rgL n) (rgL n) h (by omega) hv hw (t := true) (by simp))
  rw [h0] at w4
  clear ok hj h0 hn
  generalize minC n = mc at *
  repeat (first | apply ef_seq | (apply ef_mv; exact rfl; exact rfl) | (apply ef_bin; (iterate 3 exact rfl); (first | exact cmp_t rfl (by first | exact rfl | (simp only [cmpP]; omega)) | exact cmp_f rfl (by simp only [cmpP]; omega))) | (apply ef_gy; exact rfl; (first | exact (rfl : true = true) | exact (rfl : false = false))) | (apply ef_pick; (iterate 3 exact rfl)) | (apply ef_ldp; exact rfl; exact rfl; (exact rfl); exact rfl; (exact rfl); (exact rd_2 rfl rfl)) | (apply ef_notT; exact rfl; exact rfl) | (apply ef_ext; (iterate 3 exact rfl)) | (apply ef_box; (iterate 4 exact rfl)) | apply ef_nil | apply seqQ.normal | apply ef_skip | (apply ef_condf; exact rfl; (exact (rfl : false = false))) | (apply ef_call; exact rfl; ((repeat (apply XVs.cons; exact rfl)); exact XVs.nil); (with_reducible first | exact w0 _ | exact w1 _ | exact w2 _ | exact w5 _ | exact w6 _ | exact w7 _ | exact w4 _ | exact w8 _)))
  (apply ef_call; (· exact rfl); (· ((repeat (apply XVs.cons; exact rfl)); exact XVs.nil)); · exact w10 _ _ (frz_row (o := ⟨0, false, 1, (lgZ n 0).map I64⟩) rfl rfl (by simp [hlen]) (ltL_I 0 _) rfl))
  repeat (first | (apply ef_mv; exact rfl; exact rfl) | (apply ef_bin; (iterate 3 exact rfl); (exact cmp_t rfl (by first | exact rfl | (simp only [cmpP]; omega)))) | (apply ef_gy; exact rfl; (exact (rfl : true = true))) | (apply ef_pick; (iterate 3 exact rfl)) | (apply ef_ldp; exact rfl; exact rfl; (exact rfl); exact rfl; (exact rfl); (exact rd_2 rfl rfl)) | (apply ef_call; exact rfl; ((repeat (apply XVs.cons; exact rfl)); exact XVs.nil); (with_reducible exact w9 _)))
  (apply ef_call; (· exact rfl); (· ((repeat (apply XVs.cons; exact rfl)); exact XVs.nil)); · exact w11 _ _ _ (frz_row (o := ⟨0, decide (n.ls.length = 0), 2, (rgL n).map encR⟩) rfl rfl (by simp [hrl]) (ltL_R 0 _) rfl) (frz_row (o := ⟨0, decide (n.ls.length = 0), 2, (rgL n).map encR⟩) rfl rfl (by simp [hrl]) (ltL_R 0 _) rfl))
  repeat (first | (apply ef_mv; exact rfl; exact rfl) | (apply ef_pick; (iterate 3 exact rfl)) | apply ef_nil | apply seqQ.normal | apply ef_ret)
  (refine fin1 rfl (by exact rfl) rfl ?_)
  simp
 ·have w6 : ∀ h, orC LZ 13 10 [encN n] h = _ := fun h => orC_of rfl (BestOf_e 6 n hb h0 h)
  have w7 : ∀ h, orC LZ 13 12 [encN n] h = _ := fun h => orC_of rfl (RangesOf_e 6 n hb h0 h)
  generalize joE n = e at *
  repeat (first | apply ef_seq | (apply ef_mv; exact rfl; exact rfl) | (apply ef_bin; (iterate 3 exact rfl); (first | exact cmp_t rfl (by first | exact rfl | (simp only [cmpP]; omega)) | ((with_reducible refine bin_add (wrap_of ?_ ?_)) <;> omega))) | (apply ef_gy; exact rfl; (first | exact (rfl : true = true) | exact (rfl : false = false))) | (apply ef_pick; (iterate 3 exact rfl)) | (apply ef_len; exact rfl; exact rfl; (exact rfl)) | (apply ef_ldp; exact rfl; exact rfl; (exact rfl); exact rfl; (exact rfl); (exact rd_2 rfl rfl)) | (apply ef_notT; exact rfl; exact rfl) | (apply ef_ext; (iterate 3 exact rfl)) | (apply ef_box; (iterate 4 exact rfl)) | apply ef_nil | apply seqQ.normal | apply ef_ret | apply seqQ.ret | apply ef_skip | (apply ef_condt; exact rfl; (exact (rfl : true = true))) | (apply ef_condf; exact rfl; (exact (rfl : false = false))) | (apply ef_call; exact rfl; ((repeat (apply XVs.cons; exact rfl)); exact XVs.nil); (with_reducible first | exact w0 _ | exact w1 _ | exact w2 _ | exact w5 _ | exact w6 _ | exact w7 _ | exact w4 _)))
  (refine fin1 rfl (by exact rfl) rfl ?_)
  simp
end Go.Proofs.YtbdleggmdbihnaaGreat
