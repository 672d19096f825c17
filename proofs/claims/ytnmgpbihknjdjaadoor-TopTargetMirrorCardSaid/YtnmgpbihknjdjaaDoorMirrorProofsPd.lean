/- The texts that the examples reach, as a table. -/
import Derived.Shelf.SlSortCmp.NoneTotal
import Derived.Test.YtnmgpbihknjdjaaDoorChecked
import Derived.Lib.SliceRun
import Derived.WalkKit
import Derived.Lib.Walk
import Derived.Lib.TrailingZeros
import Derived.Shelf.Spec.TrailingZeros
import Derived.Test.YtnmgpbihknjdjaaDoorMirrorProofsPc
set_option linter.unusedVariables false
set_option linter.unusedSimpArgs false
/- Functions: how they are written in the small language, and run. -/
namespace Go.Proofs.YtnmgpbihknjdjaaDoor
open Go.RowKit
def MC.strip : MC → MC
 | .seq a b => .seq a.strip b.strip
 | .cond c a b => .cond c a.strip b.strip
 | .block id b => .block id b.strip
 | .loop _ b => .loop [] b.strip
 | .rf _ f ps a b => .rf [] f ps a.strip b.strip
 | .give _ b => b.strip
 | .mr _ _ id m r d e b => .mr [] [] id m r d e b.strip
 | .mrk gl _ _ id m r d e b _ c => .seq (.seq (.reg gl) (.mr [] [] id m r d e b.strip)) c.strip
 | c => c
theorem ungive {R : MC → Prop} {x : MC} (hs : ∀ t m, R m → R (.give t m)) (hb : ∀ mc, x = mc.strip → mc.isSeal = false → R mc) : ∀ mc, x = mc.strip → R mc := by
 intro mc
 induction mc with
 | give t b ih => exact fun h => hs t b (ih h)
 | _ => exact fun h => hb _ h rfl
def mrFit (P : Program) (a b : Code) (mb : MC) : Option (List GO × Nat × MX × Nat × Nat × Nat × MC) :=
 match a, b, mb with
 | .region _ ops1 false, .block id (.loop (.seq (.region _ ops2 false) (.seq (.cond (.tmp e') .skip (.exit k)) _))), .block _ (.loop _ (.seq _ (.seq _ body))) =>
  match ops1.toList.reverse, ops2.toList with
  | o :: l, [o1, o2] => match o.op, o.dst, o.guard, o1.op, o1.dst, o1.guard, o2.op, o2.dst, o2.guard with
   | .range t x, some r, none, .next (.tmp r') false, some d, none, .extract (.tmp d') 0, some e, none =>
    match P.underlying t, cX x, l.reverse.mapM (compG P ops1) with
    | some (.map _ _), some m, some gl => if r' = r ∧ d' = d ∧ e' = e ∧ k = id ∧ r ≠ d ∧ r ≠ e ∧ d ≠ e then some (gl, id, m, r, d, e, body) else none
    | _, _, _ => none
   | _, _, _, _, _, _, _, _, _ => none
  | _, _ => none
 | _, _, _ => none
def mkSeq (P : Program) (a b : Code) (ma mb : MC) : MC :=
 match mrFit P a b mb with
 | some (gl, id, m, r, d, e, body) => .seq (.reg gl) (.mr [] [] id m r d e body)
 | none => .seq ma mb
def compC (P : Program) : Code → MC
 | .skip => .skip
 | .region _ ops draw => match ops.toList.mapM (compG P ops) with
  | some gl => if draw && !drawOk ops gl then (if drawOk ops (virt ops gl) then .reg (virt ops gl) else if drawOk2 ops (hoist ops (virt ops gl)) (hoAt ops (virt ops gl)) then .reg (newsL (ops.toList.zip (virt ops gl)) ++ (hoist ops (virt ops gl) ++ chks ops (hoist ops (virt ops gl)))) else .bad) else .reg gl
  | none => .bad
 | .seq a b => mkSeq P a b (compC P a) (compC P b)
 | .cond c a b => match cX c with
  | some c' => .cond c' (compC P a) (compC P b)
  | none => .bad
 | .block id b => .block id (compC P b)
 | .loop b => .loop [] (compC P b)
 | .rangeFunc f ps a b => match cX f with
  | some f' => .rf [] f' ps.toList (compC P a) (compC P b)
  | none => .bad
 | .exit id => .exit id
 | .ret => .ret
 | _ => .bad
theorem compC_nmr {P : Program} {gl kp : List Nat} {id : Nat} {m : MX} {r d e : Nat} {b : MC} (c : Code) : compC P c ≠ .mr gl kp id m r d e b := by
 intro h
 cases c with
 | region i1 ops1 dr =>
  simp only [compC] at h
  split at h
  ·split at h
   ·split at h
    ·cases h
    ·split at h <;> cases h
   ·cases h
  ·cases h
 | cond c a1 b1 => simp only [compC] at h; split at h <;> cases h
 | rangeFunc f ps a1 b1 => simp only [compC] at h; split at h <;> cases h
 | seq a1 b1 => simp only [compC, mkSeq] at h; split at h <;> cases h
 | _ => simp [compC] at h
theorem compC_ok {P : Program} {O : Oracle} {I : Iter} {N : Nat} (hm : P.follows .mixedOrders = true) (hO : SoundO P O) (hA : AppO O) (hI : SoundI P I) : ∀ (c : Code) (mc : MC), compC P c = mc.strip → CodeOK P O I N c mc := by
 have bad : ∀ (c : Code) (mc : MC), mc.strip = .bad → CodeOK P O I N c mc := fun c mc h => by
  refine ungive (x := .bad) (fun t m => code_seal) ?_ mc h.symm
  clear h mc
  intro mc h hns
  cases mc <;> simp [MC.strip, MC.isSeal] at h hns
  intro lk st st' x he
  simp [evC] at he
 intro c
 induction hsz : SizeOf.sizeOf c using Nat.strongRecOn generalizing c with
 | _ sz IH =>
 have IHc : ∀ c', SizeOf.sizeOf c' < SizeOf.sizeOf c → ∀ mc, compC P c' = mc.strip → CodeOK P O I N c' mc := fun c' h => IH (SizeOf.sizeOf c') (by omega) c' rfl
 clear IH hsz
 cases c with
 | skip => refine ungive (fun t m => code_seal) ?_; intro mc h hns; simp only [compC] at h; cases mc <;> simp [MC.strip, MC.isSeal] at h hns; exact code_skip
 | ret => refine ungive (fun t m => code_seal) ?_; intro mc h hns; simp only [compC] at h; cases mc <;> simp [MC.strip, MC.isSeal] at h hns; exact code_ret
 | exit id => refine ungive (fun t m => code_seal) ?_; intro mc h hns; simp only [compC] at h; cases mc <;> simp [MC.strip, MC.isSeal] at h hns; subst h; exact code_exit
 | region id ops draw =>
  refine ungive (fun t m => code_seal) ?_
  intro mc h hns
  simp only [compC] at h
  split at h
  ·rename_i gl hg
   split at h
   ·rename_i hdr
    split at h
    ·rename_i hv
     cases mc <;> simp [MC.strip, MC.isSeal] at h hns
     subst h
     rw [Bool.and_eq_true] at hdr
     rw [hdr.1]
     exact code_regV hm hO hA hg hv
    ·split at h
     ·rename_i hv2
      cases mc <;> simp [MC.strip, MC.isSeal] at h hns
      subst h
      rw [Bool.and_eq_true] at hdr
      rw [hdr.1]
      exact code_regH hm hO hA hg hv2
     ·exact bad _ mc h.symm
   ·rename_i hd
    cases mc <;> simp [MC.strip, MC.isSeal] at h hns
    subst h
    refine code_reg hm hO hA hg fun e => ?_
    subst e
    simpa using hd
  ·exact bad _ mc h.symm
 | seq a b =>
  have iha := IHc a (by simp; omega)
  have ihb := IHc b (by simp <;> omega)
  refine ungive (fun t m => code_seal) ?_
  intro mc h hns
  simp only [compC] at h
  unfold mkSeq at h
  split at h
  ·rename_i gl id m r d e bd hfit
   cases mc <;> simp [MC.strip, MC.isSeal] at h hns
   rename_i ma mb
   obtain ⟨hma, hmb⟩ := h
   unfold mrFit at hfit
   split at hfit
   case h_2 => cases hfit
   rename_i i1 ops1 id' i2 ops2 e' k body _ _ x1 x2 body' hmB
   split at hfit
   case h_2 => cases hfit
   rename_i o l o1 o2 hrev hops
   split at hfit
   case h_2 => cases hfit
   rename_i ty x r' r2 d' d2 e2 hop hod hog ho1 q1 q3 ho2 q2 q4
   split at hfit
   case h_2 => cases hfit
   rename_i kt et m' gl' hty hcx hgl
   split at hfit
   case isFalse => cases hfit
   rename_i hcond
   simp only [Option.some.injEq, Prod.mk.injEq] at hfit
   obtain ⟨rfl, rfl, rfl, rfl, rfl, rfl, rfl⟩ := hfit
   obtain ⟨rfl, rfl, rfl, rfl, hrd, hre, hde⟩ := hcond
   have hl : ops1.toList = l.reverse ++ [o] := by
    have := congrArg List.reverse hrev
    simpa using this
   have hcb : compC P body = body' := by
    simp only [compC] at hmB
    have e1 : mkSeq P (.region i2 ops2 false) (.seq (.cond (.tmp e') .skip (.exit k)) body) (compC P (.region i2 ops2 false)) (mkSeq P (.cond (.tmp e') .skip (.exit k)) body (compC P (.cond (.tmp e') .skip (.exit k))) (compC P body)) = .seq (compC P (.region i2 ops2 false)) (.seq (compC P (.cond (.tmp e') .skip (.exit k))) (compC P body)) := by
     unfold mkSeq mrFit
     rfl
    simp only [compC] at e1
    rw [e1] at hmB
    simp only [MC.block.injEq, MC.loop.injEq, MC.seq.injEq] at hmB
    exact hmB.2.2.2.2
   have hbody := IHc body (by simp; omega)
   have hnorm : ∀ (mc : MC), MC.reg gl' = mc.strip → ∀ lk st x st1, evC O I N mc lk st = some (x, st1) → x = .normal := by
    intro mc
    induction mc with
    | give t b ih =>
     intro h lk st x st1 he
     simp only [evC] at he
     split at he
     ·split at he
      ·exact ih h _ _ _ _ he
      ·cases he
     ·split at he
      ·exact ih h _ _ _ _ he
      ·cases he
    | reg ops =>
     intro h lk st x st1 he
     simp only [evC, Option.map_eq_some_iff, Prod.mk.injEq] at he
     obtain ⟨_, _, rfl, _⟩ := he
     rfl
    | _ => intro h; simp [MC.strip] at h
   refine code_mr hO hl hgl (fun G hG => ungive (R := fun mc => CodeG O I N G mc) (x := .reg gl') (fun t m => code_sealG) (fun mc h hns => by cases mc <;> simp [MC.strip, MC.isSeal] at h hns; subst h; exact hG) ma hma) (hnorm ma hma) ?_
   refine ungive (x := .mr [] [] k m' r2 d2 e' body') (fun t m => code_sealG) ?_ mb hmb
   intro mc h hns
   cases mc <;> simp [MC.strip, MC.isSeal] at h hns
   obtain ⟨rfl, rfl, rfl, rfl, rfl, h⟩ := h
   exact mr_main hop hod hog hty hcx hops ho1 q1 q3 ho2 q2 q4 (hbody _ (hcb.trans h)) hrd hre hde
  ·cases mc <;> simp [MC.strip, MC.isSeal] at h hns
   ·exact code_seq (iha _ h.1) (ihb _ h.2)
   ·rename_i gl kp ke2 id m r d e bd k2 rst
    obtain ⟨hma, hmb⟩ := h
    cases a with
    | seq a1 a2 =>
     simp only [compC] at hma
     unfold mkSeq at hma
     split at hma
     ·rename_i gl1 id1 m1 r1 d1 e1 bd1 hfit
      simp only [MC.seq.injEq, MC.reg.injEq, MC.mr.injEq, true_and] at hma
      obtain ⟨rfl, rfl, rfl, rfl, rfl, rfl, hbd⟩ := hma
      subst hbd
      unfold mrFit at hfit
      split at hfit
      case h_2 => cases hfit
      rename_i i1 ops1 id' i2 ops2 e' k body _ _ x1 x2 body' hmB _
      split at hfit
      case h_2 => cases hfit
      rename_i o l o1 o2 hrev hops
      split at hfit
      case h_2 => cases hfit
      rename_i ty x r' r2 d' d2 e2 hop hod hog ho1 q1 q3 ho2 q2 q4
      split at hfit
      case h_2 => cases hfit
      rename_i kt et m' gl' hty hcx hgl
      split at hfit
      case isFalse => cases hfit
      rename_i hcond
      simp only [Option.some.injEq, Prod.mk.injEq] at hfit
      obtain ⟨rfl, rfl, rfl, rfl, rfl, rfl, hb7⟩ := hfit
      obtain ⟨rfl, rfl, rfl, rfl, hrd, hre, hde⟩ := hcond
      have hl : ops1.toList = l.reverse ++ [o] := by
       have := congrArg List.reverse hrev
       simpa using this
      have hcb : compC P body = body' := by
       simp only [compC] at hmB
       have e1 : mkSeq P (.region i2 ops2 false) (.seq (.cond (.tmp e') .skip (.exit k)) body) (compC P (.region i2 ops2 false)) (mkSeq P (.cond (.tmp e') .skip (.exit k)) body (compC P (.cond (.tmp e') .skip (.exit k))) (compC P body)) = .seq (compC P (.region i2 ops2 false)) (.seq (compC P (.cond (.tmp e') .skip (.exit k))) (compC P body)) := by
        unfold mkSeq mrFit
        rfl
       simp only [compC] at e1
       rw [e1] at hmB
       simp only [MC.block.injEq, MC.loop.injEq, MC.seq.injEq] at hmB
       exact hmB.2.2.2.2
      exact code_mrk hO hl hgl hop hod hog hty hcx hops ho1 q1 q3 ho2 q2 q4 (IHc body (by simp; omega) _ (hcb.trans hb7)) (ihb _ hmb) hrd hre hde
     ·simp only [MC.seq.injEq] at hma
      exact absurd hma.2 (compC_nmr _)
    | region i1 ops1 dr =>
     simp only [compC] at hma
     split at hma
     ·split at hma
      ·split at hma
       ·cases hma
       ·split at hma <;> cases hma
      ·cases hma
     ·cases hma
    | cond c a1 b1 => simp only [compC] at hma; split at hma <;> cases hma
    | rangeFunc f ps a1 b1 => simp only [compC] at hma; split at hma <;> cases hma
    | _ => simp [compC] at hma
 | cond c a b =>
  have iha := IHc a (by simp; omega)
  have ihb := IHc b (by simp <;> omega)
  refine ungive (fun t m => code_seal) ?_
  intro mc h hns
  simp only [compC] at h
  split at h
  ·rename_i c' hc
   cases mc <;> simp [MC.strip, MC.isSeal] at h hns
   obtain ⟨rfl, h1, h2⟩ := h
   exact code_cond hc (iha _ h1) (ihb _ h2)
  ·exact bad _ mc h.symm
 | block id b =>
  have ih := IHc b (by simp <;> omega)
  refine ungive (fun t m => code_seal) ?_; intro mc h hns; simp only [compC] at h; cases mc <;> simp [MC.strip, MC.isSeal] at h hns; obtain ⟨rfl, h⟩ := h; exact code_block (ih _ h)
 | loop b =>
  have ih := IHc b (by simp <;> omega)
  refine ungive (fun t m => code_seal) ?_; intro mc h hns; simp only [compC] at h; cases mc <;> simp [MC.strip, MC.isSeal] at h hns; exact code_loop (ih _ h)
 | rangeFunc f ps a b =>
  have iha := IHc a (by simp; omega)
  have ihb := IHc b (by simp <;> omega)
  refine ungive (fun t m => code_seal) ?_
  intro mc h hns
  simp only [compC] at h
  split at h
  ·rename_i f' hf
   cases mc <;> simp [MC.strip, MC.isSeal] at h hns
   obtain ⟨rfl, rfl, h1, h2⟩ := h
   exact code_rf hI hf (iha _ h1) (ihb _ h2)
  ·exact bad _ mc h.symm
 | _ => intro mc h; exact bad _ mc h.symm
def uniL (a b : List Nat) : List Nat := a ++ b.filter fun x => !a.contains x
def liveR : List GO → List Nat → List Nat
 | [], out => out
 | g :: gs, out =>
  let o := liveR gs out
  uniL g.looks (match g.dst with | some d => o.filter (· != d) | none => o)
def MX.slots : MX → List Nat
 | .s t => [t]
 | .c _ => []
def live : MC → List Nat → List (Nat × List Nat) → List Nat → List Nat
 | .skip, out, _, _ => out
 | .reg ops, out, _, _ => liveR ops out
 | .seq a b, out, ex, rt => live a (live b out ex rt) ex rt
 | .cond c a b, out, ex, rt => uniL c.slots (uniL (live a out ex rt) (live b out ex rt))
 | .block id b, out, ex, rt => live b out ((id, out) :: ex) rt
 | .loop _ b, _, ex, rt => live b (live b [] ex rt) ex rt
 | .give t b, out, ex, rt => uniL [t] (live b out ex rt)
 | .mr _ _ _ m r d e b, out, ex, rt => uniL m.slots ((live b (live b (uniL out (uniL rt (ex.flatMap (·.2)))) ex rt) ex rt ++ uniL out (uniL rt (ex.flatMap (·.2)))).filter fun x => x != r && x != d && x != e)
 | .rf _ f ps a b, out, _, _ => uniL f.slots (uniL ((live a (live b [] [] []) [] []).filter fun x => !ps.contains x) out)
 | .mrk .., out, _, _ => out
 | .exit id, _, ex, _ => ((ex.find? (·.1 == id)).map (·.2)).getD []
 | .ret, _, _, rt => rt
 | .bad, _, _, _ => []
def annot : MC → List Nat → List (Nat × List Nat) → List Nat → MC
 | .seq a b, out, ex, rt => .seq (annot a (live b out ex rt) ex rt) (annot b out ex rt)
 | .cond c a b, out, ex, rt => .cond c (annot a out ex rt) (annot b out ex rt)
 | .block id b, out, ex, rt => .block id (annot b out ((id, out) :: ex) rt)
 | .loop _ b, _, ex, rt => let l := live b (live b [] ex rt) ex rt; .loop l (annot b l ex rt)
 | .give t b, out, ex, rt => .give t (annot b out ex rt)
 | .mr _ _ id m r d e b, out, ex, rt =>
  let ke := (uniL out (uniL rt (ex.flatMap (·.2)))).filter fun x => x != r && x != d && x != e
  let l := (uniL ke (live b (live b ke ex rt) ex rt)).filter fun x => x != r && x != d && x != e
  .mr l ke id m r d e (annot b (uniL [r] l) ex rt)
 | .rf _ f ps a b, _, _, _ => .rf ((live a (live b [] [] []) [] []).filter fun x => !ps.contains x) f ps (annot a (live b [] [] []) [] []) (annot b [] [] [])
 | c, _, _, _ => c
inductive MRes where
 | tmp (t : Nat)
 | cell (t : Nat) (ag : Option Nat)
 | cello (t : Nat) (ag : Option Nat)
def MRes.slot : MRes → Nat
 | .tmp t => t
 | .cell t _ => t
 | .cello t _ => t
def MRes.opened : MRes → MRes
 | .cell t ag => .cello t ag
 | r => r
structure MF where
 ntmps : Nat
 res : List MRes
 body : MC
def compR (P : Program) : ResultVar → Option MRes
 | .tmp t => some (.tmp t)
 | .cell a t => (tagg P t).map (.cell a)
def openHints (f : Nat) : Bool := f == 1000000
def sealHints (f : Nat) : List (Nat × Nat) := if f = 1000000 then [(45, 7), (157, 15), (162, 17), (162, 13), (166, 19)] else if f = 1000000 then [(5, 4), (25, 6)] else if f = 1000000 then [(27, 7)] else if f = 1000000 then [(38, 5)] else if f = 1000000 then [(25, 8)] else if f = 1000000 then [(24, 6)] else if f = 19 then [(16, 7), (48, 7)] else if f = 1000000 then [(253, 19)] else if f = 1000000 then [(84, 11)] else if f = 1000000 then [(143, 5)] else if f = 7 then [(32, 6)] else if f = 3 then [(9, 5), (9, 6)] else []
def insSeal (hs : List (Nat × Nat)) : MC → MC
 | .reg (⟨g, some d, op⟩ :: os) => (hs.filter (·.1 == d)).foldr (fun p c => .give p.2 c) (.reg (⟨g, some d, op⟩ :: os))
 | .seq a b => .seq (insSeal hs a) (insSeal hs b)
 | .cond c a b => .cond c (insSeal hs a) (insSeal hs b)
 | .block id b => .block id (insSeal hs b)
 | .loop keep b => .loop keep (insSeal hs b)
 | .rf keep f ps a b => .rf keep f ps a (insSeal hs b)
 | c => c
theorem strip_insSeal (hs : List (Nat × Nat)) (c : MC) : (insSeal hs c).strip = c.strip := by
 induction c with
 | reg os =>
  match os with
  | [] => rfl
  | ⟨g, none, op⟩ :: os => rfl
  | ⟨g, some d, op⟩ :: os =>
   simp only [insSeal]
   generalize hs.filter (·.1 == d) = l
   induction l with
   | nil => rfl
   | cons p l ih => exact ih
 | seq a b iha ihb => simp [insSeal, MC.strip, iha, ihb]
 | cond c a b iha ihb => simp [insSeal, MC.strip, iha, ihb]
 | block id b ih => simp [insSeal, MC.strip, ih]
 | loop k b ih => simp [insSeal, MC.strip, ih]
 | rf k f ps a b iha ihb => simp [insSeal, MC.strip, ihb]
 | _ => simp [insSeal]
def mkOrd (k2 : List Nat) : MC → MC
 | .seq (.seq (.reg gl) (.mr keep ke id m r d e b)) c => .mrk gl keep ke id m r d e b k2 c
 | .seq a b => .seq (mkOrd k2 a) (mkOrd k2 b)
 | .cond c a b => .cond c (mkOrd k2 a) (mkOrd k2 b)
 | .block id b => .block id (mkOrd k2 b)
 | c => c
theorem strip_mkOrd (k2 : List Nat) (c : MC) : (mkOrd k2 c).strip = c.strip := by
 fun_induction mkOrd k2 c <;> simp_all [MC.strip]
def ordHints (f : Nat) : Bool := f == 7
def compF (P : Program) (f : Nat) : Option MF := do
 let fn ← P.funcs[f]?
 let b ← fn.body
 let rs ← fn.results.toList.mapM (compR P)
 let mc := annot (compC P b) [] [] (rs.map MRes.slot)
 some ⟨fn.ntmps, if openHints f then rs.map MRes.opened else rs, if ordHints f then mkOrd (rs.map MRes.slot) (insSeal (sealHints f) mc) else if (sealHints f).isEmpty then mc else insSeal (sealHints f) mc⟩
def IsF (P : Program) (f : Nat) (m : MF) : Prop := ∃ fn b, P.funcs[f]? = some fn ∧ fn.body = some b ∧ fn.ntmps = m.ntmps ∧ (∃ rs, fn.results.toList.mapM (compR P) = some rs ∧ (m.res = rs ∨ m.res = rs.map MRes.opened)) ∧ compC P b = m.body.strip
theorem strip_annot (c : MC) : ∀ out ex rt, (annot c out ex rt).strip = c.strip := by
 induction c <;> intro out ex rt <;> simp_all [annot, MC.strip]
theorem mrFit_body {P : Program} {a b : Code} {mb : MC} {gl : List GO} {id : Nat} {m : MX} {r d e : Nat} {body : MC} (h : mrFit P a b mb = some (gl, id, m, r, d, e, body)) : ∃ i k x y, mb = .block i (.loop k (.seq x (.seq y body))) := by
 unfold mrFit at h
 split at h
 case h_2 => cases h
 split at h
 case h_2 => cases h
 split at h
 case h_2 => cases h
 split at h
 case h_2 => cases h
 split at h
 case isFalse => cases h
 simp only [Option.some.injEq, Prod.mk.injEq] at h
 obtain ⟨rfl, rfl, rfl, rfl, rfl, rfl, rfl⟩ := h
 exact ⟨_, _, _, _, rfl⟩
theorem strip_mkSeq {P : Program} {a b : Code} {ma mb : MC} (ha : ma.strip = ma) (hb : mb.strip = mb) : (mkSeq P a b ma mb).strip = mkSeq P a b ma mb := by
 unfold mkSeq
 split
 ·rename_i hf
  obtain ⟨i, k, x, y, rfl⟩ := mrFit_body hf
  simp only [MC.strip, MC.block.injEq, MC.loop.injEq, MC.seq.injEq] at hb
  simp only [MC.strip, hb.2.2.2.2]
 ·simp only [MC.strip, ha, hb]
theorem strip_compC (P : Program) (c : Code) : (compC P c).strip = compC P c := by
 induction c with
 | region id ops draw =>
  simp only [compC]
  split
  ·split
   ·split
    ·rfl
    ·split <;> rfl
   ·rfl
  ·rfl
 | cond c a b iha ihb =>
  simp only [compC]
  split
  ·simp [MC.strip, iha, ihb]
  ·rfl
 | rangeFunc f ps a b iha ihb =>
  simp only [compC]
  split
  ·simp [MC.strip, iha, ihb]
  ·rfl
 | seq a b iha ihb => simp only [compC]; exact strip_mkSeq iha ihb
 | block id b ih => simp [compC, MC.strip, ih]
 | loop b ih => simp [compC, MC.strip, ih]
 | _ => rfl
theorem compF_isF {P : Program} {f : Nat} {m : MF} (h : compF P f = some m) : IsF P f m := by
 unfold compF at h
 simp only [Option.bind_eq_bind, Option.bind_eq_some_iff, Option.some.injEq] at h
 obtain ⟨fn, h1, b, h2, rs, h3, rfl⟩ := h
 refine ⟨fn, b, h1, h2, rfl, ⟨rs, h3, ?_⟩, ?_⟩
 ·dsimp only
  split
  ·exact .inr rfl
  ·exact .inl rfl
 dsimp only
 split
 ·rw [strip_mkOrd, strip_insSeal, strip_annot, strip_compC]
 split
 ·rw [strip_annot, strip_compC]
 ·rw [strip_insSeal, strip_annot, strip_compC]
def impIds (n : Nat) : List MV → List Nat
 | [] => []
 | .arr id _ _ _ :: vs => if n ≤ id then id :: impIds n vs else impIds n vs
 | _ :: vs => impIds n vs
def expL (n : Nat) (imp : List Nat) (h : MHeap) : List MV → Nat → Option (List MV × MHeap)
 | [], _ => some ([], [])
 | v :: vs, p => match v with
  | .arr id i k g => if n ≤ id then match h[id]? with
    | some o => if o.g = g ∧ i + k ≤ o.es.length then
      match (if ltL n o.es then some ((o.es.drop i).take k) else ((o.es.drop i).take k).mapM (frz n imp h 8)) with
      | some es => match expL n imp h vs (p + 1) with
       | some (vs', news) => some (.arr p 0 k 0 :: vs', ⟨0, o.nl, o.sz, es⟩ :: news)
       | none => none
      | none => none
     else none
    | none => none
   else match expL n imp h vs p with
    | some (vs', news) => some (v :: vs', news)
    | none => none
  | _ => match frz n imp h 8 v with
   | some v' => match expL n imp h vs p with
    | some (vs', news) => some (v' :: vs', news)
    | none => none
   | none => none
def resM (s : List MV) (h : MHeap) : MRes → Option MV
 | .tmp t => some (s.getD t (.lit undef))
 | .cell t ag => match s.getD t (.lit undef) with
  | .ptr id i off g => match h[id]? with
   | some o => if o.g = g then match o.es[i]? with
     | some e => rdCells e.cells off ag
     | none => none
    else none
   | none => none
  | _ => none
 | .cello t ag => match s.getD t (.lit undef) with
  | .ptr id i off g => match h[id]? with
   | some o => if o.g = g then match o.es[i]? with
     | some e => rdCells e.cells off ag
     | none => none
    else none
   | none => none
  | _ => none
theorem resM_opened (s : List MV) (h : MHeap) (r : MRes) : resM s h r.opened = resM s h r := by cases r <;> rfl
def opn : List MRes → List MV → List MV
 | [.cello _ _], [.agg cs] => cs
 | _, vs => vs
def oneOf : List MV → MV
 | [v] => v
 | vs => .tup vs
def clo : List MRes → List MV → List MV → MV
 | [.cello _ _], [.agg _], vs' => .agg vs'
 | _, _, vs' => oneOf vs'
theorem opn_cases (rs : List MRes) (vs : List MV) : (∃ cs, vs = [.agg cs] ∧ opn rs vs = cs ∧ ∀ vs', clo rs vs vs' = .agg vs') ∨ (opn rs vs = vs ∧ ∀ vs', clo rs vs vs' = oneOf vs') := by
 unfold opn clo
 split
 ·exact .inl ⟨_, rfl, rfl, fun _ => rfl⟩
 ·rename_i hne
  refine .inr ⟨rfl, fun vs' => ?_⟩
  split
  ·exact (hne _ _ _ rfl rfl).elim
  ·rfl
noncomputable def runF (O : Oracle) (I : Iter) (N : Nat) (m : MF) (args : List MV) (h : MHeap) : Option (MV × MHeap) :=
 match evC O I N m.body (fun id => decide (id < h.length)) ⟨args ++ List.replicate (m.ntmps - args.length) (.lit undef), h⟩ with
  | some (x, st) => if x = .ret ∨ x = .normal then match m.res.mapM (resM st.s st.h) with
    | some vs => if (impIds h.length (opn m.res vs)).Nodup then match expL h.length (impIds h.length (opn m.res vs)) st.h (opn m.res vs) h.length with
      | some (vs', news) => some (clo m.res vs vs', h ++ news)
      | none => none
     else none
    | none => none
   else none
  | none => none
end Go.Proofs.YtnmgpbihknjdjaaDoor
namespace Go.Proofs.YtnmgpbihknjdjaaDoor
open Go.RowKit
def Env.shut (E : Env) (n : Nat) (imp : List Nat) : Env :=
 { E with K := fun id => E.K id ∧ id < n, S := fun b => E.S b ∨ ∃ id, E.K id ∧ n ≤ id ∧ id ∉ imp ∧ 0 < E.cp id ∧ E.ρ id = b }
theorem V.shut {E : Env} {w : World} {m : MV} {v : Value} {n : Nat} (imp : List Nat) (hv : V E w m v) (hl : m.lt n = true) : V (E.shut n imp) w m v :=
 V.env (E := E.res n) (E2 := E.shut n imp) ⟨fun b h => (Or.inl h : E.S b ∨ _), fun _ h => ⟨h, rfl, rfl, rfl, rfl, rfl, rfl, rfl⟩, rfl⟩ (hv.res hl)
section
variable {E Es : Env} {W : World} {h : MHeap} {n : Nat} {imp : List Nat}
theorem frz_flat {f : Nat} (ih : ∀ f', f' ≤ f → ∀ m m' v, V E W m v → frz n imp h f' m = some m' → V (E.shut n imp) W m' v) {es es' : List MV} {vs : List Value} (hm : es.mapM (frz n imp h f) = some es') {sz : Nat} (hsz : ∀ e ∈ es, e.cells.length = sz) (hv : Vs E W (flat es) vs) :
  es'.length = es.length ∧ (∀ e ∈ es', e.cells.length = sz) ∧ Vs (E.shut n imp) W (flat es') vs := frz_flatG ih hm hsz hv
theorem frz_ok (hr : HRel E h W) : ∀ f m m' v, V E W m v → frz n imp h f m = some m' → V (E.shut n imp) W m' v :=
 frz_okG hr (fun _ _ hv hl => hv.shut imp hl) (fun _ hb => Or.inl hb) fun id hk hge hi hc => Or.inr ⟨id, hk, hge, hi, hc, rfl⟩
end
end Go.Proofs.YtnmgpbihknjdjaaDoor
namespace Go.Proofs.YtnmgpbihknjdjaaDoor
open Go.RowKit
theorem EnvLe.refl (E : Env) : EnvLe E E := ⟨fun _ h => h, fun _ h => ⟨h, rfl, rfl, rfl, rfl, rfl, rfl, rfl⟩, rfl⟩
theorem EnvLe.trans {A B C : Env} (h : EnvLe A B) (k : EnvLe B C) : EnvLe A C := by
 refine ⟨fun b hb => k.1 b (h.1 b hb), fun id hid => ?_, k.2.2.trans h.2.2⟩
 obtain ⟨a1, a2, a3, a4, a5, a6, a7, a8⟩ := h.2.1 id hid
 obtain ⟨b1, b2, b3, b4, b5, b6, b7, b8⟩ := k.2.1 id a1
 exact ⟨b1, b2.trans a2, b3.trans a3, b4.trans a4, b5.trans a5, b6.trans a6, b7.trans a7, b8.trans a8⟩
theorem Vs.env {E E2 : Env} {w : World} (he : EnvLe E E2) {ms : List MV} {vs : List Value} (h : Vs E w ms vs) : Vs E2 w ms vs := ⟨h.1, fun i c x hc hx => (h.2 i c x hc hx).env he⟩
section
variable {E0 E : Env} {h0 h : MHeap} {w W : World}
theorem Ext.shut (hr0 : HRel E0 h0 w) (hx : Ext (fun id => decide (id < h0.length)) E0 w E W) (imp : List Nat) : Ext (fun _ => true) E0 w (E.shut h0.length imp) W where
 os := hx.os
 tape := hx.tape
 output := hx.output
 size := hx.size
 keep := fun k hk _ => hx.keep k hk fun id hd hl _ => by simp [hr0.klt id hd] at hl
 S := fun b hb => Or.inl (hx.S b hb)
 K := fun id hk => ⟨hx.K id hk, hr0.klt id hk⟩
 old := fun id hk => hx.old id hk
 lock := fun id hk _ => hx.lock id hk (by simp [hr0.klt id hk])
 src := fun id hk hc => hx.src id hk.1 hc
 top := hx.top
 srcK := fun id hk => hx.srcK id hk.1
 yl := hx.yl
 srcS := fun b hb => by
  rcases hb with hb | ⟨id, h1, h2, h3, h4, rfl⟩
  ·exact hx.srcS b hb
  ·rcases hx.src id h1 h4 with ⟨a1, a2, a3⟩ | a
   ·exact .inr (.inl ⟨id, a1, a2, a3.symm⟩)
   ·exact .inr (.inr a)
theorem HRel.shut (hr0 : HRel E0 h0 w) (ht : E0.top = h0.length) (hr : HRel E h W) (hx : Ext (fun id => decide (id < h0.length)) E0 w E W) (imp : List Nat) : HRel (E.shut h0.length imp) h0 W where
 klt := fun id hk => hk.2
 top := by show E.top ≤ _; rw [hx.top]; exact hr0.top
 obj := fun id hk => by
  have hk0 : E0.K id := (hx.srcK id hk.1).resolve_right (by have := hk.2; omega)
  obtain ⟨es, a1, a2, a3, a4, a5⟩ := hr0.obj id hk0
  obtain ⟨-, e⟩ := hx.old id hk0
  have eg : E.gn id = E0.gn id := hx.lock id hk0 (by simp [hk.2])
  obtain ⟨c1, c2, c3, c4, c5, c6⟩ := e eg
  refine ⟨es, by simp only [Env.shut]; rw [eg, c4, c6, a1], by simp only [Env.shut]; rw [c5, a2], by simp only [Env.shut]; rw [c4]; exact a3, by simp only [Env.shut]; rw [c2, c3]; exact a4, fun hc => ?_⟩
  simp only [Env.shut] at hc ⊢
  rw [c3] at hc
  obtain ⟨arr, t, b1, b2, b3⟩ := a5 hc
  refine ⟨arr, t, ?_, by rw [c3, c4]; exact b2, fun k c hkc => ?_⟩
  ·rw [c1, c6, hx.keep _ (hr0.lt hk0 hc) fun id hd hl _ => by simp [hr0.klt id hd] at hl]
   exact b1
  ·obtain ⟨v, d1, d2⟩ := b3 k c hkc
   exact ⟨v, by rw [c2, c4]; exact d1, d2.ext hr0 (hx.shut hr0 imp)⟩
 inj := fun i j hi hj => hr.inj i j hi.1 hj.1
 sep := fun id hk hc hS => by
  rcases hS with hS | ⟨j, h1, h2, h3, h4, h5⟩
  ·exact hr.sep id hk.1 hc hS
  ·have := hr.inj j id h1 hk.1 h4 hc h5
   have := hk.2
   omega
 slt := fun b hb => by
  rcases hb with hb | ⟨j, h1, h2, h3, h4, h5⟩
  ·exact hr.slt b hb
  ·exact h5 ▸ hr.lt h1 h4
 tab := fun p hp => (hr0.tab p hp).ext hr0 (hx.shut hr0 imp)
structure Inv (E : Env) (n : Nat) (imp : List Nat) (W : World) (Ec : Env) (Hc : MHeap) (done : List Nat) : Prop where
 hr : HRel Ec Hc W
 le : EnvLe (E.shut n imp) Ec
 S : ∀ b, Ec.S b → (E.shut n imp).S b
 src : ∀ id, Ec.K id → 0 < Ec.cp id → (E.K id ∧ id < n ∧ Ec.ρ id = E.ρ id ∧ Ec.cp id = E.cp id) ∨ ∃ j, j ∈ done ∧ E.K j ∧ n ≤ j ∧ 0 < E.cp j ∧ Ec.ρ id = E.ρ j
 sub : ∀ j, j ∈ done → j ∈ imp
 top : Ec.top = E.top
 len : n ≤ Hc.length
 srcK : ∀ id, Ec.K id → (E.K id ∧ id < n) ∨ n ≤ id
theorem Inv.add {n : Nat} {imp done : List Nat} {Ec : Env} {Hc : MHeap} (hr : HRel E h W) (hI : Inv E n imp W Ec Hc done) {id i k g : Nat} {o : MObj} (hk : E.K id) (hge : n ≤ id) (himp : id ∈ imp) (hnd : id ∉ done) (ho : h[id]? = some o) (hg : o.g = g)
  (hle : i + k ≤ o.es.length) {es : List MV} (hl : es.length = k) (hsz : ∀ e ∈ es, e.cells.length = o.sz)
  (hv : 0 < k → ∃ vs, Vs (E.shut n imp) W (flat es) vs ∧ ∀ (j : Nat) v, vs[j]? = some v → W.cell? ⟨E.ρ id, (E.bo id + i) * E.sz id + j, none⟩ = some v) :
  Inv E n imp W (Ec.put Hc.length (E.ρ id) (E.bo id + i) (E.cp id) (E.sz id) 0 k (E.nl id)) (Hc ++ [⟨0, o.nl, o.sz, es⟩]) (done ++ [id]) ∧ EnvLe Ec (Ec.put Hc.length (E.ρ id) (E.bo id + i) (E.cp id) (E.sz id) 0 k (E.nl id)) := by
 have hne : ∀ j, Ec.K j → j ≠ Hc.length := fun j hj e => by have := hI.hr.klt j hj; omega
 have hle' : EnvLe Ec (Ec.put Hc.length (E.ρ id) (E.bo id + i) (E.cp id) (E.sz id) 0 k (E.nl id)) := ⟨fun _ h => h, fun j hj => by simp [Env.put, hne j hj, hj], rfl⟩
 obtain ⟨es0, a1, a2, a3, a4, a5⟩ := hr.obj id hk
 rw [ho] at a1
 simp only [Option.some.injEq] at a1
 subst a1
 dsimp only at hg hle hsz ⊢
 have blk : ∀ j, Ec.K j → 0 < Ec.cp j → 0 < E.cp id → Ec.ρ j ≠ E.ρ id := fun j hj hc hci e => by
  rcases hI.src j hj hc with ⟨b1, b2, b3, b4⟩ | ⟨j', b1, b2, b3, b4, b5⟩
  ·have := hr.inj j id b1 hk (b4 ▸ hc) hci (b3.symm.trans e); omega
  ·exact hnd (hr.inj j' id b2 hk b4 hci (b5.symm.trans e) ▸ b1)
 refine ⟨⟨⟨fun j hj => ?_, by have := hI.hr.top; simp [Env.put]; omega, fun j hj => ?_, fun j j' hj hj' hc hc' e => ?_, fun j hj hc hS => ?_, fun b hb => hI.hr.slt b hb, fun p hp => (hI.hr.tab p hp).env hle'⟩, hI.le.trans hle', fun b hb => hI.S b hb, fun j hj hc => ?_, fun j hj => ?_, hI.top, by have := hI.len; simp; omega, fun j hj => ?_⟩, hle'⟩
 ·rcases hj with hj | rfl
  ·have := hI.hr.klt j hj; simp; omega
  ·simp
 ·by_cases e : j = Hc.length
  ·subst e
   refine ⟨es, by simp [Env.put], by simp [Env.put, hl], by simpa [Env.put] using hsz, by simp [Env.put]; omega, fun hc => ?_⟩
   simp only [Env.put, if_true] at hc ⊢
   obtain ⟨arr, t, b1, b2, b3⟩ := a5 hc
   refine ⟨arr, t, b1, b2, fun q c hq => ?_⟩
   have h0 : 0 < k := by
    cases es with
    | nil => simp [flat] at hq
    | cons => simp at hl; omega
   obtain ⟨vs, d1, d2⟩ := hv h0
   have hql := (List.getElem?_eq_some_iff.1 hq).1
   have hvq : vs[q]? = some (vs[q]'(d1.1 ▸ hql)) := by simp
   have hcell := d2 q _ hvq
   have b1 : W.heap[E.ρ id]? = some (.cells arr t (0, 0)) := by
    cases hnl : E.nl id
    ·rw [hnl] at b1; exact b1
    ·rw [hnl] at b1
     obtain ⟨_, _, _, e1, _⟩ := b1
     simp [World.cell?, e1] at hcell
   simp only [World.cell?, b1] at hcell
   exact ⟨_, hcell, ((d1.2 q c _ hq hvq).env hI.le).env hle'⟩
  ·have hj' : Ec.K j := hj.resolve_right e
   obtain ⟨es1, b1, b2, b3, b4, b5⟩ := hI.hr.obj j hj'
   refine ⟨es1, by simp only [Env.put, e, if_false]; rw [List.getElem?_append_left (hI.hr.klt j hj'), b1], by simp [Env.put, e, b2], by simpa [Env.put, e] using b3, by simpa [Env.put, e] using b4, fun hc => ?_⟩
   simp only [Env.put, e, if_false] at hc
   obtain ⟨arr, t, d1, d2, d3⟩ := b5 hc
   refine ⟨arr, t, by simpa [Env.put, e] using d1, by simpa [Env.put, e] using d2, fun q c hq => ?_⟩
   obtain ⟨v, e1, e2⟩ := d3 q c hq
   exact ⟨v, by simpa [Env.put, e] using e1, e2.env hle'⟩
 ·by_cases e1 : j = Hc.length <;> by_cases e2 : j' = Hc.length
  ·rw [e1, e2]
  ·subst e1
   simp only [Env.put, e2, if_true, if_false, or_false] at hj hj' hc hc' e
   exact absurd e.symm (blk j' hj' hc' hc)
  ·subst e2
   simp only [Env.put, e1, if_true, if_false, or_false] at hj hj' hc hc' e
   exact absurd e (blk j hj hc hc')
  ·simp only [Env.put, e1, e2, if_false, or_false] at hj hj' hc hc' e
   exact hI.hr.inj j j' hj hj' hc hc' e
 ·by_cases e : j = Hc.length
  ·subst e
   simp only [Env.put, if_true] at hc hS
   rcases hI.S _ hS with hS | ⟨j', b1, b2, b3, b4, b5⟩
   ·exact hr.sep id hk hc hS
   ·exact b3 (hr.inj j' id b1 hk b4 hc b5 ▸ himp)
  ·simp only [Env.put, e, or_false, if_false] at hj hc hS
   exact hI.hr.sep j hj hc hS
 ·by_cases e : j = Hc.length
  ·subst e
   simp only [Env.put, if_true] at hc ⊢
   exact .inr ⟨id, by simp, hk, hge, hc, rfl⟩
  ·simp only [Env.put, e, or_false, if_false] at hj hc ⊢
   rcases hI.src j hj hc with b | ⟨j', b1, b2⟩
   ·exact .inl b
   ·exact .inr ⟨j', by simp [b1], b2⟩
 ·rcases List.mem_append.1 hj with hj | hj
  ·exact hI.sub j hj
  ·simp at hj; subst hj; exact himp
 ·rcases hj with hj | rfl
  ·exact hI.srcK j hj
  ·exact .inr hI.len
theorem expL_ok {n : Nat} {imp : List Nat} (hr : HRel E h W) : ∀ {vs : List MV} {xs : List Value} {Ec : Env} {Hc : MHeap} {done : List Nat} {vs' : List MV} {news : MHeap}, Vs E W vs xs → Inv E n imp W Ec Hc done → expL n imp h vs Hc.length = some (vs', news) →
  (∀ j ∈ impIds n vs, j ∈ imp) → (done ++ impIds n vs).Nodup → ∃ E2 done', Inv E n imp W E2 (Hc ++ news) done' ∧ EnvLe Ec E2 ∧ Vs E2 W vs' xs := by
 intro vs
 induction vs with
 | nil =>
  intro xs Ec Hc done vs' news hv hI he _ _
  simp only [expL, Option.some.injEq, Prod.mk.injEq] at he
  obtain ⟨rfl, rfl⟩ := he
  have : xs = [] := by have := hv.1; simpa using this.symm
  subst this
  exact ⟨Ec, done, by simpa using hI, EnvLe.refl _, rfl, fun i c v hc => by simp at hc⟩
 | cons m vs ih =>
  intro xs Ec Hc done vs' news hv hI he hsub hnd
  obtain ⟨x, ys, rfl, hm, htl⟩ := hv.uncons
  have plain : ∀ {m' : MV}, V (E.shut n imp) W m' x → impIds n (m :: vs) = impIds n vs → ∀ {vs1 : List MV}, expL n imp h vs Hc.length = some (vs1, news) → vs' = m' :: vs1 → ∃ E2 done', Inv E n imp W E2 (Hc ++ news) done' ∧ EnvLe Ec E2 ∧ Vs E2 W vs' (x :: ys) := by
   intro m' hm' himp vs1 h1 e
   rw [himp] at hsub hnd
   obtain ⟨E2, done', k1, k2, k3⟩ := ih htl hI h1 hsub hnd
   exact ⟨E2, done', k1, k2, e ▸ Vs.cons ((hm'.env hI.le).env k2) k3⟩
  simp only [expL] at he
  split at he
  ·rename_i id i k g
   split at he
   ·rename_i hge
    split at he
    case h_2 => cases he
    rename_i o ho
    split at he
    case isFalse => cases he
    rename_i hog
    split at he
    case h_2 => cases he
    rename_i es hes
    split at he
    case h_2 => cases he
    rename_i vs1 news1 h1
    simp only [Option.some.injEq, Prod.mk.injEq] at he
    obtain ⟨rfl, rfl⟩ := he
    have himpid : impIds n (.arr id i k g :: vs) = id :: impIds n vs := by simp [impIds, hge]
    rw [himpid] at hsub hnd
    have hm0 := hm
    have hel : MV.elems h (.arr id i k g) = some ((o.es.drop i).take k) := by simp [MV.elems, ho, hog]
    have hlen : ((o.es.drop i).take k).length = k := by simp; omega
    cases hm with
    | arr _ _ _ _ A cap hk hg hd =>
     obtain ⟨es0, a1, a2, a3, a4, a5⟩ := hr.obj id hk
     rw [ho] at a1
     simp only [Option.some.injEq] at a1
     subst a1
     dsimp only at hog hel hlen hes ⊢
     obtain ⟨d1, d2, d3, d4, d5⟩ := hd hog.1
     have hsz0 : ∀ e ∈ (es0.drop i).take k, e.cells.length = E.sz id := fun e he => a3 e (List.mem_of_mem_drop (List.mem_of_mem_take he))
     obtain ⟨A', cap', us, e1, e2, e3⟩ := hm0.elems hr hel hsz0
     simp only [Value.slice.injEq] at e1
     obtain ⟨rfl, -, rfl⟩ := e1
     have hes' : es.length = k ∧ (∀ e ∈ es, e.cells.length = E.sz id) ∧ Vs (E.shut n imp) W (flat es) us := by
      split at hes
      ·rename_i hlt
       cases hes
       have hls : ltL n ((es0.drop i).take k) = true := by
        have : ∀ l : List MV, (∀ x ∈ l, x.lt n = true) → ltL n l = true := fun l => by
         induction l with
         | nil => simp [ltL]
         | cons x l ihl => intro hx; simp only [ltL, Bool.and_eq_true]; exact ⟨hx x (by simp), ihl fun y hy => hx y (by simp [hy])⟩
        refine this _ fun x hx => ?_
        obtain ⟨j, hj⟩ := List.getElem?_of_mem (List.mem_of_mem_drop (List.mem_of_mem_take hx))
        exact ltL_at hlt j x hj
       exact ⟨hlen, hsz0, e2.1, fun j c v hc hv => (e2.2 j c v hc hv).shut imp (lt_flat hls j c hc)⟩
      ·have := frz_flat (fun f' hf' => frz_ok hr f') hes hsz0 e2
       exact ⟨this.1.trans hlen, this.2⟩
     obtain ⟨f1, f2, f3⟩ := hes'
     have hdone : id ∉ done := fun hin => by
      have := (List.nodup_append.1 hnd).2.2 id hin id (by simp)
      exact this rfl
     obtain ⟨hI', hle'⟩ := hI.add hr hk hge (hsub id (by simp)) hdone ho hog.1 hog.2 f1 f2 fun h0 => ⟨us, f3, fun j v hj => by
      obtain ⟨b, off, q1, q2⟩ := e3 (by omega)
      obtain ⟨q3, -⟩ := d5 (by omega)
      rw [q1] at q3
      simp only [Option.some.injEq, Addr.mk.injEq, and_true] at q3
      obtain ⟨rfl, rfl⟩ := q3
      exact q2 j v hj⟩
     have hl1 : (Hc ++ [(⟨0, E.nl id, E.sz id, es⟩ : MObj)]).length = Hc.length + 1 := by simp
     rw [← hl1] at h1
     obtain ⟨E2, done', k1, k2, k3⟩ := ih htl hI' h1 (fun j hj => hsub j (by simp [hj])) (by simpa using hnd)
     refine ⟨E2, done', by simpa using k1, hle'.trans k2, Vs.cons ?_ k3⟩
     refine V.env k2 (.arr _ _ _ _ A cap (.inr rfl) (by simp [Env.put]) fun _ => ?_)
     simp only [Env.put, if_true]
     refine ⟨by omega, d2, d3, d4, fun hc => ?_⟩
     obtain ⟨q1, q2⟩ := d5 hc
     exact ⟨by simpa using q1, by omega⟩
   ·rename_i hlt
    split at he
    case h_2 => cases he
    rename_i vs1 news1 h1
    simp only [Option.some.injEq, Prod.mk.injEq] at he
    obtain ⟨rfl, rfl⟩ := he
    exact plain (hm.shut imp (by simp [MV.lt]; omega)) (by simp [impIds, hlt]) h1 rfl
  ·rename_i hna
   split at he
   case h_2 => cases he
   rename_i m' hfr
   split at he
   case h_2 => cases he
   rename_i vs1 news1 h1
   simp only [Option.some.injEq, Prod.mk.injEq] at he
   obtain ⟨rfl, rfl⟩ := he
   refine plain (frz_ok hr 8 m m' x hm hfr) ?_ h1 rfl
   cases m <;> first | rfl | exact absurd rfl (hna _ _ _ _)
end
section
variable {P : Program} {E : Env} {w : World}
theorem run_loadVar_n {t : TypeId} {ag : Option Nat} (ht : tagg P t = some ag) {ms : List MV} {vs : List Value} (hv : Vs E w ms vs) {b o : Nat}
  {off : Nat} {m : MV} (hm : rdCells ms off ag = some m) : ∃ v, (∀ W : World, (∀ (i : Nat) v, vs[i]? = some v → W.cell? ⟨b, o + i, none⟩ = some v) → (loadVar t ⟨b, o + off, none⟩).run P W = .ok v W) ∧ V E w m v := by
 cases ag with
 | none =>
  obtain ⟨d, h1, h2⟩ := tagg_none ht
  simp only [rdCells] at hm
  have hlt := (List.getElem?_eq_some_iff.1 hm).1
  rw [hv.1] at hlt
  have hx : vs[off]? = some vs[off] := by simp
  refine ⟨vs[off], fun W hc => ?_, hv.2 off m _ hm hx⟩
  simp [loadVar, run_isAgg h1 h2, hc off _ hx]
 | some n =>
  obtain ⟨⟨d, h1, h2⟩, i, hi, hn⟩ := tagg_some ht
  simp only [rdCells] at hm
  split at hm
  ·rename_i hle
   cases hm
   have hle' : off + n ≤ vs.length := hv.1 ▸ hle
   have hcs : ((vs.drop off).take n).length = n := by simp; omega
   refine ⟨.agg ((vs.drop off).take n).toArray, fun W hc => ?_, .agg _ _ (by simp; omega) fun j c v hj hv' => ?_⟩
   ·have hrun := run_loadCells_list (P := P) W ⟨b, o + off, none⟩ ((vs.drop off).take n) (fun j v hj => by
     rw [Addr.add_none, Nat.add_assoc]
     refine hc (off + j) v ?_
     rw [List.getElem?_take] at hj
     split at hj
     ·rwa [List.getElem?_drop] at hj
     ·cases hj)
    rw [hcs] at hrun
    simp [loadVar, run_isAgg h1 h2, sizeOf, typeInfo, hi, hn, hrun]
   ·rw [List.getElem?_take] at hj hv'
    split at hj
    ·rename_i hlt
     rw [if_pos hlt] at hv'
     rw [List.getElem?_drop] at hj hv'
     exact hv.2 _ c v hj hv'
    ·cases hj
  ·cases hm
theorem Slots.getD {s : List MV} {a : Act} (hs : Slots E w s a) (t : Nat) : V E w (s.getD t (.lit undef)) (a.tmps.getD t undef) := by
 by_cases h : t < s.length
 ·have h' : t < a.tmps.size := hs.1 ▸ h
  exact hs.2 t _ _ (by simp [h]) (by simp [h'])
 ·have h' : ¬ t < a.tmps.size := hs.1 ▸ h
  simp [h, h']
  exact .lit _
def resS (a : Act) : ResultVar → Sem Value
 | .tmp t => pure (a.tmps.getD t undef)
 | .cell c t => do loadVar t (← asAddr (a.tmps.getD c undef))
theorem resM_ok {h : MHeap} {s : List MV} {a : Act} (hs : Slots E w s a) (hr : HRel E h w) {r : ResultVar} {mr : MRes} {m : MV} (hc : compR P r = some mr) (he : resM s h mr = some m) :
  ∃ v, V E w m v ∧ ∀ B W, CKd B w W → (resS a r).run P W = .ok v W := by
 cases r with
 | tmp t =>
  simp only [compR, Option.some.injEq] at hc
  subst hc
  simp only [resM, Option.some.injEq] at he
  subst he
  exact ⟨_, hs.getD t, fun _ _ _ => rfl⟩
 | cell a' t =>
  simp only [compR, Option.map_eq_some_iff] at hc
  obtain ⟨ag, ht, rfl⟩ := hc
  have hv := hs.getD a'
  simp only [resM] at he
  split at he
  case h_2 => cases he
  rename_i id i off g hp
  split at he
  case h_2 => cases he
  rename_i ob hob
  split at he
  case isFalse => cases he
  rename_i hog
  split at he
  case h_2 => cases he
  rename_i e hel
  rw [hp] at hv
  generalize hy : a.tmps.getD a' undef = y at hv
  cases hv with
  | ptr _ _ _ _ b o hk hg hd =>
   obtain ⟨rfl, rfl, _, hnl⟩ := hd (hr.gnOf hk hob hog).1
   obtain ⟨c1, c2, c3, c4, c5, vs, c6, c7⟩ := hr.elem hk hnl hob hog hel
   obtain ⟨v, k1, k2⟩ := run_loadVar_n ht c6 (b := E.ρ id) (o := (E.bo id + i) * E.sz id) he
   refine ⟨v, k2, fun B W hck => ?_⟩
   have := k1 W fun i v hi => hck.cell (c7 i v hi)
   show (do loadVar t (← asAddr (a.tmps.getD a' undef)) : Sem Value).run P W = _
   rw [hy]
   simpa [asAddr] using this
end
theorem run_mapM_ok {P : Program} {W : World} {α : Type} {f : α → Sem Value} : ∀ {l : List α} {vs : List Value}, l.length = vs.length → (∀ (i : Nat) x v, l[i]? = some x → vs[i]? = some v → (f x).run P W = .ok v W) → (l.mapM f).run P W = .ok vs W
 | [], vs, hl, _ => by
  have : vs = [] := by simpa using hl.symm
  subst this
  simp
 | x :: l, [], hl, _ => by simp at hl
 | x :: l, v :: vs, hl, h => by
  have h1 := h 0 x v rfl rfl
  have h2 := run_mapM_ok (f := f) (l := l) (vs := vs) (by simpa using hl) fun i x v hx hv => h (i + 1) x v hx hv
  simp [List.mapM_cons, h1, h2]
theorem runF_ok {P : Program} {O : Oracle} {I : Iter} {N : Nat} {f : Nat} {mf : MF} (hm : P.follows .mixedOrders = true) (hO : SoundO P O) (hA : AppO O) (hI : SoundI P I) (hf : IsF P f mf) {args : List MV} {h h' : MHeap} {m : MV} (he : runF O I N mf args h = some (m, h'))
  {E : Env} {w : World} {vs : List Value} (hr : HRel E h w) (hv : Vs E w args vs) :
  Calls P f vs.toArray w fun e w' => ∃ v E', e = .returned v ∧ V E' w' m v ∧ HRel E' h' w' ∧ Ext (fun _ => true) E w E' w' := by
 obtain ⟨E0, hE0⟩ : ∃ E0 : Env, E0 = E := ⟨E, rfl⟩
 have hr00 := hr
 rw [← hE0] at hr00 ⊢
 obtain ⟨E, hE⟩ : ∃ E1 : Env, E1 = { E with top := h.length } := ⟨_, rfl⟩
 rw [← hE0] at hE
 have hle0 : EnvLe E0 E := by rw [hE]; exact EnvLe.topE _ _
 have hr : HRel E h w := by
  rw [hE]
  exact ⟨hr00.klt, Nat.le_refl _, fun id hk => by
   obtain ⟨es, a1, a2, a3, a4, a5⟩ := hr00.obj id hk
   refine ⟨es, a1, a2, a3, a4, fun hc => ?_⟩
   obtain ⟨arr, t, b1, b2, b3⟩ := a5 hc
   exact ⟨arr, t, b1, b2, fun k c hk => by obtain ⟨v, c1, c2⟩ := b3 k c hk; exact ⟨v, c1, c2.env (EnvLe.topE _ _)⟩⟩, hr00.inj, hr00.sep, hr00.slt, fun p hp => (hr00.tab p hp).env (EnvLe.topE _ _)⟩
 have hv : Vs E w args vs := by rw [hE0] at hle0; exact hv.env hle0
 have htop : E.top = h.length := by rw [hE]
 obtain ⟨fn, b, h1, h2, h3, ⟨rs0, h4, hrs0⟩, h5⟩ := hf
 refine (callsIn_wide (n := 9)).1 (callsIn_of_wp_marks h1 h2 trivial ?_ rfl)
 unfold runF at he
 split at he
 case h_2 => cases he
 rename_i x st hev
 split at he
 case isFalse => cases he
 rename_i hx
 split at he
 case h_2 => cases he
 rename_i ms hms
 split at he
 case isFalse => cases he
 rename_i hnd
 split at he
 case h_2 => cases he
 rename_i ms' news hexp
 have hms : rs0.mapM (resM st.s st.h) = some ms := by
  rcases hrs0 with e | e
  ·rw [← e]; exact hms
  ·rw [e, List.mapM_map] at hms
   rw [← hms]
   congr 1
   funext r
   exact (resM_opened st.s st.h r).symm
 simp only [Option.some.injEq, Prod.mk.injEq] at he
 obtain ⟨rfl, rfl⟩ := he
 refine compC_ok (N := N) hm hO hA hI b mf.body h5 _ _ _ _ hev none w.heap.size 9 E _ w _ ⟨⟨by simp [hv.1, h3], fun i c v hc hcv => ?_⟩, hr, Nat.le_refl _, trivial⟩ fun a' w' E' hR hx' => ?_
 ·by_cases hi : i < args.length
  ·rw [List.getElem?_append_left hi] at hc
   have hi' : i < vs.length := hv.1 ▸ hi
   simp only [Array.getElem?_append, List.size_toArray, hi', if_true] at hcv
   exact hv.2 i c v hc (by simpa using hcv)
  ·rw [List.getElem?_append_right (by omega)] at hc
   have hi' : ¬ i < vs.length := hv.1 ▸ hi
   simp only [Array.getElem?_append, List.size_toArray, hi', if_false] at hcv
   rw [List.getElem?_replicate] at hc
   rw [Array.getElem?_replicate] at hcv
   split at hc
   ·split at hcv
    ·cases hc; cases hcv; exact .lit _
    ·cases hcv
   ·cases hc
 ·obtain ⟨q1, q2⟩ := mapM_some h4
  obtain ⟨q3, q4⟩ := mapM_some hms
  have hres : ∀ i : Nat, i < fn.results.toList.length → ∃ v, ∀ r mr m, fn.results.toList[i]? = some r → rs0[i]? = some mr → ms[i]? = some m → V E' w' m v ∧ ∀ B W, CKd B w' W →
    (resS a' r).run P W = .ok v W := fun i hi => by
   have e1 : fn.results.toList[i]? = some fn.results.toList[i] := by simp
   have hi2 : i < rs0.length := q1 ▸ hi
   have e2 : rs0[i]? = some rs0[i] := by simp
   have hi3 : i < ms.length := q3 ▸ hi2
   have e3 : ms[i]? = some ms[i] := by simp
   obtain ⟨v, hv1, hv2⟩ := resM_ok hR.slots hR.heap (q2 i _ _ e1 e2) (q4 i _ _ e2 e3)
   refine ⟨v, fun r mr m hr' hmr hm' => ?_⟩
   rw [e1] at hr'; cases hr'
   rw [e2] at hmr; cases hmr
   rw [e3] at hm'; cases hm'
   exact ⟨hv1, hv2⟩
  have hvals : ∃ us : List Value, us.length = fn.results.toList.length ∧ ∀ (i : Nat) r mr m v, fn.results.toList[i]? = some r → rs0[i]? = some mr → ms[i]? = some m → us[i]? = some v → V E' w' m v ∧ ∀ B W, CKd B w' W →
    (resS a' r).run P W = .ok v W := by
   refine ⟨List.ofFn fun i : Fin fn.results.toList.length => (hres i.1 i.2).choose, by simp, fun i r mr m v hr' hmr hm' hu => ?_⟩
   have hi := (List.getElem?_eq_some_iff.1 hr').1
   rw [List.getElem?_ofFn, dif_pos hi] at hu
   cases hu
   exact (hres i hi).choose_spec r mr m hr' hmr hm'
  obtain ⟨us, hul, hus⟩ := hvals
  have hVs : Vs E' w' ms us := ⟨by omega, fun i c v hc hcv => by
   have hi := (List.getElem?_eq_some_iff.1 hc).1
   have hi2 : i < rs0.length := by omega
   have hi1 : i < fn.results.toList.length := by omega
   exact (hus i fn.results.toList[i] rs0[i] c v (by simp) (by simp) hc hcv).1⟩
  have hgo : bodyPostM Fence.wide 9 P fn (fun e w' => ∃ v E', e = .returned v ∧ V E' w' (clo mf.res ms ms') v ∧ HRel E' (h ++ news) w' ∧ Ext (fun _ => true) E0 w E' w') .ret a' w' := by
   refine ret_marksD (v := if h : us.toArray.size = 1 then us.toArray[0] else .tuple us.toArray) (B := w.heap.size) hR.mok.2 fun W' hck => ⟨?_, ?_⟩
   ·have hrun : (fn.results.toList.mapM (resS a')).run P W' = .ok us W' := by
     refine run_mapM_ok hul.symm fun i r v hr' hu => ?_
     have hi := (List.getElem?_eq_some_iff.1 hr').1
     have hi2 : i < rs0.length := by omega
     have hi3 : i < ms.length := by omega
     exact (hus i r rs0[i] ms[i] v hr' (by simp) (by simp) hu).2 _ W' hck
    have e : results fn a'.tmps = (do
      let vs ← fn.results.mapM (resS a')
      pure (if h : vs.size = 1 then vs[0] else .tuple vs)) := rfl
    rw [e, Array.mapM_eq_mapM_toList]
    simp only [Sem.run_bind, Sem.run_map, hrun, Result.andThen_ok]
    rfl
   ·have hr2 := hR.heap.ck hck
    have hx2 : Ext (fun id => decide (id < h.length)) E w E' W' := hx'.ck hck
    have hr3 := hr.shut htop hr2 hx2 (impIds h.length (opn mf.res ms))
    have hVs2 : Vs E' W' ms us := ⟨hVs.1, fun i c v hc hcv => (hVs.2 i c v hc hcv).ck hck⟩
    obtain ⟨xs, hxs, hclo⟩ : ∃ xs : List Value, Vs E' W' (opn mf.res ms) xs ∧ ∀ E2 : Env, Vs E2 W' ms' xs → V E2 W' (clo mf.res ms ms') (if h : us.toArray.size = 1 then us.toArray[0] else .tuple us.toArray) := by
     rcases opn_cases mf.res ms with ⟨cs, hm1, hm2, hm3⟩ | ⟨hm1, hm2⟩
     ·rw [hm2, hm3]
      rw [hm1] at hVs2
      obtain ⟨u, ul, rfl, d1, d2⟩ := hVs2.uncons
      have : ul = [] := by have := d2.1; simpa using this.symm
      subst this
      cases d1 with
      | agg _ ys hl hc => exact ⟨ys, ⟨hl, hc⟩, fun E2 h2 => by simpa using V.agg (E := E2) (w := W') _ _ h2.1 h2.2⟩
     ·rw [hm1, hm2]
      refine ⟨us, hVs2, fun E2 k3 => ?_⟩
      cases ms' with
      | nil =>
       have : us = [] := by have := k3.1; simpa using this.symm
       subst this
       exact .tup [] [] rfl fun i c v hc => by simp at hc
      | cons m1 l =>
       obtain ⟨u, ul, rfl, d1, d2⟩ := k3.uncons
       cases l with
       | nil =>
        have : ul = [] := by have := d2.1; simpa using this.symm
        subst this
        simpa [oneOf] using d1
       | cons m2 l =>
        have hne : (u :: ul).toArray.size ≠ 1 := by have := d2.1; simp only [List.length_cons] at this; simp only [List.size_toArray, List.length_cons]; omega
        rw [dif_neg hne]
        exact .tup _ _ k3.1 k3.2
    obtain ⟨E2, done', k1, k2, k3⟩ := expL_ok (imp := impIds h.length (opn mf.res ms)) hr2 hxs (Ec := E'.shut h.length (impIds h.length (opn mf.res ms))) (Hc := h) (done := []) ⟨hr3, EnvLe.refl _, fun b hb => hb, fun id hk hc => .inl ⟨hk.1, hk.2, rfl, rfl⟩, fun j hj => by simp at hj, rfl, Nat.le_refl _, fun id hk => .inl hk⟩ hexp (fun j hj => hj) (by simpa using hnd)
    refine ⟨_, { E2 with top := E0.top }, rfl, V.env (EnvLe.topE _ _) ?_, ?_, ?_⟩
    ·exact hclo E2 k3
    ·have kr := k1.hr
     exact ⟨kr.klt, by have := hr00.top; simp; omega, fun id hk => by
      obtain ⟨es, a1, a2, a3, a4, a5⟩ := kr.obj id hk
      refine ⟨es, a1, a2, a3, a4, fun hc => ?_⟩
      obtain ⟨arr, t, b1, b2, b3⟩ := a5 hc
      exact ⟨arr, t, b1, b2, fun k c hk => by obtain ⟨v, c1, c2⟩ := b3 k c hk; exact ⟨v, c1, c2.env (EnvLe.topE _ _)⟩⟩, kr.inj, kr.sep, kr.slt, fun p hp => (kr.tab p hp).env (EnvLe.topE _ _)⟩
    ·have hs := hx2.shut hr (impIds h.length (opn mf.res ms))
     have hEK : ∀ id, E0.K id → E.K id := fun id hk => by rw [hE]; exact hk
     have hE1 : E.ρ = E0.ρ ∧ E.bo = E0.bo ∧ E.cp = E0.cp ∧ E.sz = E0.sz ∧ E.gn = E0.gn ∧ E.ln = E0.ln ∧ E.nl = E0.nl ∧ E.S = E0.S ∧ E.K = E0.K := by rw [hE]; exact ⟨rfl, rfl, rfl, rfl, rfl, rfl, rfl, rfl, rfl⟩
     obtain ⟨z1, z2, z3, z4, z5, z6, z7, z8, z9⟩ := hE1
     refine { os := hs.os, tape := hs.tape, output := hs.output, size := hs.size, keep := fun k hk hn => hs.keep k hk fun id _ hl => by simp at hl, S := fun b hb => k2.1 b (hs.S b (z8 ▸ hb)), K := fun id hk => (k2.2.1 id (hs.K id (hEK id hk))).1, old := fun id hk => ?_, lock := fun id hk hl => ?_, src := fun id hk hc => ?_, top := rfl, srcK := fun id hk => ?_, yl := k2.2.2.trans (by rw [hs.yl, hE]), srcS := fun b hb => ?_ }
     ·obtain ⟨c1, c2⟩ := hs.old id (hEK id hk)
      obtain ⟨d1, d2, d3, d4, d5, d6, d7, d8⟩ := k2.2.1 id (hs.K id (hEK id hk))
      rw [z5] at c1 c2
      refine ⟨by show E0.gn id ≤ E2.gn id; omega, fun e => ?_⟩
      obtain ⟨f1, f2, f3, f4, f5, f6⟩ := c2 (d2 ▸ e)
      rw [z1] at f1; rw [z2] at f2; rw [z3] at f3; rw [z4] at f4; rw [z6] at f5; rw [z7] at f6
      exact ⟨d3.trans f1, d4.trans f2, d5.trans f3, d6.trans f4, d7.trans f5, d8.trans f6⟩
     ·have := ((k2.2.1 id (hs.K id (hEK id hk))).2.1).trans (hs.lock id (hEK id hk) hl)
      rwa [z5] at this
     ·rcases k1.src id hk hc with ⟨e1, e2, e3, e4⟩ | ⟨j, e1, e2, e3, e4, e5⟩
      ·rcases hx2.src id e1 (e4 ▸ hc) with ⟨g1, g2, g3⟩ | g
       ·exact .inl ⟨z9 ▸ g1, by rw [← z3]; exact g2, by rw [← z1]; exact e3.trans g3⟩
       ·exact .inr (e3 ▸ g)
      ·rcases hx2.src j e2 e4 with ⟨g1, g2, g3⟩ | g
       ·have := hr.klt j g1; omega
       ·exact .inr (e5 ▸ g)
     ·rcases k1.srcK id hk with ⟨g1, g2⟩ | g
      ·exact .inl (z9 ▸ (hx2.srcK id g1).resolve_right (by omega))
      ·exact .inr (Nat.le_trans hr00.top g)
     ·rcases hs.srcS b (k1.S b hb) with g | ⟨id, g1, g2, g3⟩ | g
      ·exact .inl (z8 ▸ g)
      ·exact .inr (.inl ⟨id, z9 ▸ g1, z3 ▸ g2, z1 ▸ g3⟩)
      ·exact .inr (.inr g)
  rcases hx with rfl | rfl
  ·exact hgo
  ·exact hgo
theorem runF_app {O : Oracle} {I : Iter} {N : Nat} {mf : MF} {args : List MV} {h h' : MHeap} {m : MV} (he : runF O I N mf args h = some (m, h')) : ∃ t, h' = h ++ t := by
 unfold runF at he
 split at he
 case h_2 => cases he
 split at he
 case isFalse => cases he
 split at he
 case h_2 => cases he
 split at he
 case isFalse => cases he
 split at he
 case h_2 => cases he
 cases he
 exact ⟨_, rfl⟩
end Go.Proofs.YtnmgpbihknjdjaaDoor

/- Iterators: their evaluation. -/
namespace Go.Proofs.YtnmgpbihknjdjaaDoor
open Go.RowKit
structure ISt where
 s : List MV
 h : MHeap
 ln : Nat
 xs : List (List MV)
 stop : Bool
def isY (s : List MV) : MO → Option (List MV)
 | .callv x as_ => match x.get s with
  | .yld => some (as_.map (MX.get s))
  | _ => none
 | _ => none
def bindL {α β : Type} (f : α → Option (List β)) : List α → Option (List β)
 | [] => some []
 | a :: r => match f a with
  | some l => match bindL f r with
   | some m => some (l ++ m)
   | none => none
  | none => none
def lkn (n : Nat) : Nat → Bool := fun id => decide (id < n)
def evGI (O : Oracle) (o : GO) (st : ISt) : Option (List ISt) :=
 match wantM st.s o.guard, isY st.s o.op with
 | some true, some ms => if st.stop = false ∧ ms.all MV.cl = true then
   some [⟨putM st.s o.dst (.lit (.bool true)), st.h, st.h.length, st.xs ++ [ms], false⟩, ⟨putM st.s o.dst (.lit (.bool false)), st.h, st.h.length, st.xs, true⟩] else none
 | _, _ => (evG (lkn st.ln) O o ⟨st.s, st.h⟩).map fun st' => [⟨st'.s, st'.h, st.ln, st.xs, st.stop⟩]
def evRI (O : Oracle) : List GO → ISt → Option (List ISt)
 | [], st => some [st]
 | o :: os, st => match evGI O o st with
  | some l => bindL (evRI O os) l
  | none => none
def hasY (gl : List GO) : Bool := gl.any fun o => isCv o.op
def contI (f : ISt → Option (List (MX2 × ISt))) (p : MX2 × ISt) : Option (List (MX2 × ISt)) :=
 match p.1 with
 | .normal => f p.2
 | _ => some [p]
def roundsI (f : ISt → Option (List (MX2 × ISt))) : Nat → ISt → Option (List (MX2 × ISt))
 | 0, _ => none
 | n + 1, st => match f st with
  | some l => bindL (contI (roundsI f n)) l
  | none => none
def leaveB (id : Nat) (p : MX2 × ISt) : MX2 × ISt :=
 match p.1 with
 | .exit k => if k = id then (.normal, p.2) else p
 | _ => p
def evI (O : Oracle) (N : Nat) : MC → ISt → Option (List (MX2 × ISt))
 | .skip, st => some [(.normal, st)]
 | .reg ops, st => if hasY ops then (evRI O ops st).map fun l => l.map fun st => (.normal, st)
   else (evR (lkn st.ln) O ops ⟨st.s, st.h⟩).map fun st' => [(.normal, ⟨st'.s, st'.h, st.ln, st.xs, st.stop⟩)]
 | .seq a b, st => match evI O N a st with
  | some l => bindL (contI (evI O N b)) l
  | none => none
 | .cond c a b, st => match c.get st.s with
  | .lit (.bool t) => if t then evI O N a st else evI O N b st
  | _ => none
 | .block id b, st => (evI O N b st).map fun l => l.map (leaveB id)
 | .loop _ b, st => roundsI (evI O N b) N st
 | .exit id, st => some [(.exit id, st)]
 | .ret, st => some [(.ret, st)]
 | _, _ => none
theorem bindL_some {α β : Type} {f : α → Option (List β)} : ∀ {l : List α} {m : List β}, bindL f l = some m → ∀ a ∈ l, ∃ r, f a = some r ∧ ∀ x ∈ r, x ∈ m
 | [], m, h, a, ha => by simp at ha
 | b :: l, m, h, a, ha => by
  simp only [bindL] at h
  split at h
  case h_2 => cases h
  rename_i r hr
  split at h
  case h_2 => cases h
  rename_i m' hm
  cases h
  rcases List.mem_cons.1 ha with rfl | ha
  ·exact ⟨r, hr, fun x hx => List.mem_append_left _ hx⟩
  ·obtain ⟨r', h1, h2⟩ := bindL_some hm a ha
   exact ⟨r', h1, fun x hx => List.mem_append_right _ (h2 x hx)⟩
def Goes (st : ISt) (outs : List (MX2 × ISt)) : Prop := st.stop = false → ∃ o, o ∈ outs ∧ o.2.stop = false ∧ st.xs <+: o.2.xs
theorem Goes.cont {f : ISt → Option (List (MX2 × ISt))} (hf : ∀ st outs, f st = some outs → Goes st outs) {st : ISt} {l outs : List (MX2 × ISt)} (h : Goes st l) (hb : bindL (contI f) l = some outs) : Goes st outs := by
 intro hs
 obtain ⟨o, h1, h2, h3⟩ := h hs
 obtain ⟨r, h4, h5⟩ := bindL_some hb o h1
 obtain ⟨x, st'⟩ := o
 cases x with
 | normal =>
  obtain ⟨o', k1, k2, k3⟩ := hf _ _ h4 h2
  exact ⟨o', h5 _ k1, k2, h3.trans k3⟩
 | exit id =>
  simp only [contI, Option.some.injEq] at h4
  subst h4
  exact ⟨_, h5 _ (by simp), h2, h3⟩
 | ret =>
  simp only [contI, Option.some.injEq] at h4
  subst h4
  exact ⟨_, h5 _ (by simp), h2, h3⟩
theorem Goes.rounds {f : ISt → Option (List (MX2 × ISt))} (hf : ∀ st outs, f st = some outs → Goes st outs) : ∀ n st outs, roundsI f n st = some outs → Goes st outs := by
 intro n
 induction n with
 | zero => intro st outs h; simp [roundsI] at h
 | succ n ih =>
  intro st outs h
  simp only [roundsI] at h
  split at h
  case h_2 => cases h
  rename_i l hl
  exact (hf _ _ hl).cont ih h
theorem evGI_goes {O : Oracle} {o : GO} {st : ISt} {l : List ISt} (h : evGI O o st = some l) (hs : st.stop = false) : ∃ st', st' ∈ l ∧ st'.stop = false ∧ st.xs <+: st'.xs := by
 unfold evGI at h
 split at h
 ·split at h
  case isFalse => cases h
  cases h
  exact ⟨_, List.mem_cons_self, rfl, List.prefix_append _ _⟩
 ·rw [Option.map_eq_some_iff] at h
  obtain ⟨st', _, rfl⟩ := h
  exact ⟨_, List.mem_cons_self, hs, List.prefix_refl _⟩
theorem evRI_goes {O : Oracle} : ∀ {gl : List GO} {st : ISt} {l : List ISt}, evRI O gl st = some l → st.stop = false → ∃ st', st' ∈ l ∧ st'.stop = false ∧ st.xs <+: st'.xs
 | [], st, l, h, hs => by
  simp only [evRI, Option.some.injEq] at h
  subst h
  exact ⟨_, List.mem_cons_self, hs, List.prefix_refl _⟩
 | o :: gl, st, l, h, hs => by
  simp only [evRI] at h
  split at h
  case h_2 => cases h
  rename_i l1 h1
  obtain ⟨st1, k1, k2, k3⟩ := evGI_goes h1 hs
  obtain ⟨r, h2, h3⟩ := bindL_some h st1 k1
  obtain ⟨st2, j1, j2, j3⟩ := evRI_goes h2 k2
  exact ⟨st2, h3 _ j1, j2, k3.trans j3⟩
theorem evI_goes {O : Oracle} {N : Nat} : ∀ (mc : MC) (st : ISt) (outs : List (MX2 × ISt)), evI O N mc st = some outs → Goes st outs := by
 intro mc
 induction mc with
 | skip => intro st outs h hs; simp only [evI, Option.some.injEq] at h; subst h; exact ⟨_, List.mem_cons_self, hs, List.prefix_refl _⟩
 | ret => intro st outs h hs; simp only [evI, Option.some.injEq] at h; subst h; exact ⟨_, List.mem_cons_self, hs, List.prefix_refl _⟩
 | exit id => intro st outs h hs; simp only [evI, Option.some.injEq] at h; subst h; exact ⟨_, List.mem_cons_self, hs, List.prefix_refl _⟩
 | bad => intro st outs h; simp [evI] at h
 | rf => intro st outs h; simp [evI] at h
 | give => intro st outs h; simp [evI] at h
 | mr => intro st outs h; simp [evI] at h
 | mrk => intro st outs h; simp [evI] at h
 | reg gl =>
  intro st outs h hs
  simp only [evI] at h
  split at h
  ·rw [Option.map_eq_some_iff] at h
   obtain ⟨l, h1, rfl⟩ := h
   obtain ⟨st', k1, k2, k3⟩ := evRI_goes h1 hs
   exact ⟨(.normal, st'), List.mem_map.2 ⟨st', k1, rfl⟩, k2, k3⟩
  ·rw [Option.map_eq_some_iff] at h
   obtain ⟨st', h1, rfl⟩ := h
   exact ⟨_, List.mem_cons_self, hs, List.prefix_refl _⟩
 | seq a b iha ihb =>
  intro st outs h
  simp only [evI] at h
  split at h
  case h_2 => cases h
  rename_i l hl
  exact (iha _ _ hl).cont ihb h
 | cond c a b iha ihb =>
  intro st outs h
  simp only [evI] at h
  split at h
  case h_2 => cases h
  split at h
  ·exact iha _ _ h
  ·exact ihb _ _ h
 | block id b ih =>
  intro st outs h hs
  simp only [evI, Option.map_eq_some_iff] at h
  obtain ⟨l, h1, rfl⟩ := h
  obtain ⟨o, k1, k2, k3⟩ := ih _ _ h1 hs
  refine ⟨leaveB id o, List.mem_map.2 ⟨o, k1, rfl⟩, ?_⟩
  have : (leaveB id o).2 = o.2 := by unfold leaveB; split; split <;> rfl; rfl
  rw [this]
  exact ⟨k2, k3⟩
 | loop keep b ih =>
  intro st outs h
  simp only [evI] at h
  exact Goes.rounds ih _ _ _ h
def isCallV : Op → Bool
 | .call c => match c.callee with
  | .value (.func _) => false
  | .value _ => true
  | _ => false
 | _ => false
def cvAt (ops : Array Oper) : Nat := ops.toList.findIdx fun o => isCallV o.op
def lastY (P : Program) (ops : Array Oper) : Bool :=
 match ops.toList.mapM (compG P ops) with
 | some gl => drawOk ops gl && (decide (cvAt ops < ops.size) && (((ops.toList.take (cvAt ops)).all fun o => !isCallV o.op) && (((List.range (cvAt ops)).all fun j => rch ops ops.size (cvAt ops) j) &&
   (((List.range (ops.size - (cvAt ops + 1))).all fun d => rch ops ops.size (cvAt ops + 1 + d) (cvAt ops)) && (Region.seqB .any ops (ops.size - (cvAt ops + 1)) (cvAt ops + 1) (preA ops.size (cvAt ops + 1)) && (gl.drop (cvAt ops)).all fun g => !isFa g.op)))))
 | none => false
def seqY (P : Program) : Code → Bool
 | .region _ ops draw => !draw || (ops.toList.all fun o => !isCallV o.op) || lastY P ops
 | .seq a b => seqY P a && seqY P b && (mrFit P a b (compC P b)).isNone
 | .cond _ a b => seqY P a && seqY P b
 | .block _ b => seqY P b
 | .loop b => seqY P b
 | _ => true
theorem callv_inv {P : Program} {o : Oper} {x' : MX} {as' : List MX} (hc : compO P o = some (.callv x' as')) : ∃ c x, o.op = .call c ∧ c.callee = .value x ∧ (∀ f, x ≠ .func f) ∧ cX x = some x' ∧ cXs c.args.toList = some as' := by
 obtain ⟨dst, op, type, pos, after, guard⟩ := o
 cases op <;> simp only [compO] at hc <;> try (cases hc; done)
 case call c =>
  obtain ⟨callee, args, argTypes⟩ := c
  cases callee with
  | invoke r m => simp only at hc; cases hc
  | value x =>
   cases x with
   | func f =>
    simp only at hc
    split at hc
    ·split at hc
     ·simp [Option.map_eq_some_iff] at hc
     ·cases hc
    split at hc
    ·simp only [Option.bind_eq_bind, Option.bind_eq_some_iff] at hc
     obtain ⟨_, _, h⟩ := hc
     cases h
    ·cases hc
   | tmp t =>
    simp only [Option.bind_eq_bind, Option.bind_eq_some_iff, Option.some.injEq, MO.callv.injEq] at hc
    obtain ⟨x1, h1, a1, h2, rfl, rfl⟩ := hc
    exact ⟨_, _, rfl, rfl, (fun f h => by cases h), h1, h2⟩
   | const v =>
    simp only [Option.bind_eq_bind, Option.bind_eq_some_iff, Option.some.injEq, MO.callv.injEq] at hc
    obtain ⟨x1, h1, a1, h2, rfl, rfl⟩ := hc
    exact ⟨_, _, rfl, rfl, (fun f h => by cases h), h1, h2⟩
   | global g => simp [cX] at hc
  | builtin b =>
   exfalso
   simp only at hc
   repeat' (split at hc)
   all_goals (first | (cases hc; done) | (simp [Option.map_eq_some_iff, Option.bind_eq_some_iff] at hc; done) | skip)
   all_goals (simp only [Option.bind_eq_bind, Option.bind_eq_some_iff] at hc; obtain ⟨_, _, _, _, hc⟩ := hc; split at hc)
   all_goals (first | (cases hc; done) | (simp [Option.bind_eq_some_iff] at hc))
 case build t parts =>
  exfalso
  simp only [Option.bind_eq_bind, Option.bind_eq_some_iff] at hc
  obtain ⟨_, _, _, _, hc⟩ := hc
  split at hc
  ·simp [Option.bind_eq_some_iff] at hc
  ·cases hc
 case makeFunc fn first caps =>
  exfalso
  cases fn <;> simp only at hc <;> try (cases hc; done)
  simp [Option.bind_eq_some_iff] at hc
 case makeMap t r =>
  exfalso
  cases r with
  | some _ => simp only at hc; cases hc
  | none =>
   simp only at hc
   split at hc
   ·simp at hc
   ·cases hc
 case slice t x lo hi mx =>
  exfalso
  cases mx <;> simp only at hc <;> try (cases hc; done)
  repeat' (split at hc)
  all_goals (first | (cases hc; done) | (simp [Option.bind_eq_some_iff] at hc; done))
 all_goals
  exfalso
  repeat' (split at hc)
  all_goals (first | (cases hc; done) | (simp [Option.map_eq_some_iff, Option.bind_eq_some_iff] at hc; done) | skip)
 all_goals (simp only [Option.bind_eq_bind, Option.bind_eq_some_iff] at hc)
end Go.Proofs.YtnmgpbihknjdjaaDoor
namespace Go.Proofs.YtnmgpbihknjdjaaDoor
open Go.RowKit
theorem V.sameB {E : Env} {w w' : World} (hS : ∀ b, E.S b → w'.heap[b]? = w.heap[b]?) (hy : ∀ m a s c, w.heap[E.yl]? ≠ some (.mapIter m a s c)) {m : MV} {v : Value} (hv : V E w m v) : V E w' m v := by
 induction hv with
 | junk v => exact .junk v
 | yld => exact .yld
 | emp a => exact .emp a
 | lit v => exact .lit v
 | agg cs vs hl _ ih => exact .agg cs vs hl ih
 | tup cs vs hl _ ih => exact .tup cs vs hl ih
 | fn f k cs vs hl _ ih => exact .fn f k cs vs hl ih
 | sl es vs A cap sz hc hs hl _ hA ih =>
  refine .sl es vs A cap sz hc hs hl ih fun h0 => ?_
  obtain ⟨b, off, e, hb, hcell⟩ := hA h0
  exact ⟨b, off, e, hb, fun i v hi => (World.cell?_of_block (w := w) (a := ⟨b, off + i, none⟩) (hS b hb)).trans (hcell i v hi)⟩
 | rp e off vs b o hl _ hb hcell ih =>
  exact .rp e off vs b o hl ih hb fun i v hi => (World.cell?_of_block (w := w) (a := ⟨b, o + i, none⟩) (hS b hb)).trans (hcell i v hi)
 | ptr id i off g b o hk hg hd => exact .ptr id i off g b o hk hg hd
 | arr id i n g A cap hk hg hd => exact .arr id i n g A cap hk hg hd
 | mp id g b hk hg hd => exact .mp id g b hk hg hd
 | rm es b ents ck l hl _ hp hs hb hh ih => exact .rm es b ents ck l hl ih hp hs hb ((hS b hb).trans hh)
 | itr k v b ents ck since seen en _ _ hs hen hb hh hi _ _ => exact absurd hi (hy _ _ _ _)
theorem HRel.sameB {E : Env} {h : MHeap} {w w' : World} (hr : HRel E h w) (hS : ∀ b, E.S b → w'.heap[b]? = w.heap[b]?) (hy : ∀ m a s c, w.heap[E.yl]? ≠ some (.mapIter m a s c)) (hK : ∀ id, E.K id → 0 < E.cp id → w'.heap[E.ρ id]? = w.heap[E.ρ id]?) (hsz : w.heap.size ≤ w'.heap.size) : HRel E h w' :=
 ⟨hr.klt, hr.top, fun id hk => by
  obtain ⟨es, a1, a2, a3, a4, a5⟩ := hr.obj id hk
  refine ⟨es, a1, a2, a3, a4, fun hc => ?_⟩
  obtain ⟨arr, t, b1, b2, b3⟩ := a5 hc
  exact ⟨arr, t, by rw [hK id hk hc]; exact b1, b2, fun k c hk => by obtain ⟨v, c1, c2⟩ := b3 k c hk; exact ⟨v, c1, c2.sameB hS hy⟩⟩, hr.inj, hr.sep, fun b hb => Nat.lt_of_lt_of_le (hr.slt b hb) hsz, fun p hp => (hr.tab p hp).sameB hS hy⟩
theorem V.cl_eq {E : Env} {w : World} {m : MV} {v : Value} (hv : V E w m v) (hc : m.cl = true) : v = concV m := by
 cases hv with
 | lit v => rfl
 | agg cs vs hl hv =>
  simp only [concV, Value.agg.injEq]
  congr 1
  simp only [MV.cl, List.all_eq_true] at hc
  refine List.ext_getElem? fun i => ?_
  rw [List.getElem?_map]
  by_cases hi : i < cs.length
  ·have h1 : cs[i]? = some cs[i] := by simp
   have hi' : i < vs.length := hl ▸ hi
   have h2 : vs[i]? = some vs[i] := by simp
   have := hv i _ _ h1 h2
   have hcl := hc cs[i] (List.getElem_mem _)
   rw [h1, h2]
   generalize hm : cs[i] = m at this hcl
   cases m <;> simp at hcl
   simp [this.lit_eq]
  ·have hi' : ¬ i < vs.length := hl ▸ hi
   simp [Nat.not_lt.1 hi, Nat.not_lt.1 hi']
 | _ => cases hc
theorem Vs.cl_eq {E : Env} {w : World} {ms : List MV} {vs : List Value} (hv : Vs E w ms vs) (hc : ms.all MV.cl = true) : vs = ms.map concV := by
 refine List.ext_getElem? fun i => ?_
 rw [List.getElem?_map]
 by_cases hi : i < ms.length
 ·have h1 : ms[i]? = some ms[i] := by simp
  have hi' : i < vs.length := hv.1 ▸ hi
  have h2 : vs[i]? = some vs[i] := by simp
  rw [h1, h2, (hv.2 i _ _ h1 h2).cl_eq (List.all_eq_true.1 hc _ (List.getElem_mem _))]
  rfl
 ·have hi' : ¬ i < vs.length := hv.1 ▸ hi
  simp [Nat.not_lt.1 hi, Nat.not_lt.1 hi']
section
variable {P : Program} {O : Oracle} {N : Nat} {full : List (List MV)} {l : Nat} {S : Nat → Prop} {J : (Nat → Prop) → Nat → World → Prop} {Jx : World → Prop}
structure ItH (P : Program) (full : List (List MV)) (l : Nat) (S : Nat → Prop) (J : (Nat → Prop) → Nat → World → Prop) (Jx : World → Prop) : Prop where
 ab : ∀ T T' k A A', J T k A → Below A.heap.size A A' → (∀ b, T' b → T b ∨ A.heap.size ≤ b) → J T' k A'
 abx : ∀ A A', Jx A → Below A.heap.size A A' → Jx A'
 yield : ∀ (T : Nat → Prop) (k : Nat) (x : Array Value) (W1 : World), (full.map fun x => (x.map concV).toArray)[k]? = some x → (∀ b, T b → b < W1.heap.size) → J T k W1 →
  YieldAt Fence.wide 0 P l x W1 fun e W' => ((e = .returned (.bool true) ∧ J T (k + 1) W') ∨ (e = .returned (.bool false) ∧ Jx W')) ∧ SameS S W1 W' ∧ SameS T W1 W'
def RelI (l : Nat) (S : Nat → Prop) (J : (Nat → Prop) → Nat → World → Prop) (Jx : World → Prop) (st : ISt) (a : Act) (w : World) : Prop :=
 ∃ (E E1 : Env) (w1 : World) (T : Nat → Prop), Slots E w st.s a ∧ HRel E st.h w ∧ E.yl = l ∧ Ext (lkn st.ln) E1 w1 E w ∧ (∀ id, E1.K id → id < st.ln) ∧ (∀ b, E1.S b → S b ∨ T b) ∧ (∀ id, E1.K id → 0 < E1.cp id → T (E1.ρ id)) ∧
  (∀ b, T b → b < w1.heap.size) ∧ (st.stop = true → Jx w1) ∧ (st.stop = false → J T st.xs.length w1) ∧ a.defers = []
theorem ext_below {n : Nat} {E1 E : Env} {w1 w : World} (hx : Ext (lkn n) E1 w1 E w) (hn : ∀ id, E1.K id → id < n) : Below w1.heap.size w1 w :=
 ⟨hx.os, hx.tape, hx.output, hx.size, fun k hk => hx.keep k hk fun id hid hl _ => by simp [lkn, hn id hid] at hl⟩
theorem evGI_ok (hO : SoundO P O) (hH : ItH P full l S J Jx) {ops : Array Oper} {o : Oper} {go : GO} (hc : compG P ops o = some go) {st : ISt} {outs : List ISt} (he : evGI O go st = some outs) (hpre : ∀ st' ∈ outs, st'.stop = false → st'.xs <+: full)
  {a : Act} {w : World} (hR : RelI l S J Jx st a w) {n : Nat} {K : Act → World → Prop} {Q : Exit → Act → World → Prop} (hK : ∀ st' ∈ outs, ∀ a' w', RelI l S J Jx st' a' w' → K a' w') :
  if Region.wanted o (yielded ops a.tmps) then o.wpIn (Fw none) n P a w K Q else (∀ f, o.about P w a.eval = some f → (Fw none).fn f) ∧ K (a.put o.dst undef) w := by
 obtain ⟨E, E1, w1, T, hs, hr, hyl, hx, hn, hS1, hK1, hT, hJx, hJ, hd⟩ := hR
 unfold evGI at he
 split at he
 ·rename_i ms hw hy
  split at he
  case isFalse => cases he
  rename_i hcl
  obtain ⟨hstop, hcl⟩ := hcl
  cases he
  rw [wantM_wanted hc hs hw]
  simp only [if_true]
  unfold isY at hy
  split at hy
  case h_2 => cases hy
  rename_i x' as' hop
  split at hy
  case h_2 => cases hy
  rename_i hxy
  cases hy
  rw [compG_op hc] at hop
  cases hco : compO P o with
  | none => rw [hco] at hop; cases hop
  | some mo =>
  rw [hco] at hop
  simp only [Option.getD_some] at hop
  subst hop
  obtain ⟨c, x, ho, hcal, hnf, hcx, hcas⟩ := callv_inv hco
  have hnd : ∀ c, o.op ≠ .defer c := fun c' e => by rw [ho] at e; cases e
  have hxv : a.eval x = .func (.yield l) #[] #[] := by
   have := hs.x hcx
   rw [hxy] at this
   generalize a.eval x = v at this
   cases this
   rw [hyl]
  have hav : c.args.toList.map a.eval = (as'.map (MX.get st.s)).map concV := (hs.xs hcas).cl_eq hcl
  obtain ⟨T', hT'⟩ : ∃ T' : Nat → Prop, T' = fun b => (E.S b ∧ ¬ S b) ∨ ∃ id, E.K id ∧ 0 < E.cp id ∧ E.ρ id = b := ⟨_, rfl⟩
  have hbel := ext_below hx hn
  have hTT : ∀ b, T' b → T b ∨ w1.heap.size ≤ b := fun b hb => by
   rw [hT'] at hb
   rcases hb with ⟨h1, h2⟩ | ⟨id, h1, h2, rfl⟩
   ·rcases hx.srcS b h1 with h | ⟨id, k1, k2, rfl⟩ | h
    ·exact .inl ((hS1 b h).resolve_left h2)
    ·exact .inl (hK1 id k1 k2)
    ·exact .inr h
   ·rcases hx.src id h1 h2 with ⟨k1, k2, k3⟩ | h
    ·exact .inl (k3 ▸ hK1 id k1 k2)
    ·exact .inr h
  have hTlt : ∀ b, T' b → b < w.heap.size := fun b hb => by
   rw [hT'] at hb
   rcases hb with ⟨h1, h2⟩ | ⟨id, h1, h2, rfl⟩
   ·exact hr.slt b h1
   ·exact hr.lt h1 h2
  have hJ' : J T' st.xs.length w := hH.ab T T' _ _ _ (hJ hstop) hbel hTT
  have hk : (full.map fun x => (x.map concV).toArray)[st.xs.length]? = some ((as'.map (MX.get st.s)).map concV).toArray := by
   have hp := hpre _ List.mem_cons_self rfl
   obtain ⟨t, ht⟩ := hp
   simp only at ht
   rw [← ht]
   simp
  obtain ⟨fn, tmps, assign, body, hy1, hy2⟩ := hH.yield T' st.xs.length _ w hk hTlt hJ'
  have hrun : (execOp a.eval o).run P w = .ok (.round l fn tmps assign body) w := by
   have e1 : c.args.map a.eval = ((as'.map (MX.get st.s)).map concV).toArray := by
    apply Array.ext'
    rw [Array.toList_map, hav]
   simp only [List.map_map] at e1 hy1
   simp [execOp, ho, hcal, resolve, hxv, Deferred.ofValue, invoke, e1, hy1]
  refine ⟨about_wide o a w, ?_⟩
  rw [Oper.semAt_eq _ _ _ hnd, hrun]
  refine ⟨fun h => by simp [Fence.wide] at h, ?_⟩
  refine (roundIn_n 0 (n - 1) hy2).mono ?_
  rintro e W' ⟨hcase, hsS, hsT⟩
  have hES : ∀ b, E.S b → W'.heap[b]? = w.heap[b]? := fun b hb => by
   by_cases h : S b
   ·exact hsS.block b h
   ·exact hsT.block b (by rw [hT']; exact .inl ⟨hb, h⟩)
  have hEK : ∀ id, E.K id → 0 < E.cp id → W'.heap[E.ρ id]? = w.heap[E.ρ id]? := fun id h1 h2 => hsT.block _ (by rw [hT']; exact .inr ⟨id, h1, h2, rfl⟩)
  have hyI : ∀ m a s c, w.heap[E.yl]? ≠ some (.mapIter m a s c) := fun m a s c h => by
   rw [hyl] at h
   have hgo : (getObj l).run P w = .ok (.mapIter m a s c) w := by simp [getObj, Sem.run, h]
   simp [Instr.yield, Instr.getLoop, hgo, Result.andThen, stuck, Sem.run] at hy1
  have hr' : HRel E st.h W' := hr.sameB hES hyI hEK hsS.size
  have hs' : Slots E W' st.s a := ⟨hs.1, fun i m v h1 h2 => (hs.2 i m v h1 h2).sameB hES hyI⟩
  have hTW : ∀ b, T' b → b < W'.heap.size := fun b hb => Nat.lt_of_lt_of_le (hTlt b hb) hsS.size
  have hES2 : ∀ b, E.S b → S b ∨ T' b := fun b hb => by
   by_cases h : S b
   ·exact .inl h
   ·exact .inr (by rw [hT']; exact .inl ⟨hb, h⟩)
  have hEK2 : ∀ id, E.K id → 0 < E.cp id → T' (E.ρ id) := fun id h1 h2 => by rw [hT']; exact .inr ⟨id, h1, h2, rfl⟩
  have hputd : ∀ (v : Value), (a.put o.dst v).defers = [] := fun v => by rw [← hd]; cases o.dst <;> rfl
  rcases hcase with ⟨rfl, hJ2⟩ | ⟨rfl, hJ2⟩
  ·refine hK _ List.mem_cons_self _ _ ⟨E, E, W', T', ?_, hr', hyl, Ext.refl _ _ _, hr.klt, hES2, hEK2, hTW, (fun h => by cases h), (fun _ => by simpa using hJ2), hputd _⟩
   rw [compG_dst hc]
   exact hs'.put (.lit _) _
  ·refine hK _ (List.mem_cons_of_mem _ List.mem_cons_self) _ _ ⟨E, E, W', T', ?_, hr', hyl, Ext.refl _ _ _, hr.klt, hES2, hEK2, hTW, fun _ => hJ2, fun h => (by cases h), hputd _⟩
   rw [compG_dst hc]
   exact hs'.put (.lit _) _
 ·rw [Option.map_eq_some_iff] at he
  obtain ⟨st', he, rfl⟩ := he
  exact evG_ok hO hc hs hr he fun a' w' E' h1 h2 h3 h4 => hK _ List.mem_cons_self _ _ ⟨E', E1, w1, T, h1, h2, by rw [h3.yl]; exact hyl, hx.trans h3, hn, hS1, hK1, hT, hJx, hJ, h4.trans hd⟩
theorem evRI_ok (hO : SoundO P O) (hH : ItH P full l S J Jx) {ops : Array Oper} {n : Nat} {Q : Exit → Act → World → Prop} : ∀ {ol : List Oper} {gl : List GO} {st : ISt} {outs : List ISt} {a : Act} {w : World}, ol.mapM (compG P ops) = some gl → evRI O gl st = some outs →
  (∀ st' ∈ outs, st'.stop = false → st'.xs <+: full) → RelI l S J Jx st a w → (∀ st' ∈ outs, ∀ a' w', RelI l S J Jx st' a' w' → Q .normal a' w') → wpListIn (Fw none) n P ops Q ol a w
 | [], gl, st, outs, a, w, hm, he, hpre, hR, hQ => by
  simp at hm; subst hm
  simp [evRI] at he; subst he
  exact hQ _ List.mem_cons_self a w hR
 | o :: ol, gl, st, outs, a, w, hm, he, hpre, hR, hQ => by
  simp only [List.mapM_cons, Option.pure_def, Option.bind_eq_bind, Option.bind_eq_some_iff, Option.some.injEq] at hm
  obtain ⟨go, hgo, gl', hgl, rfl⟩ := hm
  simp only [evRI] at he
  split at he
  case h_2 => cases he
  rename_i l1 he1
  unfold wpListIn
  refine evGI_ok hO hH hgo he1 (fun st' hst' hs' => ?_) hR fun st' hst' a' w' hR' => ?_
  ·obtain ⟨r, h1, h2⟩ := bindL_some he st' hst'
   obtain ⟨st2, k1, k2, k3⟩ := evRI_goes h1 hs'
   exact k3.trans (hpre _ (h2 _ k1) k2)
  ·obtain ⟨r, h1, h2⟩ := bindL_some he st' hst'
   exact evRI_ok hO hH hgl h1 (fun st2 h3 => hpre st2 (h2 _ h3)) hR' fun st2 h3 => hQ st2 (h2 _ h3)
def CodeI (P : Program) (O : Oracle) (N : Nat) (full : List (List MV)) (l : Nat) (S : Nat → Prop) (J : (Nat → Prop) → Nat → World → Prop) (Jx : World → Prop) (c : Code) (mc : MC) : Prop :=
 ∀ (st : ISt) (outs : List (MX2 × ISt)), evI O N mc st = some outs → (∀ o ∈ outs, o.2.stop = false → o.2.xs <+: full) → ∀ (n : Nat) (a : Act) (w : World) (Q : Exit → Act → World → Prop), RelI l S J Jx st a w →
  (∀ o ∈ outs, ∀ a' w', RelI l S J Jx o.2 a' w' → Q (exitOf o.1) a' w') → c.wpIn (Fw none) n P Q a w
theorem pre_cont {f : ISt → Option (List (MX2 × ISt))} (hf : ∀ st outs, f st = some outs → Goes st outs) {l1 outs : List (MX2 × ISt)} (hb : bindL (contI f) l1 = some outs) (hpre : ∀ o ∈ outs, o.2.stop = false → o.2.xs <+: full) : ∀ o ∈ l1, o.2.stop = false → o.2.xs <+: full := fun o ho hs => by
 obtain ⟨r, h4, h5⟩ := bindL_some hb o ho
 obtain ⟨x, st'⟩ := o
 cases x with
 | normal =>
  obtain ⟨o', k1, k2, k3⟩ := hf _ _ h4 hs
  exact k3.trans (hpre _ (h5 _ k1) k2)
 | exit id =>
  simp only [contI, Option.some.injEq] at h4
  subst h4
  exact hpre _ (h5 _ (by simp)) hs
 | ret =>
  simp only [contI, Option.some.injEq] at h4
  subst h4
  exact hpre _ (h5 _ (by simp)) hs
theorem isCv_of {ops : Array Oper} {o : Oper} {g : GO} (hc : compG P ops o = some g) (hn : isCallV o.op = false) : isCv g.op = false := by
 have hop := compG_op hc
 cases hco : compO P o with
 | none => rw [hco] at hop; rw [hop]; rfl
 | some mo =>
  rw [hco] at hop
  simp only [Option.getD_some] at hop
  rw [hop]
  cases mo <;> try rfl
  exfalso
  obtain ⟨c, x, h1, h2, h3, -, -⟩ := callv_inv hco
  rw [h1] at hn
  simp only [isCallV, h2] at hn
  cases x <;> simp at hn
  all_goals exact h3 _ rfl
theorem evRI_pre : ∀ (pre gs : List GO) (st : ISt), (∀ g ∈ pre, isCv g.op = false) → evRI O (pre ++ gs) st = (evR (lkn st.ln) O pre ⟨st.s, st.h⟩).bind fun st' => evRI O gs ⟨st'.s, st'.h, st.ln, st.xs, st.stop⟩
 | [], gs, st, _ => rfl
 | g :: pre, gs, st, h => by
  have hg := h g List.mem_cons_self
  have hy : isY st.s g.op = none := by
   unfold isY
   split
   ·rename_i e; rw [e] at hg; cases hg
   ·rfl
  simp only [List.cons_append, evRI, evR]
  have e1 : evGI O g st = (evG (lkn st.ln) O g ⟨st.s, st.h⟩).map fun st' => [⟨st'.s, st'.h, st.ln, st.xs, st.stop⟩] := by
   unfold evGI
   rw [hy]
   split
   ·rename_i h2; cases h2
   ·rfl
  rw [e1]
  cases hev : evG (lkn st.ln) O g ⟨st.s, st.h⟩ with
  | none => rfl
  | some st1 =>
   simp only [Option.map_some, bindL, Option.bind_some]
   rw [evRI_pre pre gs ⟨st1.s, st1.h, st.ln, st.xs, st.stop⟩ fun g hg => h g (List.mem_cons_of_mem _ hg)]
   simp only
   cases (evR (lkn st.ln) O pre ⟨st1.s, st1.h⟩).bind fun st' => evRI O gs ⟨st'.s, st'.h, st.ln, st.xs, st.stop⟩ with
   | none => rfl
   | some r => simp
theorem codeI_seal {c : Code} {mc : MC} {t : Nat} : CodeI P O N full l S J Jx c (.give t mc) := by
 intro st outs he
 simp [evI] at he
theorem mapM_drop {α β : Type} {f : α → Option β} : ∀ (k : Nat) {l : List α} {m : List β}, l.mapM f = some m → (l.drop k).mapM f = some (m.drop k)
 | 0, l, m, h => h
 | k + 1, [], m, h => by
  simp at h; subst h; simp
 | k + 1, a :: l, m, h => by
  simp only [List.mapM_cons, Option.pure_def, Option.bind_eq_bind, Option.bind_eq_some_iff, Option.some.injEq] at h
  obtain ⟨b, _, m', h2, rfl⟩ := h
  exact mapM_drop k h2
theorem compC_itok (hm : P.follows .mixedOrders = true) (hO : SoundO P O) (hA : AppO O) (hH : ItH P full l S J Jx) : ∀ (c : Code) (mc : MC), compC P c = mc.strip → seqY P c = true → CodeI P O N full l S J Jx c mc := by
 have bad : ∀ (c : Code) (mc : MC), mc.strip = .bad → CodeI P O N full l S J Jx c mc := fun c mc h => by
  refine ungive (x := .bad) (fun t m _ => codeI_seal) ?_ mc h.symm
  clear h mc
  intro mc h hns
  cases mc <;> simp [MC.strip, MC.isSeal] at h hns
  intro st outs he
  simp [evI] at he
 intro c
 induction c with
 | skip =>
  refine fun mc h _ => ungive (fun t m _ => codeI_seal) ?_ mc h; clear h mc; intro mc h hns; simp only [compC] at h; cases mc <;> simp [MC.strip, MC.isSeal] at h hns
  intro st outs he hpre n a w Q hR hQ
  simp only [evI, Option.some.injEq] at he; subst he
  exact wpIn_skip (hQ _ List.mem_cons_self a w hR)
 | ret =>
  refine fun mc h _ => ungive (fun t m _ => codeI_seal) ?_ mc h; clear h mc; intro mc h hns; simp only [compC] at h; cases mc <;> simp [MC.strip, MC.isSeal] at h hns
  intro st outs he hpre n a w Q hR hQ
  simp only [evI, Option.some.injEq] at he; subst he
  exact wpIn_ret (hQ _ List.mem_cons_self a w hR)
 | exit id =>
  refine fun mc h _ => ungive (fun t m _ => codeI_seal) ?_ mc h; clear h mc; intro mc h hns; simp only [compC] at h; cases mc <;> simp [MC.strip, MC.isSeal] at h hns; subst h
  intro st outs he hpre n a w Q hR hQ
  simp only [evI, Option.some.injEq] at he; subst he
  exact wpIn_exit (hQ _ List.mem_cons_self a w hR)
 | region id ops draw =>
  intro mc h hy
  refine ungive (fun t m _ => codeI_seal) ?_ mc h
  clear h mc
  intro mc h hns
  simp only [compC] at h
  split at h
  case h_2 => exact bad _ mc h.symm
  rename_i gl hg
  obtain ⟨q1, q2⟩ := mapM_some hg
  have hno : (ops.toList.all fun o => !isCallV o.op) = true ∨ draw = false ∨ (draw = true ∧ drawOk ops gl = true ∧ cvAt ops < ops.size ∧ ((ops.toList.take (cvAt ops)).all fun o => !isCallV o.op) = true ∧ (∀ j, j < cvAt ops → rch ops ops.size (cvAt ops) j = true) ∧
    (∀ i, cvAt ops < i → i < ops.size → rch ops ops.size i (cvAt ops) = true) ∧ Region.seqB .any ops (ops.size - (cvAt ops + 1)) (cvAt ops + 1) (preA ops.size (cvAt ops + 1)) = true ∧ ((gl.drop (cvAt ops)).all fun g => !isFa g.op) = true) := by
   simp only [seqY] at hy
   rw [Bool.or_eq_true, Bool.or_eq_true] at hy
   rcases hy with (hy | hy) | hy
   ·exact .inr (.inl (by simpa using hy))
   ·exact .inl hy
   ·cases hdr : draw
    ·exact .inr (.inl rfl)
    ·unfold lastY at hy
     rw [hg] at hy
     simp only [Bool.and_eq_true, decide_eq_true_eq] at hy
     obtain ⟨y1, y2, y3, y4, y5, y6, y7⟩ := hy
     exact .inr (.inr ⟨rfl, y1, y2, y3, fun j hj => List.all_eq_true.1 y4 j (List.mem_range.2 hj), fun i h1 h2 => by
      have := List.all_eq_true.1 y5 (i - (cvAt ops + 1)) (List.mem_range.2 (by omega))
      rwa [show cvAt ops + 1 + (i - (cvAt ops + 1)) = i by omega] at this, y6, y7⟩)
  split at h
  ·rename_i hdr
   rw [Bool.and_eq_true, Bool.not_eq_true'] at hdr
   obtain ⟨hdr1, hdr2⟩ := hdr
   have hall : (ops.toList.all fun o => !isCallV o.op) = true := by
    rcases hno with h | h | h
    ·exact h
    ·rw [hdr1] at h; cases h
    ·rw [hdr2] at h; cases h.2.1
   have hl0 : (virt ops gl).length = ops.size := virt_len (by rw [← q1]; simp)
   have hcv : ∀ (i : Nat) g, (virt ops gl)[i]? = some g → isCv g.op = false := fun i g hi => by
    have hi2 : i < ops.toList.length := by
     have := (List.getElem?_eq_some_iff.1 hi).1
     rw [hl0] at this
     simpa using this
    rcases virt_comp hg i ops.toList[i] g (by simp) hi with hc | ⟨_, _, _, _, _, _, _, _, rfl⟩
    ·exact isCv_of hc (by simpa using List.all_eq_true.1 hall _ (List.getElem_mem hi2))
    ·rfl
   subst hdr1
   split at h
   ·rename_i hv
    cases mc <;> simp [MC.strip, MC.isSeal] at h hns
    subst h
    intro st outs he hpre n a w Q hR hQ
    simp only [evI] at he
    have hnoY : hasY (virt ops gl) = false := by
     unfold hasY
     rw [List.any_eq_false]
     intro g hg1
     obtain ⟨i, hi⟩ := List.getElem?_of_mem hg1
     rw [hcv i g hi]; simp
    rw [if_neg (by simp [hnoY])] at he
    rw [Option.map_eq_some_iff] at he
    obtain ⟨st', he, rfl⟩ := he
    obtain ⟨E, E1, w1, T, hs, hr, hyl, hx, hn, hS1, hK1, hT, hJx, hJ, hdf⟩ := hR
    have key : ∀ a' w' E', Slots E' w' st'.s a' → HRel E' st'.h w' → Ext (lkn st.ln) E w E' w' → a'.defers = a.defers → Q .normal a' w' := fun a' w' E' h1 h2 h3 h4 =>
     hQ _ List.mem_cons_self a' w' ⟨E', E1, w1, T, h1, h2, by rw [h3.yl]; exact hyl, hx.trans h3, hn, hS1, hK1, hT, hJx, hJ, h4.trans hdf⟩
    exact draw_okV hm hO hA hl0 (virt_comp hg) hv he hs hr key
   ·split at h
    case isFalse => exact bad _ mc h.symm
    rename_i hv2
    cases mc <;> simp [MC.strip, MC.isSeal] at h hns
    subst h
    intro st outs he hpre n a w Q hR hQ
    simp only [evI] at he
    have hnoY : hasY (newsL (ops.toList.zip (virt ops gl)) ++ (hoist ops (virt ops gl) ++ chks ops (hoist ops (virt ops gl)))) = false := by
     unfold hasY
     rw [List.any_eq_false]
     intro g hg1
     rcases List.mem_append.1 hg1 with h1 | h1
     ·obtain ⟨p, hp1, rfl⟩ := List.mem_map.1 h1
      obtain ⟨_, d, z, e⟩ := isH_iff (List.mem_filter.1 hp1).2
      rw [e]; simp [isCv]
     ·rcases List.mem_append.1 h1 with h1 | h1
      ·obtain ⟨i, hi⟩ := List.getElem?_of_mem h1
       simp only [hoist, List.getElem?_zipWith] at hi
       cases h2 : ops.toList[i]? with
       | none => rw [h2] at hi; cases hi
       | some o =>
        cases h3 : (virt ops gl)[i]? with
        | none => rw [h2, h3] at hi; cases hi
        | some g0 =>
         rw [h2, h3] at hi
         simp only [Option.some.injEq] at hi
         subst hi
         unfold hoG
         split
         ·split
          ·simp [isCv]
          ·rw [hcv i g0 h3]; simp
         ·rw [hcv i g0 h3]; simp
      ·unfold chks at h1
       simp only [List.mem_flatMap] at h1
       obtain ⟨i, _, j, _, h1⟩ := h1
       rw [List.mem_append] at h1
       rcases h1 with h1 | h1
       ·split at h1
        ·rw [List.mem_singleton] at h1; subst h1; simp [isCv]
        ·cases h1
       ·split at h1
        ·obtain ⟨q, _, rfl⟩ := List.mem_map.1 h1; simp [isCv]
        ·cases h1
    rw [if_neg (by simp [hnoY])] at he
    rw [Option.map_eq_some_iff] at he
    obtain ⟨st', he, rfl⟩ := he
    obtain ⟨E, E1, w1, T, hs, hr, hyl, hx, hn, hS1, hK1, hT, hJx, hJ, hdf⟩ := hR
    have key : ∀ a' w' E', Slots E' w' st'.s a' → HRel E' st'.h w' → Ext (lkn st.ln) E w E' w' → a'.defers = a.defers → Q .normal a' w' := fun a' w' E' h1 h2 h3 h4 =>
     hQ _ List.mem_cons_self a' w' ⟨E', E1, w1, T, h1, h2, by rw [h3.yl]; exact hyl, hx.trans h3, hn, hS1, hK1, hT, hJx, hJ, h4.trans hdf⟩
    exact draw_okH hm hO hA hl0 (virt_comp hg) hv2 he hs hr key
  rename_i hd
  cases mc <;> simp [MC.strip, MC.isSeal] at h hns
  subst h
  intro st outs he hpre n a w Q hR hQ
  simp only [evI] at he
  split at he
  ·rename_i hy2
   rw [Option.map_eq_some_iff] at he
   obtain ⟨l1, he, rfl⟩ := he
   cases draw with
   | false =>
    exact wpIn_region_list (evRI_ok hO hH hg he (fun st' h => hpre (.normal, st') (List.mem_map.2 ⟨st', h, rfl⟩)) hR fun st' h => hQ (.normal, st') (List.mem_map.2 ⟨st', h, rfl⟩))
   | true =>
    have hcv2 : ∀ (i : Nat) g (hi : i < ops.toList.length), gl[i]? = some g → isCallV ops.toList[i].op = false → isCv g.op = false := fun i g hi hgi hcl => isCv_of (q2 i ops.toList[i] g (by simp) hgi) hcl
    obtain ⟨g0, hg1, hg2⟩ := List.any_eq_true.1 hy2
    obtain ⟨i0, hi0⟩ := List.getElem?_of_mem hg1
    have hil0 : i0 < ops.toList.length := by rw [q1]; exact (List.getElem?_eq_some_iff.1 hi0).1
    rcases hno with h | h | ⟨_, hdk, hcvlt, hpre0, hw, hw2, hsq, hfa⟩
    ·exfalso
     have := hcv2 i0 g0 hil0 hi0 (by simpa using List.all_eq_true.1 h _ (List.getElem_mem hil0))
     rw [this] at hg2; cases hg2
    ·cases h
    ·generalize hcp : cvAt ops = p at *
     have hgll : gl.length = ops.size := by rw [← q1]; simp
     have hgl : gl = gl.take p ++ gl.drop p := (List.take_append_drop p gl).symm
     have hpl : (gl.take p).length = p := by rw [List.length_take]; omega
     have hpcv : ∀ g ∈ gl.take p, isCv g.op = false := fun g hg => by
      obtain ⟨i, hi⟩ := List.getElem?_of_mem hg
      have hil := (List.getElem?_eq_some_iff.1 hi).1
      rw [hpl] at hil
      have hi2 : i < ops.toList.length := by simp; omega
      refine hcv2 i g hi2 (by rw [List.getElem?_take, if_pos hil] at hi; exact hi) ?_
      have hm2 : ops.toList[i] ∈ ops.toList.take p := by
       have e : (ops.toList.take p)[i]? = some ops.toList[i] := by rw [List.getElem?_take, if_pos hil]; simp
       exact List.mem_of_getElem? e
      simpa using List.all_eq_true.1 hpre0 _ hm2
     have hgd := mapM_drop p hg
     generalize hpe : gl.take p = pre at *
     generalize gl.drop p = rest at *
     subst hgl
     subst hpl
     rw [evRI_pre pre rest st hpcv, Option.bind_eq_some_iff] at he
     obtain ⟨st1, he1, he2⟩ := he
     obtain ⟨E, E1, w1, T, hs, hr, hyl, hx, hn, hS1, hK1, hT, hJx, hJ, hdf⟩ := hR
     refine draw_last hm hO hA hgll hcvlt hfa hw hw2 hsq (fun i o go h1 h2 => q2 i o go (by simpa using h1) (by rw [List.getElem?_append_left (List.getElem?_eq_some_iff.1 h2).1]; exact h2)) hdk he1 hs hr fun a' w' E' h1 h2 h3 h4 => ?_
     have hdr : ops.toList.drop pre.length = ops[pre.length] :: ops.toList.drop (pre.length + 1) := by
      rw [List.drop_eq_getElem_cons (by simpa using hcvlt)]
      simp
     have key := evRI_ok (n := n) (Q := Q) hO hH hgd he2 (fun st' h => hpre (.normal, st') (List.mem_map.2 ⟨st', h, rfl⟩)) (a := a') (w := w') ⟨E', E1, w1, T, h1, h2, by rw [h3.yl]; exact hyl, hx.trans h3, hn, hS1, hK1, hT, hJx, hJ, h4.trans hdf⟩ fun st' h => hQ (.normal, st') (List.mem_map.2 ⟨st', h, rfl⟩)
     rw [hdr] at key
     unfold wpOpIn
     rw [Array.getElem?_eq_getElem hcvlt]
     exact key
  ·rw [Option.map_eq_some_iff] at he
   obtain ⟨st', he, rfl⟩ := he
   obtain ⟨E, E1, w1, T, hs, hr, hyl, hx, hn, hS1, hK1, hT, hJx, hJ, hdf⟩ := hR
   have key : ∀ a' w' E', Slots E' w' st'.s a' → HRel E' st'.h w' → Ext (lkn st.ln) E w E' w' → a'.defers = a.defers → Q .normal a' w' := fun a' w' E' h1 h2 h3 h4 =>
    hQ _ List.mem_cons_self a' w' ⟨E', E1, w1, T, h1, h2, by rw [h3.yl]; exact hyl, hx.trans h3, hn, hS1, hK1, hT, hJx, hJ, h4.trans hdf⟩
   cases draw with
   | false => exact wpIn_region_list (evR_ok hO hg he hs hr key)
   | true => exact draw_ok hm hO hA hg (by simpa using hd) he hs hr key
 | seq a b iha ihb =>
  intro mc h hy
  refine ungive (fun t m _ => codeI_seal) ?_ mc h
  clear h mc
  intro mc h hns
  simp only [seqY, Bool.and_eq_true, Option.isNone_iff_eq_none] at hy
  simp only [compC, mkSeq, hy.2] at h
  cases mc <;> simp [MC.strip, MC.isSeal] at h hns
  case mrk => intro st outs he; simp [evI] at he
  replace hy := hy.1
  intro st outs he hpre n a' w Q hR hQ
  simp only [evI] at he
  split at he
  case h_2 => cases he
  rename_i l1 hl1
  refine wpIn_seq (iha _ h.1 hy.1 st l1 hl1 (pre_cont (fun st outs h => evI_goes _ st outs h) he hpre) n a' w _ hR fun o ho a2 w2 hR2 => ?_)
  obtain ⟨r, h4, h5⟩ := bindL_some he o ho
  obtain ⟨x, st'⟩ := o
  cases x with
  | normal => exact ihb _ h.2 hy.2 st' r h4 (fun o ho => hpre o (h5 o ho)) n a2 w2 Q hR2 fun o ho => hQ o (h5 o ho)
  | exit id =>
   simp only [contI, Option.some.injEq] at h4
   subst h4
   exact hQ _ (h5 _ (by simp)) a2 w2 hR2
  | ret =>
   simp only [contI, Option.some.injEq] at h4
   subst h4
   exact hQ _ (h5 _ (by simp)) a2 w2 hR2
 | cond c a b iha ihb =>
  intro mc h hy
  refine ungive (fun t m _ => codeI_seal) ?_ mc h
  clear h mc
  intro mc h hns
  simp only [compC] at h
  split at h
  case h_2 => exact bad _ mc h.symm
  rename_i c' hc
  cases mc <;> simp [MC.strip, MC.isSeal] at h hns
  obtain ⟨rfl, h1, h2⟩ := h
  simp only [seqY, Bool.and_eq_true] at hy
  intro st outs he hpre n a' w Q hR hQ
  simp only [evI] at he
  obtain ⟨E, hrest⟩ := hR
  have hv := (hrest.choose_spec.choose_spec.choose_spec.1).x hc
  split at he
  case h_2 => cases he
  rename_i t ht
  rw [ht] at hv
  refine wpIn_cond hv.lit_eq ?_
  cases t
  ·exact ihb _ h2 hy.2 st outs he hpre n a' w Q ⟨E, hrest⟩ hQ
  ·exact iha _ h1 hy.1 st outs he hpre n a' w Q ⟨E, hrest⟩ hQ
 | block id b ih =>
  intro mc h hy
  refine ungive (fun t m _ => codeI_seal) ?_ mc h
  clear h mc
  intro mc h hns
  simp only [compC] at h; cases mc <;> simp [MC.strip, MC.isSeal] at h hns; obtain ⟨rfl, h⟩ := h
  simp only [seqY] at hy
  intro st outs he hpre n a' w Q hR hQ
  simp only [evI, Option.map_eq_some_iff] at he
  obtain ⟨l1, hl1, rfl⟩ := he
  have same : ∀ o : MX2 × ISt, (leaveB id o).2 = o.2 := fun o => by unfold leaveB; split; split <;> rfl; rfl
  refine wpIn_block (ih _ h hy st l1 hl1 (fun o ho hs => ?_) n a' w _ hR fun o ho a2 w2 hR2 => ?_)
  ·have := hpre _ (List.mem_map.2 ⟨o, ho, rfl⟩)
   rw [same] at this
   exact this hs
  ·have := hQ _ (List.mem_map.2 ⟨o, ho, rfl⟩) a2 w2 (by rw [same]; exact hR2)
   obtain ⟨x, st'⟩ := o
   cases x with
   | normal => simpa [leaveB, exitOf, Exit.inBlock] using this
   | ret => simpa [leaveB, exitOf, Exit.inBlock] using this
   | exit k =>
    by_cases e : k = id
    ·simpa [leaveB, exitOf, Exit.inBlock, e] using this
    ·simpa [leaveB, exitOf, Exit.inBlock, e] using this
 | loop b ih =>
  intro mc h hy
  refine ungive (fun t m _ => codeI_seal) ?_ mc h
  clear h mc
  intro mc h hns
  simp only [compC] at h; cases mc <;> simp [MC.strip, MC.isSeal] at h hns
  simp only [seqY] at hy
  rename_i keep mb
  intro st outs he hpre n a' w Q hR hQ
  simp only [evI] at he
  refine wpIn_loop_rounds N ?_
  have key : ∀ (M : Nat) (st1 : ISt) (outs1 : List (MX2 × ISt)) (a1 : Act) (w1 : World), roundsI (evI O N mb) M st1 = some outs1 → (∀ o ∈ outs1, o.2.stop = false → o.2.xs <+: full) → RelI l S J Jx st1 a1 w1 → (∀ o ∈ outs1, ∀ a' w', RelI l S J Jx o.2 a' w' → Q (exitOf o.1) a' w') →
    Code.roundsIn (Fw none) n P b Q M a1 w1 := by
   intro M
   induction M with
   | zero => intro st1 outs1 a1 w1 he; simp [roundsI] at he
   | succ M ihM =>
    intro st1 outs1 a1 w1 he hpre hR1 hQ1
    simp only [roundsI] at he
    split at he
    case h_2 => cases he
    rename_i l1 hl1
    rw [roundsIn_succ]
    refine ih _ h hy st1 l1 hl1 (pre_cont (fun st outs h => Goes.rounds (fun st outs h => evI_goes _ st outs h) M st outs h) he hpre) n a1 w1 _ hR1 fun o ho a2 w2 hR2 => ?_
    obtain ⟨r, h4, h5⟩ := bindL_some he o ho
    obtain ⟨x, st'⟩ := o
    cases x with
    | normal => exact ihM st' r a2 w2 h4 (fun o ho => hpre o (h5 o ho)) hR2 fun o ho => hQ1 o (h5 o ho)
    | exit id =>
     simp only [contI, Option.some.injEq] at h4
     subst h4
     exact hQ1 _ (h5 _ (by simp)) a2 w2 hR2
    | ret =>
     simp only [contI, Option.some.injEq] at h4
     subst h4
     exact hQ1 _ (h5 _ (by simp)) a2 w2 hR2
  exact key N st outs a' w he hpre hR hQ
 | rangeFunc f ps a b iha ihb =>
  intro mc h hy
  refine ungive (fun t m _ => codeI_seal) ?_ mc h
  clear h mc
  intro mc h hns
  simp only [compC] at h
  split at h
  case h_2 => exact bad _ mc h.symm
  cases mc <;> simp [MC.strip, MC.isSeal] at h hns
  intro st outs he
  simp [evI] at he
 | _ => intro mc h _; exact bad _ mc h.symm
end
end Go.Proofs.YtnmgpbihknjdjaaDoor
namespace Go.Proofs.YtnmgpbihknjdjaaDoor
open Go.RowKit
def outX : MX2 → Bool
 | .exit _ => false
 | _ => true
def itM (O : Oracle) (N : Nat) (mf : MF) (q : Nat) (caps : List MV) (h : MHeap) : Option (List (List MV)) :=
 let ids := caps.flatMap (MV.ids h 6)
 match caps.mapM (frz 0 ((List.range h.length).filter fun i => !ids.contains i) h 8) with
 | some cs => match mf.res, evI O N mf.body ⟨cs.take q ++ [.yld] ++ cs.drop q ++ List.replicate (mf.ntmps - (cs.length + 1)) (.lit undef), [], 0, [], false⟩ with
  | [], some outs => if outs.all fun o => outX o.1 then match outs.filter fun o => !o.2.stop with
    | [o] => if o.2.xs.all fun x => x.all MV.cl then some o.2.xs else none
    | _ => none
   else none
  | _, _ => none
 | none => none
def bodySeq (P : Program) (g : Nat) : Bool :=
 match P.funcs[g]? with
 | some fn => match fn.body with
  | some b => seqY P b
  | none => false
 | none => false
theorem SoundI_one {P : Program} {O : Oracle} {N : Nat} (hm : P.follows .mixedOrders = true) (hO : SoundO P O) (hA : AppO O) {g : Nat} {mf : MF} (hf : IsF P g mf) (hsq : bodySeq P g = true) {q : Nat} {caps : List MV} {h : MHeap} {xs : List (List MV)} (he : itM O N mf q caps h = some xs) :
  (∀ x ∈ xs, ∀ m ∈ x, m.cl = true) ∧ ∀ E w vs, HRel E h w → Vs E w caps vs →
  ∃ S : Nat → Prop, (∀ k, S k → E.S k ∨ ∃ id, id ∈ caps.flatMap (MV.ids h 6) ∧ E.K id ∧ 0 < E.cp id ∧ E.ρ id = k) ∧ IterK P g (vs.take q).toArray (vs.drop q).toArray (xs.map fun x => (x.map concV).toArray) S w := by
 obtain ⟨fn, b, h1, h2, h3, h4, h5⟩ := hf
 have hsb : seqY P b = true := by unfold bodySeq at hsq; rw [h1] at hsq; simp only [h2] at hsq; exact hsq
 unfold itM at he
 dsimp only at he
 split at he
 case h_2 => cases he
 rename_i cs hcs
 split at he
 case h_2 => cases he
 rename_i outs hres hev
 split at he
 case isFalse => cases he
 rename_i hout
 split at he
 case h_2 => cases he
 rename_i o hfil
 split at he
 case isFalse => cases he
 rename_i hcl
 cases he
 have hin : o ∈ outs ∧ o.2.stop = false := by
  have : o ∈ outs.filter fun o => !o.2.stop := by rw [hfil]; simp
  simpa using List.mem_filter.1 this
 have hone : ∀ p ∈ outs, p.2.stop = false → p = o := fun p hp hs => by
  have : p ∈ outs.filter fun o => !o.2.stop := List.mem_filter.2 ⟨hp, by simp [hs]⟩
  rw [hfil] at this
  simpa using this
 refine ⟨fun x hx m hmx => List.all_eq_true.1 (List.all_eq_true.1 hcl x hx) m hmx, fun E w vs hr hv => ⟨fun k => E.S k ∨ ∃ id, id ∈ caps.flatMap (MV.ids h 6) ∧ E.K id ∧ 0 < E.cp id ∧ E.ρ id = k, fun k hk => hk, ?_⟩⟩
 obtain ⟨S, hS⟩ : ∃ S : Nat → Prop, S = fun k => E.S k ∨ ∃ id, id ∈ caps.flatMap (MV.ids h 6) ∧ E.K id ∧ 0 < E.cp id ∧ E.ρ id = k := ⟨_, rfl⟩
 rw [← hS]
 intro l J Jx W hb ab abx hyield h0
 obtain ⟨Ei, hEi⟩ : ∃ Ei : Env, Ei = { E.res 0 with S := S, top := 0, yl := l } := ⟨_, rfl⟩
 have hVi : ∀ m v, V E w m v → m.lt 0 = true → V Ei w m v := fun m v hv hl => by
  have := V.resY l hv hl
  refine V.env ⟨fun b hb => ?_, fun id hk => ?_, ?_⟩ this
  ·rw [hEi, hS]; exact Or.inl hb
  ·rw [hEi]; exact ⟨hk, rfl, rfl, rfl, rfl, rfl, rfl, rfl⟩
  ·rw [hEi]
 have hck : CKd 0 w W := CKd.of_below hb
 obtain ⟨c1, c2⟩ := mapM_some hcs
 have hcv : Vs Ei W cs vs := ⟨by rw [← c1]; exact hv.1, fun i c v hc hx => by
  have hi : i < caps.length := by rw [c1]; exact (List.getElem?_eq_some_iff.1 hc).1
  have hci : caps[i]? = some caps[i] := by simp
  refine V.ck hck (frz_okG (Es := Ei) hr hVi (fun b hb => by rw [hEi, hS]; exact Or.inl hb) (fun id hk _ hni hc0 => ?_) 8 _ _ _ (hv.2 i _ v hci hx) (c2 i _ c hci hc))
  rw [hEi, hS]
  refine Or.inr ⟨id, ?_, hk, hc0, rfl⟩
  have hlt := hr.klt id hk
  refine Classical.byContradiction fun hn => hni (List.mem_filter.2 ⟨List.mem_range.2 hlt, ?_⟩)
  simpa using hn⟩
 have hSlt : ∀ k, S k → k < w.heap.size := fun k hk => by
  rw [hS] at hk
  rcases hk with hk | ⟨id, _, hk, hc, rfl⟩
  ·exact hr.slt k hk
  ·exact hr.lt hk hc
 have hri : HRel Ei [] W := ⟨fun id hk => by rw [hEi] at hk; exact absurd hk.2 (by omega), by rw [hEi]; exact Nat.le_refl _, fun id hk => by rw [hEi] at hk; exact absurd hk.2 (by omega), fun id _ hk => by rw [hEi] at hk; exact absurd hk.2 (by omega), fun id hk => by rw [hEi] at hk; exact absurd hk.2 (by omega), fun b hbS => by
  rw [hEi] at hbS
  exact Nat.lt_of_lt_of_le (hSlt b hbS) hb.size, fun p hp => (hVi p.1 p.2 (hr.tab p hp) (TABS_lt 0 p hp)).ck hck⟩
 have hargs : Vs Ei W (cs.take q ++ [.yld] ++ cs.drop q) (vs.take q ++ [.func (.yield l) #[] #[]] ++ vs.drop q) := by
  refine ((hcv.take q).append (Vs.cons ?_ ⟨rfl, fun i c v hc => by simp at hc⟩)).append (hcv.drop q)
  have : Ei.yl = l := by rw [hEi]
  rw [← this]
  exact .yld
 have hlen : (cs.take q ++ [MV.yld] ++ cs.drop q).length = cs.length + 1 := by simp; omega
 have hlen2 : (vs.take q ++ [Value.func (.yield l) #[] #[]] ++ vs.drop q).length = vs.length + 1 := by simp; omega
 have e1 : (vs.take q).toArray ++ #[Value.func (.yield l) #[] #[]] ++ (vs.drop q).toArray = (vs.take q ++ [Value.func (.yield l) #[] #[]] ++ vs.drop q).toArray := by apply Array.ext'; simp
 rw [e1]
 refine callsIn_of_wp h1 h2 trivial ?_ rfl
 refine compC_itok (full := o.2.xs) (l := l) (S := S) (J := J) (Jx := Jx) (N := N) hm hO hA ⟨ab, abx, hyield⟩ b mf.body h5 hsb _ outs hev (fun p hp hs => by rw [hone p hp hs]; exact List.prefix_refl _) 0 _ W _ ?_ fun p hp a' w' hR' => ?_
 ·refine ⟨Ei, Ei, W, fun _ => False, ⟨?_, fun i c v hc hcv' => ?_⟩, hri, by rw [hEi], Ext.refl _ _ _, fun id hk => by rw [hEi] at hk; exact hk.2, fun b hbS => .inl (by rw [hEi] at hbS; exact hbS), fun id hk => by rw [hEi] at hk; exact absurd hk.2 (by omega), fun b hb => hb.elim, (fun h => by cases h), (fun _ => h0), rfl⟩
  ·rw [List.length_append, hlen, h3]
   simp only [List.length_replicate, Array.size_append, List.size_toArray, hlen2, Array.size_replicate]
   rw [hcv.1]
  ·by_cases hi : i < cs.length + 1
   ·rw [List.getElem?_append_left (by rw [hlen]; exact hi)] at hc
    have hi' : i < (vs.take q ++ [Value.func (.yield l) #[] #[]] ++ vs.drop q).length := by rw [hlen2, ← hcv.1]; exact hi
    simp only [Array.getElem?_append, List.size_toArray, hi', if_true] at hcv'
    exact hargs.2 i c v hc (by simpa using hcv')
   ·rw [List.getElem?_append_right (by rw [hlen]; omega)] at hc
    have hi' : ¬ i < (vs.take q ++ [Value.func (.yield l) #[] #[]] ++ vs.drop q).length := by rw [hlen2, ← hcv.1]; exact hi
    simp only [Array.getElem?_append, List.size_toArray, hi', if_false] at hcv'
    rw [List.getElem?_replicate] at hc
    rw [Array.getElem?_replicate] at hcv'
    split at hc
    ·split at hcv'
     ·cases hc; cases hcv'; exact .lit _
     ·cases hcv'
    ·cases hc
 ·obtain ⟨E', E1, w1, T, k1, k2, k3, k4, k5, k6, k7, k8, k9, k10, k11⟩ := hR'
  have hbel := ext_below k4 k5
  have hrz : fn.results = #[] := by
   obtain ⟨rs0, h4, hr0⟩ := h4
   rw [hres] at hr0
   have hrs : rs0 = [] := by
    rcases hr0 with e | e
    ·exact e.symm
    ·cases rs0 with
     | nil => rfl
     | cons r rs => simp at e
   subst hrs
   have := (mapM_some h4).1
   simp at this
   exact this
  have hgo : (∃ v, Ending.returned (.tuple #[]) = .returned v) ∧ ((∃ T, J T (List.map (fun x => (List.map concV x).toArray) o.2.xs).length w') ∨ Jx w') := by
   refine ⟨⟨_, rfl⟩, ?_⟩
   cases hs : p.2.stop
   ·have := hone p hp hs
    subst this
    refine .inl ⟨T, ?_⟩
    rw [List.length_map]
    exact ab T T _ _ _ (k10 hs) hbel fun b h => .inl h
   ·exact .inr (abx _ _ (k9 hs) hbel)
  have hx := List.all_eq_true.1 hout p hp
  obtain ⟨x, st'⟩ := p
  cases x with
  | normal => exact bodyPost_end (results_none hrz _ _ _) k11 hgo
  | ret => exact bodyPost_ret (results_none hrz _ _ _) k11 hgo
  | exit id => simp [outX] at hx
structure Tab where
 mf : Nat → Option MF
 sq : Nat → Bool
def orI (M : Tab) (I0 : Iter) (O : Oracle) (N : Nat) : Iter := fun g q caps h =>
 match I0 g q caps h with
 | some xs => some xs
 | none => if M.sq g then match M.mf g with
  | some mf => itM O N mf q caps h
  | none => none else none
def TabOK (P : Program) (M : Tab) : Prop := ∀ f mf, M.mf f = some mf → hasBody P f = true ∧ IsF P f mf ∧ (M.sq f = true → bodySeq P f = true)
theorem orI_ok {P : Program} {M : Tab} (hm : P.follows .mixedOrders = true) (hM : TabOK P M) {I0 : Iter} (hI : SoundI P I0) {O : Oracle} (hO : SoundO P O) (hA : AppO O) {N : Nat} : SoundI P (orI M I0 O N) := by
 intro g q caps h xs he
 unfold orI at he
 split at he
 ·rename_i xs' hx
  cases he
  exact hI g q caps h xs hx
 ·split at he
  case isFalse => cases he
  rename_i hs
  split at he
  case h_2 => cases he
  rename_i mf hmf
  obtain ⟨k1, k2, k3⟩ := hM g mf hmf
  exact ⟨k1, SoundI_one hm hO hA k2 (k3 hs) he⟩
def noI : Iter := fun _ _ _ _ => none
theorem noI_ok (P : Program) : SoundI P noI := fun g q caps h xs he => by cases he
def tabOf (P : Program) : Tab := ⟨fun f => if hasBody P f then compF P f else none, bodySeq P⟩
theorem tabOf_ok (P : Program) : TabOK P (tabOf P) := fun f mf h => by
 simp only [tabOf] at h
 split at h
 ·rename_i hb
  exact ⟨hb, compF_isF h, fun h => h⟩
 ·cases h
end Go.Proofs.YtnmgpbihknjdjaaDoor
namespace Go.Proofs.YtnmgpbihknjdjaaDoor
open Go.RowKit
set_option linter.unusedVariables false
mutual
def MV.pure : MV → Bool
 | .lit _ | .junk => true
 | .agg cs => pureL cs
 | .tup vs => pureL vs
 | .fn _ _ cs => pureL cs
 | .sl [] => true
 | _ => false
def pureL : List MV → Bool
 | [] => true
 | v :: vs => v.pure && pureL vs
end
theorem pureL_at : ∀ {l : List MV}, pureL l = true → ∀ (i : Nat) m, l[i]? = some m → m.pure = true
 | [], h, i, m, hi => by simp at hi
 | v :: vs, h, 0, m, hi => by simp at hi; subst hi; simp only [pureL, Bool.and_eq_true] at h; exact h.1
 | v :: vs, h, i + 1, m, hi => by simp at hi; simp only [pureL, Bool.and_eq_true] at h; exact pureL_at h.2 i m hi
theorem V.pure {E E2 : Env} {w w2 : World} {m : MV} {v : Value} (hv : V E w m v) : m.pure = true → V E2 w2 m v := by
 induction hv with
 | junk v => exact fun _ => .junk v
 | lit v => exact fun _ => .lit v
 | agg cs vs hl _ ih => exact fun h => .agg cs vs hl fun i c v hc hx => ih i c v hc hx (by simp only [MV.pure] at h; exact pureL_at h i c hc)
 | tup cs vs hl _ ih => exact fun h => .tup cs vs hl fun i c v hc hx => ih i c v hc hx (by simp only [MV.pure] at h; exact pureL_at h i c hc)
 | fn f k cs vs hl _ ih => exact fun h => .fn f k cs vs hl fun i c v hc hx => ih i c v hc hx (by simp only [MV.pure] at h; exact pureL_at h i c hc)
 | sl es vs A cap sz hc hs hl _ _ _ =>
  intro h
  cases es with
  | nil => exact .sl [] vs A cap sz hc hs hl (fun i c v hc => by simp [flat] at hc) (fun h0 => absurd h0 (by simp))
  | cons e es => simp [MV.pure] at h
 | _ => intro h; simp [MV.pure] at h
theorem pure_cells {m : MV} (h : m.pure = true) : ∀ (i : Nat) c, m.cells[i]? = some c → c.pure = true := by
 intro i c hc
 cases m <;> simp only [MV.cells] at hc
 case agg cs => simp only [MV.pure] at h; exact pureL_at h i c hc
 all_goals
  cases i with
  | zero => simp at hc; subst hc; exact h
  | succ i => simp at hc
def sh1 (n : Nat) : MV → MV
 | .arr id i k g => .arr (id + n) i k g
 | m => m
def MV.isArr : MV → Bool
 | .arr _ _ _ _ => true
 | _ => false
attribute [simp] MV.isArr
def shV (n : Nat) : MV → MV
 | .tup vs => .tup (vs.map (sh1 n))
 | .agg cs => if cs.any MV.isArr then .agg (cs.map (sh1 n)) else .agg cs
 | m => sh1 n m
def ok1 (p : Bool) : MV → Bool
 | .arr _ _ _ _ => true
 | m => m.lt 0 && (p || m.pure)
def okV (p : Bool) : MV → Bool
 | .tup vs => vs.all (ok1 p)
 | .agg cs => if cs.any MV.isArr then cs.all (ok1 p) else ok1 p (.agg cs)
 | m => ok1 p m
def okH (p : Bool) (news : MHeap) : Bool := news.all fun o => ltL 0 o.es && (p || pureL o.es)
def frzCall (run : List MV → Option (MV × MHeap)) (args : List MV) (h : MHeap) : Option (MV × MHeap) :=
 match args.mapM (frz 0 [] h 8) with
 | some args' => match run args' with
  | some (m, news) => if okV (ltL 0 args) m && okH (ltL 0 args) news then some (shV h.length m, h ++ news) else none
  | none => none
 | none => none
def Post (E : Env) (w : World) (m : MV) (h' : MHeap) (e : Ending) (w' : World) : Prop := ∃ v E', e = .returned v ∧ V E' w' m v ∧ HRel E' h' w' ∧ Ext (fun _ => true) E w E' w'
theorem frz_lt0 {h : MHeap} {m m' : MV} (hl : m.lt 0 = true) (he : frz 0 [] h 8 m = some m') : m' = m := by
 simp [frz, hl] at he
 exact he.symm
theorem post_back {E : Env} {h : MHeap} {w : World} {S0 : Nat → Prop} {news : MHeap} {m : MV} {e : Ending} {w' : World} {p : Bool} (hr : HRel E h w) (h1 : ∀ b, E.S b → S0 b) (h2 : ∀ b, S0 b → E.S b ∨ ∃ id, E.K id ∧ 0 < E.cp id ∧ E.ρ id = b)
  (hp : p = true → ∀ b, S0 b → E.S b) (hm : okV p m = true) (hn : okH p news = true) (hP : Post { E with K := fun _ => False, S := S0, top := 0 } w m news e w') : Post E w (shV h.length m) (h ++ news) e w' := by
 obtain ⟨v, E1, rfl, hv1, hr1, hx1⟩ := hP
 have hnew : ∀ id, E1.K id → 0 < E1.cp id → w.heap.size ≤ E1.ρ id := fun id hk hc => by
  rcases hx1.src id hk hc with ⟨hf, _⟩ | hge
  ·exact hf.elim
  ·exact hge
 have hkeep : ∀ k, k < w.heap.size → w'.heap[k]? = w.heap[k]? := fun k hk => hx1.keep k hk fun id hf => hf.elim
 have hS1 : ∀ b, E1.S b → S0 b ∨ w.heap.size ≤ b := fun b hb => by
  rcases hx1.srcS b hb with hb | ⟨id, hf, _⟩ | hb
  ·exact .inl hb
  ·exact hf.elim
  ·exact .inr hb
 obtain ⟨E', hE'⟩ : ∃ E' : Env, E' = { S := fun b => E.S b ∨ (p = true ∧ E1.S b), K := fun id => E.K id ∨ (h.length ≤ id ∧ E1.K (id - h.length)), ρ := fun id => if id < h.length then E.ρ id else E1.ρ (id - h.length), bo := fun id => if id < h.length then E.bo id else E1.bo (id - h.length), cp := fun id => if id < h.length then E.cp id else E1.cp (id - h.length), sz := fun id => if id < h.length then E.sz id else E1.sz (id - h.length), gn := fun id => if id < h.length then E.gn id else E1.gn (id - h.length), ln := fun id => if id < h.length then E.ln id else E1.ln (id - h.length), nl := fun id => if id < h.length then E.nl id else E1.nl (id - h.length), top := E.top, yl := E.yl } := ⟨_, rfl⟩
 have eS : ∀ b, E'.S b ↔ E.S b ∨ (p = true ∧ E1.S b) := fun b => by rw [hE']
 have eK : ∀ id, E'.K id ↔ E.K id ∨ (h.length ≤ id ∧ E1.K (id - h.length)) := fun id => by rw [hE']
 have eold : ∀ id, E.K id → id < h.length ∧ E'.ρ id = E.ρ id ∧ E'.bo id = E.bo id ∧ E'.cp id = E.cp id ∧ E'.sz id = E.sz id ∧ E'.gn id = E.gn id ∧ E'.ln id = E.ln id ∧ E'.nl id = E.nl id := fun id hk => by
  have hl := hr.klt id hk
  rw [hE']; simp [hl]
 have enew : ∀ id, E'.ρ (id + h.length) = E1.ρ id ∧ E'.bo (id + h.length) = E1.bo id ∧ E'.cp (id + h.length) = E1.cp id ∧ E'.sz (id + h.length) = E1.sz id ∧ E'.gn (id + h.length) = E1.gn id ∧ E'.ln (id + h.length) = E1.ln id ∧ E'.nl (id + h.length) = E1.nl id := fun id => by
  have hl : ¬ id + h.length < h.length := by omega
  rw [hE']; simp [hl]
 have kcase : ∀ id, E'.K id → E.K id ∨ ∃ j, id = j + h.length ∧ E1.K j := fun id hk => by
  rcases (eK id).1 hk with hk | ⟨h1, h2⟩
  ·exact .inl hk
  ·exact .inr ⟨id - h.length, by omega, h2⟩
 have ey : E'.yl = E1.yl := by rw [hx1.yl, hE']
 have ey2 : E'.yl = E.yl := by rw [hE']
 have et : E'.top = E.top := by rw [hE']
 have hx : Ext (fun _ => true) E w E' w' := by
  refine ⟨hx1.os, hx1.tape, hx1.output, hx1.size, fun k hk _ => hkeep k hk, fun b hb => (eS b).2 (.inl hb), fun id hk => (eK id).2 (.inl hk), fun id hk => ?_, fun id hk _ => ?_, fun id hk hc => ?_, et, fun id hk => ?_, ey2, fun b hb => ?_⟩
  ·obtain ⟨_, a1, a2, a3, a4, a5, a6, a7⟩ := eold id hk
   exact ⟨by omega, fun _ => ⟨a1, a2, a3, a4, a6, a7⟩⟩
  ·exact (eold id hk).2.2.2.2.2.1
  ·rcases kcase id hk with hk | ⟨j, rfl, hk'⟩
   ·obtain ⟨_, a1, a2, a3, a4, a5, a6, a7⟩ := eold id hk
    exact .inl ⟨hk, by rw [← a3]; exact hc, a1⟩
   ·obtain ⟨a1, a2, a3, _⟩ := enew j
    rw [a1]
    exact .inr (hnew j hk' (by rw [← a3]; exact hc))
  ·rcases kcase id hk with hk | ⟨j, rfl, hk'⟩
   ·exact .inl hk
   ·exact .inr (by have := hr.top; omega)
  ·rcases (eS b).1 hb with hb | ⟨hp1, hb⟩
   ·exact .inl hb
   ·rcases hS1 b hb with hb | hb
    ·exact .inl (hp hp1 b hb)
    ·exact .inr (.inr hb)
 have hT : ∀ c x, V E1 w' c x → c.lt 0 = true → (p || c.pure) = true → V E' w' c x := fun c x hc hl hpc => by
  cases hpp : p
  ·rw [hpp] at hpc
   exact hc.pure (by simpa using hpc)
  ·exact V.env (E := E1.res 0) ⟨fun b hb => (eS b).2 (.inr ⟨hpp, hb⟩), fun id hk => absurd hk.2 (by omega), ey⟩ (hc.res hl)
 have hT1 : ∀ c x, V E1 w' c x → ok1 p c = true → V E' w' (sh1 h.length c) x := fun c x hc ho => by
  cases c with
  | arr id i k g =>
   cases hc with
   | arr _ _ _ _ A cap hk hg hd =>
    obtain ⟨a1, a2, a3, a4, a5, a6, a7⟩ := enew id
    refine .arr _ _ _ _ A cap ((eK _).2 (.inr ⟨by omega, by rw [Nat.add_sub_cancel]; exact hk⟩)) (by rw [a5]; exact hg) fun e => ?_
    rw [a1, a2, a3, a4, a6, a7]
    exact hd (by rw [← a5]; exact e)
  | _ =>
   simp only [ok1, Bool.and_eq_true] at ho
   exact hT _ x hc ho.1 ho.2
 have hV : V E' w' (shV h.length m) v := by
  cases m with
  | tup vs =>
   cases hv1 with
   | tup _ us hl hc =>
    refine .tup _ us (by simpa using hl) fun i c x hci hx => ?_
    rw [List.getElem?_map, Option.map_eq_some_iff] at hci
    obtain ⟨c0, h0, rfl⟩ := hci
    exact hT1 c0 x (hc i c0 x h0 hx) (List.all_eq_true.1 hm c0 (List.mem_of_getElem? h0))
  | agg cs =>
   simp only [okV] at hm
   simp only [shV]
   by_cases ha : cs.any MV.isArr = true
   ·rw [if_pos ha] at hm ⊢
    cases hv1 with
    | agg _ us hl hc =>
     refine .agg _ us (by simpa using hl) fun i c x hci hx => ?_
     rw [List.getElem?_map, Option.map_eq_some_iff] at hci
     obtain ⟨c0, h0, rfl⟩ := hci
     exact hT1 c0 x (hc i c0 x h0 hx) (List.all_eq_true.1 hm c0 (List.mem_of_getElem? h0))
   ·rw [if_neg ha] at hm ⊢
    exact hT1 (.agg cs) v hv1 hm
  | _ => exact hT1 _ v hv1 hm
 refine ⟨v, E', rfl, hV, ⟨fun id hk => ?_, ?_, fun id hk => ?_, fun i j hi hj ci cj e => ?_, fun id hk hc hb => ?_, fun b hb => ?_, fun p hp => (hr.tab p hp).ext hr hx⟩, hx⟩
 ·rcases kcase id hk with hk | ⟨j, rfl, hk'⟩
  ·have := hr.klt id hk; simp; omega
  ·have := hr1.klt j hk'; simp; omega
 ·rw [et]; have := hr.top; simp; omega
 ·rcases kcase id hk with hk | ⟨j, rfl, hk'⟩
  ·obtain ⟨es, o1, o2, o3, o4, o5⟩ := hr.obj id hk
   obtain ⟨hl, a1, a2, a3, a4, a5, a6, a7⟩ := eold id hk
   rw [a1, a2, a3, a4, a5, a6, a7]
   refine ⟨es, by rw [List.getElem?_append_left hl]; exact o1, o2, o3, o4, fun hc => ?_⟩
   obtain ⟨arr, t, b1, b2, b3⟩ := o5 hc
   refine ⟨arr, t, by rw [hkeep _ (hr.lt hk hc)]; exact b1, b2, fun k c hkc => ?_⟩
   obtain ⟨x, c1, c2⟩ := b3 k c hkc
   exact ⟨x, c1, c2.ext hr hx⟩
  ·obtain ⟨es, o1, o2, o3, o4, o5⟩ := hr1.obj j hk'
   obtain ⟨a1, a2, a3, a4, a5, a6, a7⟩ := enew j
   rw [a1, a2, a3, a4, a5, a6, a7]
   have hok : (ltL 0 es && (p || pureL es)) = true := List.all_eq_true.1 hn _ (List.mem_of_getElem? o1)
   simp only [Bool.and_eq_true, Bool.or_eq_true] at hok
   refine ⟨es, by rw [List.getElem?_append_right (by omega), Nat.add_sub_cancel]; exact o1, o2, o3, o4, fun hc => ?_⟩
   obtain ⟨arr, t, b1, b2, b3⟩ := o5 hc
   refine ⟨arr, t, b1, b2, fun k c hkc => ?_⟩
   obtain ⟨x, c1, c2⟩ := b3 k c hkc
   obtain ⟨ei, hei, hci⟩ := List.mem_flatMap.1 (List.mem_of_getElem? hkc)
   obtain ⟨i1, hi1⟩ := List.getElem?_of_mem hei
   obtain ⟨i2, hi2⟩ := List.getElem?_of_mem hci
   refine ⟨x, c1, hT c x c2 (lt_cells (ltL_at hok.1 i1 ei hi1) i2 c hi2) ?_⟩
   rcases hok.2 with hp1 | hp1
   ·simp [hp1]
   ·simp [pure_cells (pureL_at hp1 i1 ei hi1) i2 c hi2]
 ·rcases kcase i hi with hi | ⟨i', rfl, hi'⟩
  ·rcases kcase j hj with hj | ⟨j', rfl, hj'⟩
   ·obtain ⟨_, a1, _, a3, _⟩ := eold i hi
    obtain ⟨_, b1, _, b3, _⟩ := eold j hj
    rw [a3] at ci; rw [b3] at cj; rw [a1, b1] at e
    exact hr.inj i j hi hj ci cj e
   ·obtain ⟨_, a1, _, a3, _⟩ := eold i hi
    obtain ⟨b1, _, b3, _⟩ := enew j'
    rw [a3] at ci; rw [b3] at cj; rw [a1, b1] at e
    have := hr.lt hi ci
    have := hnew j' hj' cj
    omega
  ·rcases kcase j hj with hj | ⟨j', rfl, hj'⟩
   ·obtain ⟨a1, _, a3, _⟩ := enew i'
    obtain ⟨_, b1, _, b3, _⟩ := eold j hj
    rw [a3] at ci; rw [b3] at cj; rw [a1, b1] at e
    have := hr.lt hj cj
    have := hnew i' hi' ci
    omega
   ·obtain ⟨a1, _, a3, _⟩ := enew i'
    obtain ⟨b1, _, b3, _⟩ := enew j'
    rw [a3] at ci; rw [b3] at cj; rw [a1, b1] at e
    rw [hr1.inj i' j' hi' hj' ci cj e]
 ·rcases kcase id hk with hk | ⟨j, rfl, hk'⟩
  ·obtain ⟨_, a1, _, a3, _⟩ := eold id hk
   rw [a3] at hc; rw [a1] at hb
   have hlt := hr.lt hk hc
   rcases (eS _).1 hb with hb | ⟨hp1, hb⟩
   ·exact hr.sep id hk hc hb
   ·rcases hS1 _ hb with hb | hb
    ·exact hr.sep id hk hc (hp hp1 _ hb)
    ·omega
  ·obtain ⟨a1, _, a3, _⟩ := enew j
   rw [a3] at hc; rw [a1] at hb
   rcases (eS _).1 hb with hb | ⟨hp1, hb⟩
   ·have := hr.slt _ hb
    have := hnew j hk' hc
    omega
   ·exact hr1.sep j hk' hc hb
 ·rcases (eS _).1 hb with hb | ⟨hp1, hb⟩
  ·exact Nat.lt_of_lt_of_le (hr.slt b hb) hx1.size
  ·exact hr1.slt b hb
theorem frzCall_ok {P : Program} {f : Nat} {run : List MV → Option (MV × MHeap)} (hrun : ∀ args' m news, run args' = some (m, news) → ∀ E w vs, HRel E [] w → Vs E w args' vs → Calls P f vs.toArray w (Post E w m news))
  {args : List MV} {h h' : MHeap} {m : MV} (he : frzCall run args h = some (m, h')) {E : Env} {w : World} {vs : List Value} (hr : HRel E h w) (hv : Vs E w args vs) : Calls P f vs.toArray w (Post E w m h') := by
 unfold frzCall at he
 split at he
 case h_2 => cases he
 rename_i args' hargs
 split at he
 case h_2 => cases he
 rename_i m0 news hm
 split at he
 case isFalse => cases he
 rename_i hok
 simp only [Bool.and_eq_true] at hok
 cases he
 obtain ⟨q1, q2⟩ := mapM_some hargs
 by_cases hA : ltL 0 args = true
 ·rw [hA] at hok
  have hv' : Vs { E with K := fun _ => False, S := E.S, top := 0 } w args' vs := by
   refine ⟨by rw [← q1]; exact hv.1, fun i c x hc hx => ?_⟩
   have hi : i < args.length := by rw [q1]; exact (List.getElem?_eq_some_iff.1 hc).1
   have hci : args[i]? = some args[i] := by simp
   have hl := ltL_at hA i _ hci
   rw [frz_lt0 hl (q2 i _ c hci hc)]
   exact V.env (E := E.res 0) (E2 := { E with K := fun _ => False, S := E.S, top := 0 }) ⟨fun b hb => hb, fun id hk => absurd hk.2 (by omega), rfl⟩ ((hv.2 i _ x hci hx).res hl)
  have hri : HRel { E with K := fun _ => False, S := E.S, top := 0 } [] w := ⟨fun _ hk => hk.elim, Nat.le_refl _, fun _ hk => hk.elim, fun _ _ hk => hk.elim, fun _ hk => hk.elim, hr.slt, fun p hp => V.env (E := E.res 0) (E2 := { E with K := fun _ => False, S := E.S, top := 0 }) ⟨fun b hb => hb, fun id hk => absurd hk.2 (by omega), rfl⟩ ((hr.tab p hp).res (TABS_lt 0 p hp))⟩
  exact (hrun args' m0 news hm _ w vs hri hv').mono fun e w' hP => post_back hr (fun b hb => hb) (fun b hb => .inl hb) (fun _ b hb => hb) hok.1 hok.2 hP
 ·have hA' : ltL 0 args = false := by simpa using hA
  rw [hA'] at hok
  obtain ⟨S0, hS0⟩ : ∃ S0 : Nat → Prop, S0 = fun b => E.S b ∨ ∃ id, E.K id ∧ 0 < E.cp id ∧ E.ρ id = b := ⟨_, rfl⟩
  have hv' : Vs { E with K := fun _ => False, S := S0, top := 0 } w args' vs := by
   refine ⟨by rw [← q1]; exact hv.1, fun i c x hc hx => ?_⟩
   have hi : i < args.length := by rw [q1]; exact (List.getElem?_eq_some_iff.1 hc).1
   have hci : args[i]? = some args[i] := by simp
   refine frz_okG (Es := { E with K := fun _ => False, S := S0, top := 0 }) hr (fun m v hv hl => V.env (E := E.res 0) (E2 := { E with K := fun _ => False, S := S0, top := 0 }) ⟨fun b hb => (by rw [hS0]; exact .inl hb : S0 b), fun id hk => absurd hk.2 (by omega), rfl⟩ (hv.res hl)) (fun b hb => ?_) (fun id hk _ _ hc0 => ?_) 8 _ _ _ (hv.2 i _ x hci hx) (q2 i _ c hci hc)
   ·show S0 b
    rw [hS0]; exact .inl hb
   ·show S0 (E.ρ id)
    rw [hS0]; exact .inr ⟨id, hk, hc0, rfl⟩
  have hri : HRel { E with K := fun _ => False, S := S0, top := 0 } [] w := ⟨fun _ hk => hk.elim, Nat.le_refl _, fun _ hk => hk.elim, fun _ _ hk => hk.elim, fun _ hk => hk.elim, fun b hb => by
   have hb : S0 b := hb
   rw [hS0] at hb
   rcases hb with hb | ⟨id, hk, hc, rfl⟩
   ·exact hr.slt b hb
   ·exact hr.lt hk hc, fun p hp => V.env (E := E.res 0) (E2 := { E with K := fun _ => False, S := S0, top := 0 }) ⟨fun b hb => by show S0 b; rw [hS0]; exact .inl hb, fun id hk => absurd hk.2 (by omega), rfl⟩ ((hr.tab p hp).res (TABS_lt 0 p hp))⟩
  exact (hrun args' m0 news hm _ w vs hri hv').mono fun e w' hP => post_back hr (fun b hb => by rw [hS0]; exact .inl hb) (fun b hb => by rw [hS0] at hb; exact hb) (fun h => by cases h) hok.1 hok.2 hP
theorem frzCall_app {run : List MV → Option (MV × MHeap)} {args : List MV} {h h' : MHeap} {m : MV} (he : frzCall run args h = some (m, h')) : ∃ t, h' = h ++ t := by
 unfold frzCall at he
 split at he
 ·split at he
  ·split at he
   ·cases he; exact ⟨_, rfl⟩
   ·cases he
  ·cases he
 ·cases he
noncomputable def runZ (M : Tab) (O : Oracle) (I : Iter) (N f : Nat) (args : List MV) (h : MHeap) : Option (MV × MHeap) :=
 match M.mf f with
 | some mf => runF O I N mf args h
 | none => none
noncomputable def tabZ (M : Tab) (T O : Oracle) (I : Iter) (N f : Nat) (args : List MV) : Option (MV × MHeap) :=
 match T f args [] with
 | some r => some r
 | none => runZ M O I N f args []
noncomputable def orZ (M : Tab) (T : Oracle) (I0 : Iter) (N : Nat) : Nat → Oracle
 | 0, _, _, _ => none
 | k + 1, f, args, h => match frzCall (tabZ M T (orZ M T I0 N k) (orI M I0 (orZ M T I0 N k) N) N f) args h with
  | some r => some r
  | none => runZ M (orZ M T I0 N k) (orI M I0 (orZ M T I0 N k) N) N f args h
theorem runZ_ok {P : Program} {M : Tab} (hm : P.follows .mixedOrders = true) (hM : TabOK P M) {O : Oracle} {I : Iter} (hO : SoundO P O) (hA : AppO O) (hI : SoundI P I) {N f : Nat} {args : List MV} {h h' : MHeap} {m : MV} (he : runZ M O I N f args h = some (m, h')) :
  hasBody P f = true ∧ ∀ E w vs, HRel E h w → Vs E w args vs → Calls P f vs.toArray w (Post E w m h') := by
 unfold runZ at he
 split at he
 case h_2 => cases he
 rename_i mf hmf
 obtain ⟨k1, k2, k3⟩ := hM f mf hmf
 exact ⟨k1, fun E w vs hr hv => runF_ok hm hO hA hI k2 he hr hv⟩
theorem runZ_app {M : Tab} {O : Oracle} {I : Iter} {N f : Nat} {args : List MV} {h h' : MHeap} {m : MV} (he : runZ M O I N f args h = some (m, h')) : ∃ t, h' = h ++ t := by
 unfold runZ at he
 split at he
 case h_2 => cases he
 exact runF_app he
theorem tabZ_ok {P : Program} {M : Tab} (hm : P.follows .mixedOrders = true) (hM : TabOK P M) {T O : Oracle} {I : Iter} (hT : SoundO P T) (hO : SoundO P O) (hA : AppO O) (hI : SoundI P I) {N f : Nat} {args : List MV} {h' : MHeap} {m : MV} (he : tabZ M T O I N f args = some (m, h')) :
  hasBody P f = true ∧ ∀ E w vs, HRel E [] w → Vs E w args vs → Calls P f vs.toArray w (Post E w m h') := by
 unfold tabZ at he
 split at he
 ·rename_i r hr
  cases he
  exact hT.1 f args [] m h' hr
 ·exact runZ_ok hm hM hO hA hI he
theorem orZ_ok {P : Program} {M : Tab} (hm : P.follows .mixedOrders = true) (hM : TabOK P M) {T : Oracle} {I0 : Iter} (hT : SoundO P T) (hI : SoundI P I0) {N : Nat} : ∀ k, SoundO P (orZ M T I0 N k) ∧ AppO (orZ M T I0 N k)
 | 0 => ⟨⟨fun f args h m h' he => by simp [orZ] at he, hT.2⟩, fun f args h m h' he => by simp [orZ] at he⟩
 | k + 1 => by
  obtain ⟨h1, h2⟩ := orZ_ok (N := N) hm hM hT hI k
  have hI' : SoundI P (orI M I0 (orZ M T I0 N k) N) := orI_ok hm hM hI h1 h2
  refine ⟨⟨fun f args h m h' he => ?_, hT.2⟩, fun f args h m h' he => ?_⟩
  ·simp only [orZ] at he
   split at he
   ·rename_i r hr
    cases he
    have hb : hasBody P f = true := by
     unfold frzCall at hr
     split at hr
     case h_2 => cases hr
     split at hr
     case h_2 => cases hr
     rename_i hrun
     exact (tabZ_ok hm hM hT h1 h2 hI' hrun).1
    exact ⟨hb, fun E w vs hrl hv => frzCall_ok (fun args' m news hrun => (tabZ_ok hm hM hT h1 h2 hI' hrun).2) hr hrl hv⟩
   ·exact runZ_ok hm hM h1 h2 hI' he
  ·simp only [orZ] at he
   split at he
   ·rename_i r hr
    cases he
    exact frzCall_app hr
   ·exact runZ_app he
theorem orZ_call {M : Tab} {T : Oracle} {I0 : Iter} {N k f : Nat} {args args' : List MV} {h : MHeap} {m : MV} {news : MHeap} (h1 : args.mapM (frz 0 [] h 8) = some args') (h2 : tabZ M T (orZ M T I0 N k) (orI M I0 (orZ M T I0 N k) N) N f args' = some (m, news))
  (h3 : okV (ltL 0 args) m = true) (h4 : okH (ltL 0 args) news = true) : orZ M T I0 N (k + 1) f args h = some (shV h.length m, h ++ news) := by
 simp only [orZ, frzCall, h1, h2, h3, h4, Bool.and_self, if_true]
end Go.Proofs.YtnmgpbihknjdjaaDoor

/- Evaluation with open values: slots as a list of what is known, rules for control. -/
namespace Go.Proofs.YtnmgpbihknjdjaaDoor
open Go.RowKit
set_option linter.unusedVariables false
abbrev Sl := List (Nat × MV)
def look : Sl → Nat → Option MV
 | [], _ => none
 | (u, v) :: A, t => if t = u then some v else look A t
theorem look_cons (u : Nat) (v : MV) (A : Sl) (t : Nat) : look ((u, v) :: A) t = if t = u then some v else look A t := rfl
theorem look_here {u : Nat} {v : MV} {A : Sl} : look ((u, v) :: A) u = some v := if_pos rfl
structure SRel (n : Nat) (A : Sl) (s : List MV) : Prop where
 len : s.length = n
 get : ∀ t v, look A t = some v → s.getD t (.lit undef) = v
theorem SRel.put {n : Nat} {A : Sl} {s : List MV} (h : SRel n A s) {t : Nat} (ht : t < n) (v : MV) : SRel n ((t, v) :: A) (s.set t v) := by
 refine ⟨by rw [List.length_set, h.len], fun u x hu => ?_⟩
 rw [look_cons] at hu
 by_cases e : u = t
 ·subst e
  have hl := h.len
  rw [if_pos rfl] at hu
  cases hu
  simp [List.getD_eq_getElem?_getD, show u < s.length by omega]
 ·rw [if_neg e] at hu
  rw [← h.get u x hu]
  simp [List.getD_eq_getElem?_getD, show ¬ t = u from fun x => e x.symm]
def XV (A : Sl) : MX → MV → Prop
 | .s t, v => look A t = some v
 | .c c, v => c = v
theorem SRel.x {n : Nat} {A : Sl} {s : List MV} (h : SRel n A s) {x : MX} {v : MV} (hx : XV A x v) : MX.get s x = v := by
 cases x with
 | s t => exact h.get t v hx
 | c c => exact hx
def XVs (A : Sl) : List MX → List MV → Prop
 | [], vs => vs = []
 | x :: xs, vs => ∃ v us, vs = v :: us ∧ XV A x v ∧ XVs A xs us
theorem XVs.nil {A : Sl} : XVs A [] [] := rfl
theorem XVs.cons {A : Sl} {x : MX} {xs : List MX} {v : MV} {vs : List MV} (h : XV A x v) (hs : XVs A xs vs) : XVs A (x :: xs) (v :: vs) := ⟨v, vs, rfl, h, hs⟩
theorem SRel.xs {n : Nat} {A : Sl} {s : List MV} (h : SRel n A s) : ∀ {xs : List MX} {vs : List MV}, XVs A xs vs → xs.map (MX.get s) = vs
 | [], vs, hx => by cases hx; rfl
 | x :: xs, vs, hx => by
  obtain ⟨v, us, rfl, h1, h2⟩ := hx
  simp only [List.map_cons, h.x h1, h.xs h2]
structure Ef (O : Oracle) (I : Iter) (N n : Nat) (lk : Nat → Bool) (mc : MC) (A : Sl) (h : MHeap) (Q : MX2 → Sl → MHeap → Prop) : Prop where
 run : ∀ s, SRel n A s → ∃ x s' h', evC O I N mc lk ⟨s, h⟩ = some (x, ⟨s', h'⟩) ∧ ∃ A', SRel n A' s' ∧ Q x A' h'
section
variable {O : Oracle} {I : Iter} {N n : Nat} {lk : Nat → Bool} {A : Sl} {h : MHeap} {Q : MX2 → Sl → MHeap → Prop}
theorem Ef.mono {mc : MC} {Q' : MX2 → Sl → MHeap → Prop} (hE : Ef O I N n lk mc A h Q) (hQ : ∀ x A h, Q x A h → Q' x A h) : Ef O I N n lk mc A h Q' := .mk fun s hs => by
 obtain ⟨x, s', h', h1, A', h2, h3⟩ := hE.run s hs
 exact ⟨x, s', h', h1, A', h2, hQ _ _ _ h3⟩
inductive seqQ (O : Oracle) (I : Iter) (N n : Nat) (lk : Nat → Bool) (b : MC) (Q : MX2 → Sl → MHeap → Prop) : MX2 → Sl → MHeap → Prop
 | normal (A : Sl) (h : MHeap) : Ef O I N n lk b A h Q → seqQ O I N n lk b Q .normal A h
 | ret (A : Sl) (h : MHeap) : Q .ret A h → seqQ O I N n lk b Q .ret A h
 | exit (id : Nat) (A : Sl) (h : MHeap) : Q (.exit id) A h → seqQ O I N n lk b Q (.exit id) A h
inductive blockQ (id : Nat) (Q : MX2 → Sl → MHeap → Prop) : MX2 → Sl → MHeap → Prop
 | normal (A : Sl) (h : MHeap) : Q .normal A h → blockQ id Q .normal A h
 | ret (A : Sl) (h : MHeap) : Q .ret A h → blockQ id Q .ret A h
 | here (A : Sl) (h : MHeap) : Q .normal A h → blockQ id Q (.exit id) A h
 | there (k : Nat) (A : Sl) (h : MHeap) : k ≠ id → Q (.exit k) A h → blockQ id Q (.exit k) A h
theorem ef_skip (hQ : Q .normal A h) : Ef O I N n lk .skip A h Q := .mk fun s hs => ⟨_, s, h, rfl, A, hs, hQ⟩
theorem ef_ret (hQ : Q .ret A h) : Ef O I N n lk .ret A h Q := .mk fun s hs => ⟨_, s, h, rfl, A, hs, hQ⟩
theorem ef_exit {id : Nat} (hQ : Q (.exit id) A h) : Ef O I N n lk (.exit id) A h Q := .mk fun s hs => ⟨_, s, h, rfl, A, hs, hQ⟩
theorem ef_seq {a b : MC} (hE : Ef O I N n lk a A h (seqQ O I N n lk b Q)) : Ef O I N n lk (.seq a b) A h Q := .mk fun s hs => by
 obtain ⟨x, s', h', h1, A', h2, h3⟩ := hE.run s hs
 cases h3 with
 | normal _ _ h3 =>
  obtain ⟨y, s2, h2', k1, k2⟩ := h3.run s' h2
  exact ⟨y, s2, h2', by simp only [evC, h1, k1], k2⟩
 | exit id _ _ h3 => exact ⟨_, s', h', by simp only [evC, h1], A', h2, h3⟩
 | ret _ _ h3 => exact ⟨_, s', h', by simp only [evC, h1], A', h2, h3⟩
theorem ef_give {t id i o g : Nat} {b : MC} {h1 : MHeap} (ht : look A t = some (.ptr id i o g)) (hg : sealH lk h (.ptr id i o g) = some h1) (hE : Ef O I N n lk b A h1 Q) : Ef O I N n lk (.give t b) A h Q := .mk fun s hs => by
 obtain ⟨x, s', h', e1, A', h2, h3⟩ := hE.run s hs
 exact ⟨x, s', h', by simp only [evC, hs.get t _ ht, hg, e1], A', h2, h3⟩
theorem ef_givev {t id i k g : Nat} {b : MC} {v' : MV} {h1 : MHeap} (htn : Nat.blt t n = true) (ht : look A t = some (.arr id i k g)) (hg : giveV lk h (.arr id i k g) = some (v', h1)) (hE : Ef O I N n lk b ((t, v') :: A) h1 Q) : Ef O I N n lk (.give t b) A h Q := .mk fun s hs => by
 obtain ⟨x, s', h', e1, A', h2, h3⟩ := hE.run (s.set t v') (hs.put (by simpa [Nat.blt_eq] using htn) v')
 exact ⟨x, s', h', by simp only [evC, hs.get t _ ht, hg, e1], A', h2, h3⟩
theorem ef_block {id : Nat} {b : MC} (hE : Ef O I N n lk b A h (blockQ id Q)) : Ef O I N n lk (.block id b) A h Q := .mk fun s hs => by
 obtain ⟨x, s', h', h1, A', h2, h3⟩ := hE.run s hs
 cases h3 with
 | normal _ _ h3 => exact ⟨_, s', h', by simp only [evC, h1], A', h2, h3⟩
 | ret _ _ h3 => exact ⟨_, s', h', by simp only [evC, h1], A', h2, h3⟩
 | here _ _ h3 => exact ⟨.normal, s', h', by simp only [evC, h1, if_true], A', h2, h3⟩
 | there k _ _ hk h3 => exact ⟨.exit k, s', h', by simp only [evC, h1, if_neg hk], A', h2, h3⟩
theorem ef_cond {c : MX} {a b : MC} {t : Bool} (hc : XV A c (.lit (.bool t))) (h1 : t = true → Ef O I N n lk a A h Q) (h2 : t = false → Ef O I N n lk b A h Q) : Ef O I N n lk (.cond c a b) A h Q := .mk fun s hs => by
 have hc' := hs.x hc
 cases t
 ·obtain ⟨x, s', h', k1, k2⟩ := (h2 rfl).run s hs
  exact ⟨x, s', h', by simp only [evC, hc', Bool.false_eq_true, if_false, k1], k2⟩
 ·obtain ⟨x, s', h', k1, k2⟩ := (h1 rfl).run s hs
  exact ⟨x, s', h', by simp only [evC, hc', if_true, k1], k2⟩
theorem ef_condt {c : MX} {a b : MC} {t : Bool} (hc : XV A c (.lit (.bool t))) (ht : t = true) (h1 : Ef O I N n lk a A h Q) : Ef O I N n lk (.cond c a b) A h Q := ef_cond hc (fun _ => h1) fun e => by rw [ht] at e; cases e
theorem ef_condf {c : MX} {a b : MC} {t : Bool} (hc : XV A c (.lit (.bool t))) (ht : t = false) (h1 : Ef O I N n lk b A h Q) : Ef O I N n lk (.cond c a b) A h Q := ef_cond hc (fun e => by rw [ht] at e; cases e) fun _ => h1
theorem ef_nil (hQ : Q .normal A h) : Ef O I N n lk (.reg []) A h Q := .mk fun s hs => ⟨_, s, h, rfl, A, hs, hQ⟩
theorem ef_reg {g : GO} {os : List GO} (hE : ∀ s, SRel n A s → ∃ s1 h1 A1, evG lk O g ⟨s, h⟩ = some ⟨s1, h1⟩ ∧ SRel n A1 s1 ∧ Ef O I N n lk (.reg os) A1 h1 Q) : Ef O I N n lk (.reg (g :: os)) A h Q := .mk fun s hs => by
 obtain ⟨s1, h1, A1, e1, e2, e3⟩ := hE s hs
 obtain ⟨x, s', h', k1, k2⟩ := e3.run s1 e2
 refine ⟨x, s', h', ?_, k2⟩
 simp only [evC, Option.map_eq_some_iff] at k1 ⊢
 obtain ⟨st, k3, k4⟩ := k1
 exact ⟨st, by simp only [evR, e1, Option.bind_some, k3], k4⟩
theorem ef_op {t : Nat} {op : MO} {os : List GO} {v : MV} {h1 : MHeap} (he : ∀ s, SRel n A s → evO lk O s h op = some (v, h1)) (ht : Nat.blt t n = true) (hE : Ef O I N n lk (.reg os) ((t, v) :: A) h1 Q) : Ef O I N n lk (.reg (⟨none, some t, op⟩ :: os)) A h Q :=
 ef_reg fun s hs => ⟨s.set t v, h1, _, by simp only [evG, wantM, he s hs, if_true, putM], hs.put (by simpa [Nat.blt_eq] using ht) v, hE⟩
theorem ef_op0 {op : MO} {os : List GO} {v : MV} {h1 : MHeap} (he : ∀ s, SRel n A s → evO lk O s h op = some (v, h1)) (hE : Ef O I N n lk (.reg os) A h1 Q) : Ef O I N n lk (.reg (⟨none, none, op⟩ :: os)) A h Q :=
 ef_reg fun s hs => ⟨s, h1, _, by simp only [evG, wantM, he s hs, if_true, putM], hs, hE⟩
theorem wantM_x {s : List MV} (hs : SRel n A s) {u : Nat} {b x : Bool} (hg : look A u = some (.lit (.bool x))) : wantM s (some (u, b)) = some (x == b) := by
 simp only [wantM, hs.get u _ hg]
theorem ef_gy {u : Nat} {b : Bool} {t : Option Nat} {op : MO} {os : List GO} {x : Bool} (hg : look A u = some (.lit (.bool x))) (hx : x = b) (hE : Ef O I N n lk (.reg (⟨none, t, op⟩ :: os)) A h Q) : Ef O I N n lk (.reg (⟨some (u, b), t, op⟩ :: os)) A h Q := .mk fun s hs => by
 subst hx
 obtain ⟨y, s', h', k1, k2⟩ := hE.run s hs
 refine ⟨y, s', h', ?_, k2⟩
 simp only [evC, evR] at k1 ⊢
 have e1 : evG lk O ⟨some (u, x), t, op⟩ ⟨s, h⟩ = evG lk O ⟨none, t, op⟩ ⟨s, h⟩ := by
  simp only [evG, wantM_x hs hg, beq_self_eq_true]
  rfl
 rw [e1]; exact k1
theorem ef_gn {u t : Nat} {b x : Bool} {op : MO} {os : List GO} (hg : look A u = some (.lit (.bool x))) (hx : x = !b) (ht : Nat.blt t n = true)
  (hE : Ef O I N n lk (.reg os) ((t, .lit undef) :: A) h Q) : Ef O I N n lk (.reg (⟨some (u, b), some t, op⟩ :: os)) A h Q :=
 ef_reg fun s hs => ⟨s.set t (.lit undef), h, _, by
  simp only [evG, wantM_x hs hg, hx]
  cases b <;> simp [putM], hs.put (by simpa [Nat.blt_eq] using ht) _, hE⟩
theorem blockQ_there {id k : Nat} (hk : Nat.beq k id = false) (hE : Q (.exit k) A h) : blockQ id Q (.exit k) A h :=
 .there k _ _ (fun e => by subst e; have h2 : Nat.beq k k = true := Nat.beq_refl k; rw [h2] at hk; cases hk) hE
def Sub (B A : Sl) : Prop := ∀ t v, look B t = some v → look A t = some v
theorem Ef.sub {mc : MC} {B : Sl} (hE : Ef O I N n lk mc B h Q) (hk : Sub B A) : Ef O I N n lk mc A h Q := .mk fun s hs =>
 hE.run s ⟨hs.len, fun t v ht => hs.get t v (hk t v ht)⟩
def Hold (A : Sl) (l : Sl) : Prop := ∀ p ∈ l, look A p.1 = some p.2
theorem Hold.nil {A : Sl} : Hold A [] := fun _ h => by cases h
theorem Hold.cons {A : Sl} {t : Nat} {v : MV} {l : Sl} (h : look A t = some v) (hl : Hold A l) : Hold A ((t, v) :: l) := fun p hp => by
 rcases List.mem_cons.1 hp with rfl | hp
 ·exact h
 ·exact hl p hp
theorem Hold.sub {A B : Sl} (h : Hold A B) : Sub B A := by
 intro t v ht
 induction B with
 | nil => simp [look] at ht
 | cons p B ih =>
  obtain ⟨u, x⟩ := p
  rw [look_cons] at ht
  split at ht
  ·rename_i e
   cases ht
   subst e
   exact h _ List.mem_cons_self
  ·exact ih (fun p hp => h p (List.mem_cons_of_mem _ hp)) ht
theorem keepS_get' (keep : List Nat) : ∀ (s : List MV) (i t : Nat), (keepS keep i s)[t]? = (s[t]?).map fun v => if keep.contains (i + t) then v else .junk
 | [], i, t => by simp [keepS]
 | v :: s, i, 0 => by simp [keepS]
 | v :: s, i, t + 1 => by
  simp only [keepS, List.getElem?_cons_succ]
  rw [keepS_get' keep s (i + 1) t, show i + 1 + t = i + (t + 1) by omega]
theorem keepS_len' (keep : List Nat) : ∀ (s : List MV) (i : Nat), (keepS keep i s).length = s.length
 | [], i => rfl
 | v :: s, i => by simp [keepS, keepS_len' keep s]
theorem keepS_getD {keep : List Nat} {s : List MV} {t : Nat} (ht : t ∈ keep) : (keepS keep 0 s).getD t (.lit undef) = s.getD t (.lit undef) := by
 rw [List.getD_eq_getElem?_getD, keepS_get', List.getD_eq_getElem?_getD]
 cases s[t]? <;> simp [ht]
def headH (keep : List Nat) (m : Nat) (A : Sl) (h : MHeap) : Prop := h.length ≤ m ∨ ((∀ t ∈ keep, ∃ v, look A t = some v ∧ v.lt m = true) ∧ hltL m (h.take m) = true)
theorem ltL_iff' {n : Nat} : ∀ {l : List MV}, ltL n l = true ↔ ∀ m ∈ l, m.lt n = true
 | [] => by simp [ltL]
 | v :: l => by simp [ltL, ltL_iff' (l := l)]
theorem headM_take {keep : List Nat} {m : Nat} {s : List MV} (hs : SRel n A s) (hh : headH keep m A h) : headM keep m ⟨s, h⟩ = ⟨keepS keep 0 s, h.take m⟩ := by
 unfold headM
 dsimp only
 split
 ·rename_i hl
  rw [List.take_of_length_le hl]
 ·rename_i hl
  rcases hh with h1 | ⟨h1, h2⟩
  ·exact absurd h1 hl
  ·rw [if_pos]
   rw [Bool.and_eq_true]
   refine ⟨ltL_iff'.2 fun v hv => ?_, h2⟩
   obtain ⟨t, ht⟩ := List.getElem?_of_mem hv
   rw [keepS_get', Option.map_eq_some_iff] at ht
   obtain ⟨v0, h3, rfl⟩ := ht
   simp only [Nat.zero_add]
   split
   ·rename_i hc
    have hc' : t ∈ keep := by simpa using hc
    obtain ⟨v, q1, q2⟩ := h1 t hc'
    have := hs.get t v q1
    rw [List.getD_eq_getElem?_getD, h3] at this
    simp only [Option.getD_some] at this
    rw [this]
    exact q2
   ·rfl
inductive loopQ (R : Sl → MHeap → Prop) (Q : MX2 → Sl → MHeap → Prop) : MX2 → Sl → MHeap → Prop
 | normal (A : Sl) (h : MHeap) : R A h → loopQ R Q .normal A h
 | ret (A : Sl) (h : MHeap) : Q .ret A h → loopQ R Q .ret A h
 | exit (id : Nat) (A : Sl) (h : MHeap) : Q (.exit id) A h → loopQ R Q (.exit id) A h
theorem look_mem {t : Nat} {v : MV} : ∀ {B : Sl}, look B t = some v → t ∈ B.map (·.1)
 | [], ht => by simp [look] at ht
 | (u, x) :: B, ht => by
  rw [look_cons] at ht
  split at ht
  ·rename_i e; simp [e]
  ·simp [look_mem ht]
theorem ef_loop {α : Type} {keep : List Nat} {b : MC} (Inv : α → Prop) (hd : α → Sl) (hp : α → MHeap) (ms : α → Nat) (a0 : α) (ks : List Nat) (hks : ∀ a, (hd a).map (·.1) = ks) (hk : ks.all (fun t => keep.contains t) = true) (h0 : Inv a0) (hN : ms a0 < N)
  (hA : Hold A (hd a0)) (hH : hp a0 = h)
  (hb : ∀ a, Inv a → Ef O I N n lk b (hd a) (hp a) (loopQ (fun A' h' => ∃ a', Inv a' ∧ ms a' < ms a ∧ Hold A' (hd a') ∧ headH keep h.length A' h' ∧ h'.take h.length = hp a') Q)) : Ef O I N n lk (.loop keep b) A h Q := .mk fun s hs => by
 have key : ∀ (M : Nat) (a : α) (A1 : Sl) (s1 : List MV) (h1 : MHeap), Inv a → ms a < M → SRel n A1 s1 → Hold A1 (hd a) → headH keep h.length A1 h1 → h1.take h.length = hp a →
   ∃ x s' h', rounds (fun st' => evC O I N b lk (headM keep h.length st')) M ⟨s1, h1⟩ = some (x, ⟨s', h'⟩) ∧ ∃ A', SRel n A' s' ∧ Q x A' h' := by
  intro M
  induction M with
  | zero => intro a A1 s1 h1 _ hM; omega
  | succ M ih =>
   intro a A1 s1 h1 hI hM hs1 hA1 hh1 hh2
   have e1 := headM_take hs1 hh1
   rw [hh2] at e1
   obtain ⟨x, s', h', k1, A', k2, k3⟩ := (hb a hI).run (keepS keep 0 s1) ⟨by rw [keepS_len', hs1.len], fun t v ht => by
    have hmem : t ∈ keep := by
     have := look_mem ht
     rw [hks] at this
     simpa using List.all_eq_true.1 hk t this
    rw [keepS_getD hmem]
    exact hs1.get t v (hA1.sub t v ht)⟩
   cases k3 with
   | normal _ _ k3 =>
    obtain ⟨a', j1, j2, j3, j4, j5⟩ := k3
    obtain ⟨x, s2, h2, i1, i2⟩ := ih a' A' s' h' j1 (by omega) k2 j3 j4 j5
    exact ⟨x, s2, h2, by simp only [rounds, e1, k1]; exact i1, i2⟩
   | exit id _ _ k3 => exact ⟨_, s', h', by simp only [rounds, e1, k1], A', k2, k3⟩
   | ret _ _ k3 => exact ⟨_, s', h', by simp only [rounds, e1, k1], A', k2, k3⟩
 obtain ⟨x, s', h', k1, k2⟩ := key N a0 A s h h0 hN hs hA (.inl (Nat.le_refl _)) (by rw [List.take_length, hH])
 exact ⟨x, s', h', by simp only [evC]; exact k1, k2⟩
def finl (n : Nat) (ke : List Nat) (B : Sl) : List MV := (List.range n).map fun t => if t ∈ ke then (look B t).getD .junk else .junk
theorem finl_eq {n : Nat} {A B : Sl} {ke : List Nat} {s : List MV} {r d e : Nat} (hs : SRel n A s) (hAB : Hold A B) (hB1 : ∀ t ∈ ke, ∃ v, look B t = some v) (hB2 : ∀ t v, look B t = some v → t ∈ ke ∧ t < n ∧ t ≠ r ∧ t ≠ d ∧ t ≠ e) :
  (((keepS ke 0 s).set r .junk).set d .junk).set e .junk = finl n ke B := by
 have hl : ((((keepS ke 0 s).set r .junk).set d .junk).set e .junk).length = n := by simp [keepS_len', hs.len]
 refine List.ext_getElem? fun t => ?_
 by_cases ht : t < n
 ·have hlen : t < s.length := by rw [hs.len]; exact ht
  have e0 : (finl n ke B)[t]? = some (if t ∈ ke then (look B t).getD .junk else .junk) := by simp [finl, ht]
  rw [e0]
  by_cases hk : t ∈ ke
  ·obtain ⟨v, hv⟩ := hB1 t hk
   obtain ⟨_, _, n1, n2, n3⟩ := hB2 t v hv
   rw [if_pos hk, hv, List.getElem?_set_ne (Ne.symm n3), List.getElem?_set_ne (Ne.symm n2), List.getElem?_set_ne (Ne.symm n1), keepS_get', Option.getD_some]
   have := hs.get t v (hAB.sub t v hv)
   rw [List.getD_eq_getElem?_getD, List.getElem?_eq_getElem hlen, Option.getD_some] at this
   rw [List.getElem?_eq_getElem hlen, this]
   simp [hk]
  ·rw [if_neg hk]
   by_cases e3 : t = e
   ·subst e3; rw [List.getElem?_set_self (by simp [keepS_len']; exact hlen)]
   ·rw [List.getElem?_set_ne (Ne.symm e3)]
    by_cases e2 : t = d
    ·subst e2; rw [List.getElem?_set_self (by simp [keepS_len']; exact hlen)]
    ·rw [List.getElem?_set_ne (Ne.symm e2)]
     by_cases e1 : t = r
     ·subst e1; rw [List.getElem?_set_self (by simp [keepS_len']; exact hlen)]
     ·rw [List.getElem?_set_ne (Ne.symm e1), keepS_get', List.getElem?_eq_getElem hlen]
      simp [hk]
 ·rw [List.getElem?_eq_none (by rw [hl]; omega), List.getElem?_eq_none (by simp [finl]; omega)]
theorem finl_rel {n : Nat} {B : Sl} {ke : List Nat} {r d e : Nat} (hB2 : ∀ t v, look B t = some v → t ∈ ke ∧ t < n ∧ t ≠ r ∧ t ≠ d ∧ t ≠ e) : SRel n B (finl n ke B) := ⟨by simp [finl], fun t v ht => by
 obtain ⟨h1, h2, _⟩ := hB2 t v ht
 simp [finl, List.getD_eq_getElem?_getD, h1, h2, ht]⟩
theorem finl_lt {n L : Nat} {B : Sl} {ke : List Nat} (hB : ∀ t ∈ ke, ∃ v, look B t = some v ∧ v.lt L = true) : ltL L (finl n ke B) = true := ltL_iff'.2 fun v hv => by
 obtain ⟨t, _, rfl⟩ := List.mem_map.1 hv
 split
 ·rename_i hk
  obtain ⟨v, h1, h2⟩ := hB t hk
  rw [h1]; exact h2
 ·rfl
inductive mrQ (R : Sl → MHeap → Prop) (S : MX2 → Sl → MHeap → Prop) : MX2 → Sl → MHeap → Prop
 | normal (A : Sl) (h : MHeap) : R A h → mrQ R S .normal A h
 | ret (A : Sl) (h : MHeap) : S .ret A h → mrQ R S .ret A h
 | exit (id : Nat) (A : Sl) (h : MHeap) : S (.exit id) A h → mrQ R S (.exit id) A h
theorem nbeq {a b : Nat} (h : Nat.beq a b = false) : a ≠ b := fun e => by
 subst e
 have h2 : Nat.beq a a = true := Nat.beq_refl a
 rw [h2] at h; cases h
theorem ef_mr {keep ke : List Nat} {id r d e : Nat} {m : MX} {b : MC} {es : List MV} (hit : MV → Bool) (hd : List MV → Sl) (hp : List MV → MHeap) (x : MX2) (B : Sl) (h2 : MHeap)
  (hm : XV A m (.rm es)) (hes : es.all entP = true) (hr : Nat.blt r n = true) (hdn : Nat.blt d n = true) (hen : Nat.blt e n = true) (hrk : keep.contains r = false)
  (hks : ∀ p, ((hd p).map (·.1)).all (fun t => keep.contains t) = true)
  (hk : ∀ p l, (p ++ l).Perm es → (∀ c ∈ p, hit c = false) → (∀ t ∈ keep, ∃ v, look (hd p) t = some v ∧ v.lt h.length = true) ∧ hltL h.length (hp p) = true ∧ (hp p).length = h.length)
  (hA : Hold A (hd [])) (hH : hp [] = h)
  (hB : ∀ t ∈ ke, ∃ v, look B t = some v ∧ v.lt h.length = true) (hB2 : (B.map (·.1)).all (fun t => ke.contains t && (Nat.blt t n && (!Nat.beq t r && (!Nat.beq t d && !Nat.beq t e)))) = true) (hh2 : hltL h.length h2 = true) (hl2 : h2.length = h.length)
  (hfin : (∀ c ∈ es, hit c = false) → x = .normal ∧ ∀ p, p.Perm es → Hold (hd p) B ∧ hp p = h2)
  (hb : ∀ p k v l, (p ++ .tup [k, v] :: l).Perm es → (∀ c ∈ p, hit c = false) → Ef O I N n lk b ((e, .junk) :: (d, .junk) :: (r, .itr k v) :: hd p) (hp p) (mrQ (fun A' h' => hit (.tup [k, v]) = false ∧ (∃ k' v', look A' r = some (.itr k' v')) ∧ Hold A' (hd (p ++ [.tup [k, v]])) ∧ h'.take h.length = hp (p ++ [.tup [k, v]]))
   (fun y A' h' => hit (.tup [k, v]) = true ∧ (if y = .exit id then .normal else y) = x ∧ Hold A' B ∧ h'.take h.length = h2)))
  (hQ : Q x B h2) : Ef O I N n lk (.mr keep ke id m r d e b) A h Q := .mk fun s hs => by
 have hr' : r < n := by simpa [Nat.blt_eq] using hr
 have hd' : d < n := by simpa [Nat.blt_eq] using hdn
 have he' : e < n := by simpa [Nat.blt_eq] using hen
 have hBk : ∀ t v, look B t = some v → t ∈ ke ∧ t < n ∧ t ≠ r ∧ t ≠ d ∧ t ≠ e := fun t v ht => by
  have := List.all_eq_true.1 hB2 t (look_mem ht)
  simp only [Bool.and_eq_true, List.contains_iff_mem, Nat.blt_eq, Bool.not_eq_true'] at this
  exact ⟨this.1, this.2.1, nbeq this.2.2.1, nbeq this.2.2.2.1, nbeq this.2.2.2.2⟩
 have hB1 : ∀ t ∈ ke, ∃ v, look B t = some v := fun t ht => ⟨_, (hB t ht).choose_spec.1⟩
 have hkk : ∀ p t v, look (hd p) t = some v → t ∈ keep := fun p t v ht => by
  have := List.all_eq_true.1 (hks p) t (look_mem ht)
  simpa using this
 have fin : ∀ (y : MX2) (A1 : Sl) (s1 : List MV) (h1 : MHeap), SRel n A1 s1 → Hold A1 B → h1.take h.length = h2 → finS ke id h.length r d e (y, ⟨s1, h1⟩) = some (if y = .exit id then .normal else y, ⟨finl n ke B, h2⟩) := by
  intro y A1 s1 h1 hs1 hAB ht
  have e1 : headM ke h.length ⟨s1, h1⟩ = ⟨keepS ke 0 s1, h2⟩ := by
   rw [headM_take hs1 (.inr ⟨fun t hk => ?_, by rw [ht]; exact hh2⟩), ht]
   obtain ⟨v, q1, q2⟩ := hB t hk
   exact ⟨v, hAB.sub t v q1, q2⟩
  unfold finS
  dsimp only
  simp only [e1]
  rw [finl_eq hs1 hAB hB1 hBk, if_pos]
  simp only [clean, okLen, hl2, finl_lt hB, hh2, hs1.len, hr', hd', he', decide_true, Bool.and_self]
 have key : ∀ (l p : List MV) (A1 : Sl) (s1 : List MV) (h1 : MHeap), (p ++ l).Perm es → (∀ c ∈ p, hit c = false) → SRel n A1 s1 → Hold A1 (hd p) → h1.take h.length = hp p →
   (overS (roundS (evC O I N b lk) keep h.length r d e) l ⟨s1, h1⟩).bind (finS ke id h.length r d e) = some (x, ⟨finl n ke B, h2⟩) := by
  intro l
  induction l with
  | nil =>
   intro p A1 s1 h1 hpm hnh hs1 hA1 ht
   rw [List.append_nil] at hpm
   obtain ⟨rfl, hf⟩ := hfin fun c hc => hnh c (hpm.mem_iff.2 hc)
   obtain ⟨f1, f2⟩ := hf p hpm
   simp only [overS, Option.bind_some]
   rw [fin .normal A1 s1 h1 hs1 (fun q hq => hA1.sub _ _ (f1 q hq)) (ht.trans f2)]
   simp
  | cons c l ih =>
   intro p A1 s1 h1 hpm hnh hs1 hA1 ht
   obtain ⟨hk1, hk2, hlp⟩ := hk p (c :: l) hpm hnh
   have e1 : headM keep h.length ⟨s1, h1⟩ = ⟨keepS keep 0 s1, hp p⟩ := by
    rw [headM_take hs1 (.inr ⟨fun t hk => ?_, by rw [ht]; exact hk2⟩), ht]
    obtain ⟨v, q1, q2⟩ := hk1 t hk
    exact ⟨v, hA1.sub t v q1, q2⟩
   have hsk : SRel n (hd p) (keepS keep 0 s1) := ⟨by rw [keepS_len', hs1.len], fun t v ht => by
    rw [keepS_getD (hkk p t v ht)]
    exact hs1.get t v (hA1.sub t v ht)⟩
   have hcl : ltL (hp p).length (keepS keep 0 s1) = true := ltL_iff'.2 fun v hv => by
    obtain ⟨t, ht⟩ := List.getElem?_of_mem hv
    rw [keepS_get', Option.map_eq_some_iff] at ht
    obtain ⟨v0, h3, rfl⟩ := ht
    simp only [Nat.zero_add]
    split
    ·rename_i hc
     obtain ⟨v, q1, q2⟩ := hk1 t (by simpa using hc)
     have := hs1.get t v (hA1.sub t v q1)
     rw [List.getD_eq_getElem?_getD, h3, Option.getD_some] at this
     rw [this, hlp]; exact q2
    ·rfl
   rw [hlp] at hcl
   have hce : entP c = true := List.all_eq_true.1 hes c (hpm.mem_iff.1 (by simp))
   obtain ⟨k, v, rfl⟩ : ∃ k v, c = .tup [k, v] := by
    unfold entP at hce
    split at hce
    ·exact ⟨_, _, rfl⟩
    ·cases hce
   obtain ⟨y, s', h', k1, A', k2, k3⟩ := (hb p k v l hpm hnh).run ((((keepS keep 0 s1).set r (.itr k v)).set d .junk).set e .junk) (((hsk.put hr' _).put hd' _).put he' _)
   have hcok : (clean ⟨keepS keep 0 s1, hp p⟩ && okLen r d e s1) = true := by simp only [clean, okLen, hcl, hlp, hk2, hs1.len, hr', hd', he', decide_true, Bool.and_self]
   have hrn : y = .normal → isItr (s'.getD r (.lit undef)) = true → roundS (evC O I N b lk) keep h.length r d e (.tup [k, v]) ⟨s1, h1⟩ = some (.normal, ⟨s', h'⟩) := by
    intro hy hi
    subst hy
    unfold roundS
    simp only [e1]
    rw [if_pos hcok, k1]
    exact if_pos hi
   have hrx : (y = .normal → False) → roundS (evC O I N b lk) keep h.length r d e (.tup [k, v]) ⟨s1, h1⟩ = some (y, ⟨s', h'⟩) := by
    intro hy
    unfold roundS
    simp only [e1]
    rw [if_pos hcok, k1]
    cases y with
    | normal => exact (hy rfl).elim
    | exit id => rfl
    | ret => rfl
   have stop : (y = .normal → False) → hit (.tup [k, v]) = true ∧ (if y = .exit id then .normal else y) = x ∧ Hold A' B ∧ h'.take h.length = h2 → (overS (roundS (evC O I N b lk) keep h.length r d e) (.tup [k, v] :: l) ⟨s1, h1⟩).bind (finS ke id h.length r d e) = some (x, ⟨finl n ke B, h2⟩) := by
    intro hy ⟨g1, g2, g3, g4⟩
    have e2 : overS (roundS (evC O I N b lk) keep h.length r d e) (.tup [k, v] :: l) ⟨s1, h1⟩ = some (y, ⟨s', h'⟩) := by
     simp only [overS, hrx hy]
     cases y with
     | normal => exact (hy rfl).elim
     | exit id => rfl
     | ret => rfl
    rw [e2, Option.bind_some, fin y A' s' h' k2 g3 g4, g2]
   cases k3 with
   | normal _ _ k3 =>
    obtain ⟨g1, ⟨k', v', g2⟩, g3, g4⟩ := k3
    have e2 : roundS (evC O I N b lk) keep h.length r d e (.tup [k, v]) ⟨s1, h1⟩ = some (.normal, ⟨s', h'⟩) := hrn rfl (by rw [k2.get r _ g2]; rfl)
    simp only [overS, e2]
    refine ih (p ++ [.tup [k, v]]) A' s' h' (by simpa using hpm) (fun c hc => ?_) k2 g3 g4
    ·rcases List.mem_append.1 hc with hc | hc
     ·exact hnh c hc
     ·simp only [List.mem_singleton] at hc; rw [hc]; exact g1
   | ret _ _ k3 => exact stop (fun h => by cases h) k3
   | exit i _ _ k3 => exact stop (fun h => by cases h) k3
 refine ⟨x, finl n ke B, h2, ?_, B, finl_rel hBk, hQ⟩
 simp only [evC, hs.x hm]
 rw [if_pos ⟨by rw [hs.len]; exact hr', hes⟩]
 refine mrP_of fun es' hp' => ?_
 refine key es' [] ((r, .junk) :: A) (s.set r .junk) h (by simpa using hp') (fun c hc => by cases hc) (hs.put hr' _) (fun q hq => ?_) (by rw [List.take_length, hH])
 rw [look_cons, if_neg]
 ·exact hA q hq
 ·intro e'
  have h3 : q.1 ∈ keep := by
   have := List.all_eq_true.1 (hks []) q.1 (List.mem_map.2 ⟨q, hq, rfl⟩)
   simpa using this
  rw [e'] at h3
  simp at hrk
  exact hrk h3
def ResV (A : Sl) (h : MHeap) : MRes → MV → Prop
 | .tmp t, v => look A t = some v
 | .cell t ag, v => ∃ id i off g o e, look A t = some (.ptr id i off g) ∧ h[id]? = some o ∧ o.g = g ∧ o.es[i]? = some e ∧ rdCells e.cells off ag = some v
 | .cello _ _, _ => False
def ResVs (A : Sl) (h : MHeap) : List MRes → List MV → Prop
 | [], vs => vs = []
 | r :: rs, vs => ∃ v us, vs = v :: us ∧ ResV A h r v ∧ ResVs A h rs us
theorem ResVs.ok {s : List MV} (hs : SRel n A s) : ∀ {rs : List MRes} {vs : List MV}, ResVs A h rs vs → rs.mapM (resM s h) = some vs
 | [], vs, hr => by cases hr; rfl
 | r :: rs, vs, hr => by
  obtain ⟨v, us, rfl, h1, h2⟩ := hr
  have e1 : resM s h r = some v := by
   cases r with
   | tmp t => simp only [resM, hs.get t v h1]
   | cell t ag =>
    obtain ⟨id, i, off, g, o, e, q1, q2, q3, q4, q5⟩ := h1
    simp only [resM, hs.get t _ q1, q2, q3, if_true, q4, q5]
   | cello t ag => exact h1.elim
  simp only [List.mapM_cons, e1, ResVs.ok hs h2]
  rfl
theorem ResVs.opn : ∀ {rs : List MRes} {vs : List MV}, ResVs A h rs vs → opn rs vs = vs ∧ ∀ vs', clo rs vs vs' = oneOf vs'
 | [], vs, hr => by cases hr; exact ⟨rfl, fun _ => rfl⟩
 | r :: rs, vs, hr => by
  obtain ⟨v, us, rfl, h1, h2⟩ := hr
  cases r with
  | cello t ag => exact h1.elim
  | tmp t => exact ⟨rfl, fun _ => rfl⟩
  | cell t ag => exact ⟨rfl, fun _ => rfl⟩
def argsL : Nat → List MV → Sl
 | _, [] => []
 | i, v :: vs => (i, v) :: argsL (i + 1) vs
theorem look_args : ∀ (l : List MV) (i t : Nat) (v : MV), look (argsL i l) t = some v → i ≤ t ∧ l[t - i]? = some v
 | [], i, t, v, h => by simp [argsL, look] at h
 | x :: l, i, t, v, h => by
  rw [argsL, look_cons] at h
  split at h
  ·rename_i e; subst e; cases h; simp
  ·rename_i e
   obtain ⟨h1, h2⟩ := look_args l (i + 1) t v h
   refine ⟨by omega, ?_⟩
   obtain ⟨k, hk⟩ : ∃ k, t - i = k + 1 := ⟨t - i - 1, by omega⟩
   rw [hk, List.getElem?_cons_succ, ← show t - (i + 1) = k by omega]
   exact h2
def FinF (rs : List MRes) (m : MV) (news : MHeap) (x : MX2) (A : Sl) (h : MHeap) : Prop := outX x = true ∧ ∃ vs vs', ResVs A h rs vs ∧ (impIds 0 vs).Nodup ∧ expL 0 (impIds 0 vs) h vs 0 = some (vs', news) ∧ oneOf vs' = m
theorem runZ_of {M : Tab} {f : Nat} {rs : List MRes} {b : MC} {args : List MV} {m : MV} {news : MHeap} (hmf : M.mf f = some ⟨n, rs, b⟩) (hn : args.length ≤ n)
  (hE : Ef O I N n (fun _ => false) b (argsL 0 args) [] (FinF rs m news)) : runZ M O I N f args [] = some (m, news) := by
 obtain ⟨x, s', h', k1, A', k2, hx, vs, vs', r1, r2, r3, r4⟩ := hE.run (args ++ List.replicate (n - args.length) (.lit undef)) ⟨by simp; omega, fun t v ht => by
  obtain ⟨_, h1⟩ := look_args _ _ _ _ ht
  rw [Nat.sub_zero] at h1
  have hl := (List.getElem?_eq_some_iff.1 h1).1
  rw [List.getD_eq_getElem?_getD, List.getElem?_append_left hl, h1]
  rfl⟩
 unfold runZ
 rw [hmf]
 unfold runF
 have elk : (fun id => decide (id < ([] : MHeap).length)) = fun _ => false := by funext id; simp
 dsimp only
 rw [elk, k1]
 have hx' : x = .ret ∨ x = .normal := by cases x <;> simp [outX] at hx <;> simp
 dsimp only
 obtain ⟨o1, o2⟩ := r1.opn
 rw [if_pos hx', ResVs.ok k2 r1]
 simp only [List.length_nil, o1, o2, r2, if_true, r3, r4, List.nil_append]
theorem fin1 {x : MX2} {v v' : MV} {t : Nat} (hx : outX x = true) (hv : look A t = some v) (hl : v.lt 0 = true) (he : v = v') : FinF [.tmp t] v' [] x A h := by
 subst he
 refine ⟨hx, [v], [v], ⟨v, [], rfl, hv, rfl⟩, ?_, ?_, rfl⟩
 ·cases v <;> first | (simp [MV.lt] at hl; done) | simp [impIds]
 ·have hi : impIds 0 [v] = [] := by
   cases v <;> first | (simp [MV.lt] at hl; done) | simp [impIds]
  rw [hi]
  cases v <;> first | (simp [MV.lt] at hl; done) | simp [expL, frz, hl]
theorem fin2 {x : MX2} {a b : Value} {m : MV} {t u : Nat} (hx : outX x = true) (hv : look A t = some (.lit a)) (hw : look A u = some (.lit b)) (he : MV.tup [.lit a, .lit b] = m) : FinF [.tmp t, .tmp u] m [] x A h := by
 subst he
 exact ⟨hx, [.lit a, .lit b], [.lit a, .lit b], ⟨_, _, rfl, hv, _, _, rfl, hw, rfl⟩, by simp [impIds], by simp [expL, frz, MV.lt], rfl⟩
theorem hdl_nil {m : Nat} : ∀ t ∈ ([] : List Nat), ∃ v, look A t = some v ∧ v.lt m = true := fun t ht => by cases ht
theorem hdl_cons {m t : Nat} {v : MV} {ks : List Nat} (h : look A t = some v) (hl : v.lt m = true) (hs : ∀ t ∈ ks, ∃ v, look A t = some v ∧ v.lt m = true) : ∀ u ∈ t :: ks, ∃ v, look A u = some v ∧ v.lt m = true := fun u hu => by
 rcases List.mem_cons.1 hu with rfl | hu
 ·exact ⟨v, h, hl⟩
 ·exact hs u hu
theorem fin_arr {x : MX2} {t id i k k' g : Nat} {o : MObj} {es : List MV} {sz : Nat} {nl : Bool} (hx : outX x = true) (hv : look A t = some (.arr id i k g)) (ho : h[id]? = some o) (hg : o.g = g) (hk : i + k ≤ o.es.length) (hl : ltL 0 o.es = true) (he : (o.es.drop i).take k = es) (hz : o.sz = sz) (hn : o.nl = nl) (hkk : k = k') :
  FinF [.tmp t] (.arr 0 0 k' 0) [⟨0, nl, sz, es⟩] x A h := by
 subst he hz hn hkk
 refine ⟨hx, [.arr id i k g], [.arr 0 0 k 0], ⟨_, [], rfl, hv, rfl⟩, ?_, ?_, rfl⟩
 ·simp [impIds]
 ·simp [expL, ho, hg, hk, hl]
end
end Go.Proofs.YtnmgpbihknjdjaaDoor
namespace Go.Proofs.YtnmgpbihknjdjaaDoor
open Go.RowKit
set_option linter.unusedVariables false
def isPt : MV → Bool
 | .ptr .. => true
 | .rp .. => true
 | .fn .. => true
 | _ => false
abbrev I64 (n : Int) : MV := .lit (.int .i64 n)
abbrev Bo (b : Bool) : MV := .lit (.bool b)
section
variable {O : Oracle} {I : Iter} {N n : Nat} {lk : Nat → Bool} {A : Sl} {h : MHeap} {Q : MX2 → Sl → MHeap → Prop} {t : Nat} {os : List GO}
theorem SRel.parts {α β : Type} {s : List MV} {f : α → MX} {g : α → MV → β} (hs : SRel n A s) : ∀ {ps : List α} {vs : List MV}, XVs A (ps.map f) vs → (ps.map fun p => g p (MX.get s (f p))) = (ps.zip vs).map fun q => g q.1 q.2
 | [], vs, h => by cases h; rfl
 | p :: ps, vs, h => by
  obtain ⟨v, us, rfl, h1, h2⟩ := h
  simp only [List.map_cons, List.zip_cons_cons, hs.x h1, hs.parts h2]
def XLo (A : Sl) : Option MX → Int → Prop
 | none, l => l = 0
 | some x, l => XV A x (.lit (.int .i64 l))
theorem SRel.lo {s : List MV} (hs : SRel n A s) {lo : Option MX} {l : Int} (h : XLo A lo l) : ((lo.map (MX.get s)).map intOf?).getD (some 0) = some l := by
 cases lo with
 | none => cases h; rfl
 | some x => simp [hs.x h, intOf?]
variable (ht : Nat.blt t n = true)
include ht
theorem ef_mv {x : MX} {v : MV} (hx : XV A x v) (hE : Ef O I N n lk (.reg os) ((t, v) :: A) h Q) : Ef O I N n lk (.reg (⟨none, some t, .mv x⟩ :: os)) A h Q :=
 ef_op (fun S HS => by simp only [evO, HS.x hx]) ht hE
theorem ef_nil0 {sz : Nat} (hE : Ef O I N n lk (.reg os) ((t, .arr h.length 0 0 0) :: A) (h ++ [⟨0, true, sz, []⟩]) Q) : Ef O I N n lk (.reg (⟨none, some t, .nil0 sz⟩ :: os)) A h Q :=
 ef_op (fun S HS => by simp only [evO]) ht hE
theorem ef_nilck {x : MX} {v : MV} (hx : XV A x v) (hv : isPt v = true) (hE : Ef O I N n lk (.reg os) ((t, v) :: A) h Q) : Ef O I N n lk (.reg (⟨none, some t, .nilck x⟩ :: os)) A h Q :=
 ef_op (fun S HS => by simp only [evO, HS.x hx]; cases v <;> simp [isPt] at hv <;> rfl) ht hE
theorem ef_pick {c x y : MX} {b : Bool} {v : MV} (hc : XV A c (.lit (.bool b))) (hv : XV A (bif b then x else y) v) (hE : Ef O I N n lk (.reg os) ((t, v) :: A) h Q) : Ef O I N n lk (.reg (⟨none, some t, .pick c x y⟩ :: os)) A h Q :=
 ef_op (fun s hs => by simp only [evO, hs.x hc]; cases b <;> simp only [cond_true, cond_false] at hv <;> simp [hs.x hv]) ht hE
theorem ef_new {z : MV} (hE : Ef O I N n lk (.reg os) ((t, .ptr h.length 0 0 0) :: A) (h ++ [⟨0, false, z.cells.length, [z]⟩]) Q) : Ef O I N n lk (.reg (⟨none, some t, .new z⟩ :: os)) A h Q :=
 ef_op (fun S HS => by simp only [evO]) ht hE
theorem ef_box {sz : Nat} {x : MX} {v : MV} (hx : XV A x v) (hv : v.cells.length = sz) (hv2 : v.cOk = true) (hE : Ef O I N n lk (.reg os) ((t, .ptr h.length 0 0 0) :: A) (h ++ [⟨0, false, sz, [v]⟩]) Q) : Ef O I N n lk (.reg (⟨none, some t, .box sz x⟩ :: os)) A h Q :=
 ef_op (fun S HS => by simp only [evO, HS.x hx, hv, hv2, and_self, if_true]) ht hE
theorem ef_build {z : List MV} {ps : List (Nat × Nat × MX)} {vs cs : List MV} (hv : XVs A (ps.map (·.2.2)) vs) (h1 : fillM z ((ps.zip vs).map fun q => (q.1.1, q.2.cells)) = some cs) (h2 : (ps.zip vs).all (fun q => q.2.cells.length == q.1.2.1 && q.2.cOk) = true)
  (hE : Ef O I N n lk (.reg os) ((t, .agg cs) :: A) h Q) : Ef O I N n lk (.reg (⟨none, some t, .build z ps⟩ :: os)) A h Q :=
 ef_op (fun s hs => by
  have e1 := hs.parts (f := fun p : Nat × Nat × MX => p.2.2) (g := fun p v => (p.1, v.cells)) hv
  have e2 := hs.parts (f := fun p : Nat × Nat × MX => p.2.2) (g := fun p v => v.cells.length == p.2.1 && v.cOk) hv
  simp only [evO, e1, h1]
  have e3 : ps.all (fun p => (p.2.2.get s).cells.length == p.2.1 && (p.2.2.get s).cOk) = true := by
   rw [List.all_eq_true] at h2 ⊢
   intro p hp
   have hm : ((p.2.2.get s).cells.length == p.2.1 && (p.2.2.get s).cOk) ∈ ps.map fun p => ((p.2.2.get s).cells.length == p.2.1 && (p.2.2.get s).cOk) := List.mem_map.2 ⟨p, hp, rfl⟩
   rw [e2] at hm
   obtain ⟨q, hq, e⟩ := List.mem_map.1 hm
   rw [← e]
   exact h2 q hq
  rw [if_pos e3]) ht hE
theorem ef_bsl {z : MV} {sz len : Nat} {ps : List (Nat × MX)} {vs es : List MV} (hv : XVs A (ps.map (·.2)) vs) (h1 : setAtM (List.replicate len z) sz ((ps.zip vs).map fun q => (q.1.1, q.2)) = some es)
  (hE : Ef O I N n lk (.reg os) ((t, .arr h.length 0 len 0) :: A) (h ++ [⟨0, false, sz, es⟩]) Q) : Ef O I N n lk (.reg (⟨none, some t, .bsl z sz len ps⟩ :: os)) A h Q :=
 ef_op (fun s hs => by
  have e1 := hs.parts (f := fun p : Nat × MX => p.2) (g := fun p v => (p.1, v)) hv
  simp only [evO, e1, h1]) ht hE
theorem ef_vsl {z : MV} {sz len : Nat} {ps : List (Nat × MX)} {vs es : List MV} (hv : XVs A (ps.map (·.2)) vs) (h1 : setAtM (List.replicate len z) sz ((ps.zip vs).map fun q => (q.1.1, q.2)) = some es) (h2 : es.isEmpty = false)
  (hE : Ef O I N n lk (.reg os) ((t, .sl es) :: A) h Q) : Ef O I N n lk (.reg (⟨none, some t, .vsl z sz len ps⟩ :: os)) A h Q :=
 ef_op (fun s hs => by
  have e1 := hs.parts (f := fun p : Nat × MX => p.2) (g := fun p v => (p.1, v)) hv
  simp only [evO, e1, h1, h2, Bool.false_eq_true, if_false]) ht hE
theorem ef_shf {op : BinOp} {x y : MX} {k k' : IntKind} {a b : Int} {v : Value} (hx : XV A x (.lit (.int k a))) (hy : XV A y (.lit (.int k' b))) (hv : shfI op k a b = some v) (hE : Ef O I N n lk (.reg os) ((t, .lit v) :: A) h Q) : Ef O I N n lk (.reg (⟨none, some t, .shf op x y⟩ :: os)) A h Q :=
 ef_op (fun S HS => by simp only [evO, HS.x hx, HS.x hy, hv, Option.map_some]) ht hE
theorem ef_ldr {ag : Option Nat} {x : MX} {e v : MV} {off : Nat} (hx : XV A x (.rp e off)) (hv : rdCells e.cells off ag = some v) (hE : Ef O I N n lk (.reg os) ((t, v) :: A) h Q) : Ef O I N n lk (.reg (⟨none, some t, .ld ag x⟩ :: os)) A h Q :=
 ef_op (fun S HS => by simp only [evO, HS.x hx, hv, Option.map_some]) ht hE
theorem ef_ldp {ag : Option Nat} {x : MX} {e v : MV} {id i off g : Nat} {o : MObj} (hx : XV A x (.ptr id i off g)) (ho : h[id]? = some o) (hg : o.g = g) (he : o.es[i]? = some e) (hv : rdCells e.cells off ag = some v) (hE : Ef O I N n lk (.reg os) ((t, v) :: A) h Q) : Ef O I N n lk (.reg (⟨none, some t, .ld ag x⟩ :: os)) A h Q :=
 ef_op (fun S HS => by simp only [evO, HS.x hx, ho, hg, he, hv, Option.map_some, if_true]) ht hE
theorem ef_bin {op : BinOp} {x y : MX} {k : IntKind} {a b : Int} {v : Value} (hx : XV A x (.lit (.int k a))) (hy : XV A y (.lit (.int k b))) (hv : binI op k a b = some v) (hE : Ef O I N n lk (.reg os) ((t, .lit v) :: A) h Q) : Ef O I N n lk (.reg (⟨none, some t, .bin op x y⟩ :: os)) A h Q :=
 ef_op (fun S HS => by simp only [evO, HS.x hx, HS.x hy, hv, Option.map_some, if_true]) ht hE
theorem ef_eqa {m : Nat} {neg b : Bool} {x y : MX} {ps qs : List MV} (hx : XV A x (.agg ps)) (hy : XV A y (.agg qs)) (hb : litEqK (kindsOf m) ps qs = some b) (hE : Ef O I N n lk (.reg os) ((t, .lit (.bool (negIf neg b))) :: A) h Q) : Ef O I N n lk (.reg (⟨none, some t, .eqa m neg x y⟩ :: os)) A h Q :=
 ef_op (fun S HS => by simp only [evO, HS.x hx, HS.x hy, hb, Option.map_some]) ht hE
theorem ef_not {x : MX} {b c : Bool} (hx : XV A x (.lit (.bool b))) (hc : (!b) = c) (hE : Ef O I N n lk (.reg os) ((t, .lit (.bool c)) :: A) h Q) : Ef O I N n lk (.reg (⟨none, some t, .un .not x⟩ :: os)) A h Q :=
 ef_op (fun S HS => by subst hc; simp only [evO, HS.x hx]) ht hE
theorem ef_notT {x : MX} (hx : XV A x (.lit (.bool true))) (hE : Ef O I N n lk (.reg os) ((t, .lit (.bool false)) :: A) h Q) : Ef O I N n lk (.reg (⟨none, some t, .un .not x⟩ :: os)) A h Q :=
 ef_not (ht := ht) hx rfl hE
theorem ef_notF {x : MX} (hx : XV A x (.lit (.bool false))) (hE : Ef O I N n lk (.reg os) ((t, .lit (.bool true)) :: A) h Q) : Ef O I N n lk (.reg (⟨none, some t, .un .not x⟩ :: os)) A h Q :=
 ef_not (ht := ht) hx rfl hE
theorem ef_cv {x : MX} {k k' : IntKind} {a c : Int} (hx : XV A x (.lit (.int k' a))) (hc : k.wrap a = c) (hE : Ef O I N n lk (.reg os) ((t, .lit (.int k c)) :: A) h Q) : Ef O I N n lk (.reg (⟨none, some t, .cv k x⟩ :: os)) A h Q :=
 ef_op (fun S HS => by simp only [evO, HS.x hx, hc]) ht hE
theorem ef_mf {f k : Nat} {cs : List MX} {vs : List MV} (hv : XVs A cs vs) (hE : Ef O I N n lk (.reg os) ((t, .fn f k vs) :: A) h Q) : Ef O I N n lk (.reg (⟨none, some t, .mf f k cs⟩ :: os)) A h Q :=
 ef_op (fun s hs => by simp only [evO, hs.xs hv]) ht hE
theorem ef_fap {off : Nat} {x : MX} {id i o g : Nat} (hx : XV A x (.ptr id i o g)) (hE : Ef O I N n lk (.reg os) ((t, .ptr id i (o + off) g) :: A) h Q) : Ef O I N n lk (.reg (⟨none, some t, .fa off x⟩ :: os)) A h Q :=
 ef_op (fun S HS => by simp only [evO, HS.x hx]) ht hE
theorem ef_far {off : Nat} {x : MX} {e : MV} {o : Nat} (hx : XV A x (.rp e o)) (hE : Ef O I N n lk (.reg os) ((t, .rp e (o + off)) :: A) h Q) : Ef O I N n lk (.reg (⟨none, some t, .fa off x⟩ :: os)) A h Q :=
 ef_op (fun S HS => by simp only [evO, HS.x hx]) ht hE
theorem ef_ias {sz : Nat} {x i : MX} {es : List MV} {kk : IntKind} {k : Int} {e : MV} (hx : XV A x (.sl es)) (hi : XV A i (.lit (.int kk k))) (h0 : 0 ≤ k) (he : es[k.toNat]? = some e) (hs : e.cells.length = sz) (hE : Ef O I N n lk (.reg os) ((t, .rp e 0) :: A) h Q) : Ef O I N n lk (.reg (⟨none, some t, .ia sz x i⟩ :: os)) A h Q :=
 ef_op (fun S HS => by simp only [evO, HS.x hx, HS.x hi, intOf?, h0, if_true, he, Option.bind_some, hs]) ht hE
theorem ef_iaa {sz : Nat} {x i : MX} {id j m g : Nat} {kk : IntKind} {k : Int} (hx : XV A x (.arr id j m g)) (hi : XV A i (.lit (.int kk k))) (h0 : 0 ≤ k) (h1 : k < m) (hs : MHeap.ok h id g sz = true) (hE : Ef O I N n lk (.reg os) ((t, .ptr id (j + k.toNat) 0 g) :: A) h Q) : Ef O I N n lk (.reg (⟨none, some t, .ia sz x i⟩ :: os)) A h Q :=
 ef_op (fun S HS => by simp only [evO, HS.x hx, HS.x hi, intOf?, h0, h1, hs, and_self, if_true]) ht hE
theorem ef_iaap {sz len : Nat} {x i : MX} {id j o g : Nat} {kk : IntKind} {k : Int} (hx : XV A x (.ptr id j o g)) (hi : XV A i (.lit (.int kk k))) (h0 : 0 ≤ k) (h1 : k < len) (hE : Ef O I N n lk (.reg os) ((t, .ptr id j (o + k.toNat * sz) g) :: A) h Q) : Ef O I N n lk (.reg (⟨none, some t, .iaa sz len x i⟩ :: os)) A h Q :=
 ef_op (fun S HS => by simp only [evO, HS.x hx, HS.x hi, intOf?, h0, h1, and_self, if_true]) ht hE
theorem ef_ext {x : MX} {i : Nat} {vs : List MV} {v : MV} (hx : XV A x (.tup vs)) (hv : vs[i]? = some v) (hE : Ef O I N n lk (.reg os) ((t, v) :: A) h Q) : Ef O I N n lk (.reg (⟨none, some t, .ext x i⟩ :: os)) A h Q :=
 ef_op (fun S HS => by simp only [evO, HS.x hx, hv, Option.map_some]) ht hE
theorem ef_call {f : Nat} {as_ : List MX} {vs : List MV} {v : MV} {h1 : MHeap} (ha : XVs A as_ vs) (ho : O f vs h = some (v, h1)) (hE : Ef O I N n lk (.reg os) ((t, v) :: A) h1 Q) : Ef O I N n lk (.reg (⟨none, some t, .call f as_⟩ :: os)) A h Q :=
 ef_op (fun s hs => by simp only [evO, hs.xs ha, ho]) ht hE
theorem ef_callv {x : MX} {f k : Nat} {caps : List MV} {as_ : List MX} {us vs : List MV} {v : MV} {h1 : MHeap} (hx : XV A x (.fn f k caps)) (ha : XVs A as_ us) (hu : caps.take k ++ us ++ caps.drop k = vs) (ho : O f vs h = some (v, h1)) (hE : Ef O I N n lk (.reg os) ((t, v) :: A) h1 Q) : Ef O I N n lk (.reg (⟨none, some t, .callv x as_⟩ :: os)) A h Q :=
 ef_op (fun s hs => by simp only [evO, hs.x hx, hs.xs ha, hu, ho]) ht hE
theorem ef_mkm (hE : Ef O I N n lk (.reg os) ((t, .mp h.length 0) :: A) (h ++ [⟨0, true, 1, [.tup []]⟩]) Q) : Ef O I N n lk (.reg (⟨none, some t, .mkm⟩ :: os)) A h Q :=
 ef_op (fun s hs => by simp only [evO]) ht hE
theorem ef_ent {x : MX} {k v : MV} (hx : XV A x (.itr k v)) (hE : Ef O I N n lk (.reg os) ((t, .tup [k, v]) :: A) h Q) : Ef O I N n lk (.reg (⟨none, some t, .ent x⟩ :: os)) A h Q :=
 ef_op (fun s hs => by simp only [evO, hs.x hx]) ht hE
theorem ef_len {x : MX} {v : MV} {m : Nat} (hx : XV A x v) (hm : v.slen = some m) (hE : Ef O I N n lk (.reg os) ((t, .lit (.int .i64 m)) :: A) h Q) : Ef O I N n lk (.reg (⟨none, some t, .len x⟩ :: os)) A h Q :=
 ef_op (fun S HS => by simp only [evO, HS.x hx, hm]) ht hE
theorem ef_app0 {sz : Nat} {s x : MX} {v : MV} {id i m g : Nat} {o : MObj} (hs : XV A s (.arr id i m g)) (hx : XV A x v) (hv : v.elems h = some []) (ho : h[id]? = some o) (hg : o.g = g) (hm : i + m = o.es.length) (hz : o.sz = sz)
  (hE : Ef O I N n lk (.reg os) ((t, .arr id i m g) :: A) h Q) : Ef O I N n lk (.reg (⟨none, some t, .app sz s x⟩ :: os)) A h Q :=
 ef_op (fun S HS => by simp only [evO, HS.x hs, HS.x hx, hv, ho, hg, hm, hz, and_self, if_true]) ht hE
theorem ef_app {sz : Nat} {s x : MX} {v : MV} {id i m g : Nat} {o : MObj} {e : MV} {xs : List MV} (hs : XV A s (.arr id i m g)) (hx : XV A x v) (hv : v.elems h = some (e :: xs)) (ho : h[id]? = some o) (hg : o.g = g) (hm : i + m = o.es.length) (hz : o.sz = sz) (hl : o.es.length + (e :: xs).length ≤ 4000000)
  (hk : (e :: xs).all (MV.sOk sz) = true) (hlk : lk id = false)
  (hE : Ef O I N n lk (.reg os) ((t, .arr id 0 (m + (e :: xs).length) (g + 1)) :: A) (h.set id ⟨g + 1, false, sz, o.es.drop i ++ (e :: xs)⟩) Q) : Ef O I N n lk (.reg (⟨none, some t, .app sz s x⟩ :: os)) A h Q :=
 ef_op (fun S HS => by simp only [evO, HS.x hs, HS.x hx, hv, ho, hg, hm, hz, hl, hk, hlk, and_self, if_true, reduceCtorEq, if_false]) ht hE
theorem ef_appn {sz : Nat} {s x : MX} {v : MV} {e : MV} {xs : List MV} (hs : XV A s (.lit (.slice none 0 0))) (hx : XV A x v) (hv : v.elems h = some (e :: xs)) (hl : (e :: xs).length ≤ 4000000)
  (hk : (e :: xs).all (MV.sOk sz) = true)
  (hE : Ef O I N n lk (.reg os) ((t, .arr h.length 0 (e :: xs).length 0) :: A) (h ++ [⟨0, false, sz, e :: xs⟩]) Q) : Ef O I N n lk (.reg (⟨none, some t, .app sz s x⟩ :: os)) A h Q :=
 ef_op (fun S HS => by simp only [evO, HS.x hs, HS.x hx, hv, hl, hk, and_self, if_true, reduceCtorEq, if_false]) ht hE
theorem ef_mx {x y : MX} {k k' : IntKind} {a b : Int} (hx : XV A x (.lit (.int k a))) (hy : XV A y (.lit (.int k' b))) (hE : Ef O I N n lk (.reg os) ((t, .lit (.int k (mx a b))) :: A) h Q) : Ef O I N n lk (.reg (⟨none, some t, .mx x y⟩ :: os)) A h Q :=
 ef_op (fun S HS => by simp only [evO, HS.x hx, HS.x hy]; rfl) ht hE
theorem ef_mn {x y : MX} {k k' : IntKind} {a b : Int} (hx : XV A x (.lit (.int k a))) (hy : XV A y (.lit (.int k' b))) (hE : Ef O I N n lk (.reg os) ((t, .lit (.int k (mn a b))) :: A) h Q) : Ef O I N n lk (.reg (⟨none, some t, .mn x y⟩ :: os)) A h Q :=
 ef_op (fun S HS => by simp only [evO, HS.x hx, HS.x hy]; rfl) ht hE
omit ht
theorem ef_mup {c : Nat} {m k x : MX} {v : MV} {id g : Nat} {ps es : List MV} {r : Option (Nat × MV)} (hm : XV A m (.mp id g)) (hk : XV A k (.agg ps)) (hx : XV A x v) (hes : (MV.mp id g).ents h = some es) (hl : ps.length = c) (hlk : lk id = false) (hko : keysOk ps es = true) (hpl : v.plain = true) (hf : mfind ps es 0 = some r)
  (hE : Ef O I N n lk (.reg os) A (h.set id ⟨g, true, 1, [.tup (mset es (.tup [.agg ps, v]) r)]⟩) Q) : Ef O I N n lk (.reg (⟨none, none, .mup c m k x⟩ :: os)) A h Q :=
 ef_op0 (v := .lit undef) (fun s hs => by simp only [evO, hs.x hm, hs.x hk, hs.x hx, hes, hl, hlk, hko, hpl, and_self, if_true, hf]) hE
theorem ef_st {sz : Nat} {a x : MX} {v : MV} {id i off g : Nat} {o : MObj} {e e' : MV} (hx : XV A x v) (hk : v.sOk sz = true) (ha : XV A a (.ptr id i off g)) (ho : h[id]? = some o) (hg : o.g = g) (hlk : lk id = false) (he : o.es[i]? = some e) (hw : wrElem e off v = some e')
  (hE : Ef O I N n lk (.reg os) A (h.set id { o with es := o.es.set i e' }) Q) : Ef O I N n lk (.reg (⟨none, none, .st sz a x⟩ :: os)) A h Q :=
 ef_op0 (v := .lit undef) (fun S HS => by simp only [evO, HS.x hx, hk, HS.x ha, ho, hg, hlk, he, hw, and_self, if_true]) hE
end
theorem ef_ne {O : Oracle} {I : Iter} {N n : Nat} {lk : Nat → Bool} {A : Sl} {h : MHeap} {Q : MX2 → Sl → MHeap → Prop} {os : List GO} {x y : MX} {v u : MV} (hx : XV A x v) (hy : XV A y u) (hd : neB v u = true) (hE : Ef O I N n lk (.reg os) A h Q) : Ef O I N n lk (.reg (⟨none, none, .ne x y⟩ :: os)) A h Q :=
 ef_op0 (v := .lit undef) (fun s hs => by simp only [evO, hs.x hx, hs.x hy, hd, if_true]) hE
theorem wrap_of {a : Int} (h1 : -9223372036854775808 ≤ a) (h2 : a ≤ 9223372036854775807) : IntKind.i64.wrap a = a := IntWalk.i64_in _ (by omega)
theorem bin_add {a b c : Int} (h : IntKind.i64.wrap (a + b) = c) : binI .add .i64 a b = some (.int .i64 c) := by rw [← h]; rfl
theorem bin_sub {a b c : Int} (h : IntKind.i64.wrap (a - b) = c) : binI .sub .i64 a b = some (.int .i64 c) := by rw [← h]; rfl
theorem bin_mul {a b c : Int} (h : IntKind.i64.wrap (a * b) = c) : binI .mul .i64 a b = some (.int .i64 c) := by rw [← h]; rfl
theorem rd_sub {cs vs : List MV} {off m : Nat} (hl : vs.length = m) (hp : 0 < vs.length) (h : ∀ i, i < m → cs[off + i]? = vs[i]?) : rdCells cs off (some m) = some (.agg vs) := by
 subst hl
 have hle : off + vs.length ≤ cs.length := by
  have := h (vs.length - 1) (by omega)
  have h2 : vs[vs.length - 1]? = some (vs[vs.length - 1]'(by omega)) := List.getElem?_eq_getElem (by omega)
  rw [h2] at this
  have := (List.getElem?_eq_some_iff.1 this).1
  omega
 simp only [rdCells, if_pos hle]
 congr 2
 refine List.ext_getElem? fun i => ?_
 rw [List.getElem?_take]
 split
 ·rename_i hi
  rw [List.getElem?_drop]; exact h i hi
 ·rename_i hi
  rw [List.getElem?_eq_none (by omega)]
theorem rd_2 {cs : List MV} {off : Nat} {x0 x1 : MV} (h0 : cs[off]? = some x0) (h1 : cs[off + 1]? = some x1) : rdCells cs off (some 2) = some (.agg [x0, x1]) :=
 rd_sub rfl (by simp) fun i hi => by
  match i, hi with
  | 0, _ => exact h0
  | 1, _ => exact h1
theorem rd_5 {cs : List MV} {off : Nat} {x0 x1 x2 x3 x4 : MV} (h0 : cs[off]? = some x0) (h1 : cs[off + 1]? = some x1) (h2 : cs[off + 2]? = some x2) (h3 : cs[off + 3]? = some x3) (h4 : cs[off + 4]? = some x4) : rdCells cs off (some 5) = some (.agg [x0, x1, x2, x3, x4]) :=
 rd_sub rfl (by simp) fun i hi => by
  match i, hi with
  | 0, _ => exact h0
  | 1, _ => exact h1
  | 2, _ => exact h2
  | 3, _ => exact h3
  | 4, _ => exact h4
def cmpP : BinOp → Int → Int → Prop
 | .lss, a, b => a < b
 | .leq, a, b => a ≤ b
 | .gtr, a, b => b < a
 | .geq, a, b => b ≤ a
 | .eql, a, b => a = b
 | .neq, a, b => a ≠ b
 | _, _, _ => False
def isCmp : BinOp → Bool
 | .lss | .leq | .gtr | .geq | .eql | .neq => true
 | _ => false
theorem cmp_t {op : BinOp} {k : IntKind} {a b : Int} (hc : isCmp op = true) (h : cmpP op a b) : binI op k a b = some (.bool true) := by
 cases op <;> simp [isCmp] at hc <;> simp only [cmpP] at h <;> simp [binI, h]
theorem cmp_f {op : BinOp} {k : IntKind} {a b : Int} (hc : isCmp op = true) (h : ¬ cmpP op a b) : binI op k a b = some (.bool false) := by
 cases op <;> simp [isCmp] at hc <;> simp only [cmpP] at h <;> simp [binI] <;> omega
abbrev gO (t : Nat) (o : MO) : GO := ⟨none, some t, o⟩
abbrev cI (n : Int) : MX := .c (.lit (.int .i64 n))
abbrev cT : MX := .c (.lit (.bool true))
abbrev cF : MX := .c (.lit (.bool false))
end Go.Proofs.YtnmgpbihknjdjaaDoor

/- Words of the laws. -/
namespace Go.Proofs.YtnmgpbihknjdjaaDoor
open Go.RowKit
set_option linter.unusedVariables false
def inB (a lo hi : Int) : Bool := decide (lo ≤ a ∧ a ≤ hi)
theorem inB_iff {a lo hi : Int} : inB a lo hi = true ↔ lo ≤ a ∧ a ≤ hi := by simp [inB]
def unl (b : Bool) (n : Int) : Int := if b then 0 else n
def firstE : List Int → Int
 | [] => 0
 | x :: l => if x ≠ 0 then x else firstE l
end Go.Proofs.YtnmgpbihknjdjaaDoor

/- Open values of small things. -/
namespace Go.Proofs.YtnmgpbihknjdjaaDoor
open Go.RowKit
set_option linter.unusedVariables false
end Go.Proofs.YtnmgpbihknjdjaaDoor

/- Sorts in place: from the contract of the kit to what the small language asks. -/
namespace Go.Proofs.YtnmgpbihknjdjaaDoor
open Go.Shelf Go.RowKit Go.Lib Go.Sort
set_option linter.unusedVariables false
section
variable {α : Type} [Inhabited α] {toRow : α → List Int}
omit [Inhabited α] in
end
end Go.Proofs.YtnmgpbihknjdjaaDoor

/- No sorts here. -/
namespace Go.Proofs.YtnmgpbihknjdjaaDoor
open Go.RowKit
theorem sorts_ok : SortsOK Tryd.prog := fun f cf k hk => by simp [sortKind, sortHints] at hk
end Go.Proofs.YtnmgpbihknjdjaaDoor

/- The contract of slices.Clone at slices without elements. -/
set_option linter.unusedVariables false
set_option linter.unusedSimpArgs false
namespace Go.Proofs.YtnmgpbihknjdjaaDoor
open Go.RowKit
theorem run_eqNil (A : Option Addr) (n cap : Nat) (w : World) {t e : TypeId} (ht : Tryd.prog.underlying t = some (.slice e)) : (binOp .eql t (.slice A n cap) (.slice none 0 0)).run Tryd.prog w = .ok (.bool A.isNone) w := by
 simp [binOp, Op.equal, Op.maxDepth, run_equalIn_slice_nil w 9999 t e A n cap ht]
set_option maxHeartbeats 2000000 in
set_option maxRecDepth 100000 in
theorem CloneL_none (A : Option Addr) (cap : Nat) (w : World) : Calls Tryd.prog 29 #[.slice A 0 cap] w fun e w' => ∃ A' cap', Ret w (.slice A' 0 cap') e w' := by
 have hq := run_eqNil A 0 cap w (t := 34) Tryd.underlying34
 cases A with
 | none =>
  go_enter Tryd.func29, Tryd.ntmps29
  go_wp2
  all_goals (go_ret; exact ⟨_, _, rfl, Below.refl _ _⟩)
 | some a =>
  go_enter Tryd.func29, Tryd.ntmps29
  go_wp2
  all_goals (go_ret; exact ⟨_, _, rfl, (Below.refl _ w).alloc (Nat.le_refl _) _⟩)
def Env.grow (E : Env) (w w' : World) : Env := { E with S := fun b => E.S b ∨ (w.heap.size ≤ b ∧ b < w'.heap.size) }
theorem grow_ok {E : Env} {h : MHeap} {w w' : World} (hr : HRel E h w) (hb : Below w.heap.size w w') : HRel (E.grow w w') h w' ∧ Ext (fun _ => true) E w (E.grow w w') w' := by
 have h1 := hr.ck (CKd.of_below (B := 0) hb)
 have hle : EnvLe E (E.grow w w') := ⟨fun b hb => .inl hb, fun id hk => ⟨hk, rfl, rfl, rfl, rfl, rfl, rfl, rfl⟩, rfl⟩
 refine ⟨⟨h1.klt, h1.top, fun id hk => ?_, h1.inj, fun id hk hc hs => ?_, fun b hb' => ?_, fun p hp => (h1.tab p hp).env hle⟩, ⟨hb.os, hb.tape, hb.output, hb.size, fun k hk _ => hb.block k hk, fun b hb => .inl hb, fun id hk => hk, fun id hk => ⟨Nat.le_refl _, fun _ => ⟨rfl, rfl, rfl, rfl, rfl, rfl⟩⟩, fun _ _ _ => rfl, fun id hk hc => .inl ⟨hk, hc, rfl⟩, rfl, fun id hk => .inl hk, rfl, fun b hb => hb.elim .inl fun h => .inr (.inr h.1)⟩⟩
 ·obtain ⟨es, a1, a2, a3, a4, a5⟩ := h1.obj id hk
  exact ⟨es, a1, a2, a3, a4, fun hc => by
   obtain ⟨arr, t, b1, b2, b3⟩ := a5 hc
   exact ⟨arr, t, b1, b2, fun k c hkc => by obtain ⟨v, c1, c2⟩ := b3 k c hkc; exact ⟨v, c1, c2.env hle⟩⟩⟩
 ·rcases hs with hs | hs
  ·exact hr.sep id hk hc hs
  ·have : E.ρ id < w.heap.size := hr.lt hk hc
   have h2 : w.heap.size ≤ E.ρ id := hs.1
   omega
 ·rcases hb' with hb' | hb'
  ·exact Nat.lt_of_lt_of_le (hr.slt b hb') hb.size
  ·exact hb'.2
def tEmp (args : List MV) (h : MHeap) : Option (MV × MHeap) :=
 match args with
 | [.sl []] => some (.sl [], h)
 | _ => none
def tCl (f : Nat) (args : List MV) (h : MHeap) : Option (MV × MHeap) :=
 if f = 29 then tEmp args h else none
theorem tCl_ok : SoundC Tryd.prog tCl := by
 intro f args h m h' he
 have key : ∀ E w vs, Vs E w [.sl []] vs → ∃ A cap, vs = [.slice A 0 cap] := fun E w vs hv => by
  obtain ⟨x, us, rfl, h1, h2⟩ := hv.uncons
  obtain rfl : us = [] := List.length_eq_zero_iff.1 h2.1.symm
  cases h1 with
  | sl _ _ A cap _ _ _ _ _ _ => exact ⟨A, cap, rfl⟩
 have fin : ∀ {E : Env} {w : World} {e : Ending} {w' : World}, HRel E h w → (∃ A' cap', Ret w (.slice A' 0 cap') e w') → ∃ v E', e = .returned v ∧ V E' w' (.sl []) v ∧ HRel E' h w' ∧ Ext (fun _ => true) E w E' w' := fun {E w e w'} hr ⟨A', cap', hR⟩ => by
  obtain ⟨rfl, hb⟩ := hR
  obtain ⟨g1, g2⟩ := grow_ok hr hb
  exact ⟨_, _, rfl, V.sl [] [] A' cap' 0 (Nat.zero_le _) (fun e h => by cases h) rfl (fun i c v h => by cases h) (fun h => absurd h (by simp)), g1, g2⟩
 unfold tCl tEmp at he
 split at he
 ·rename_i hf
  subst hf
  split at he
  case h_2 => cases he
  cases he
  refine ⟨by kernel_rfl, fun E w vs hr hv => ?_⟩
  obtain ⟨A, cap, rfl⟩ := key E w vs hv
  exact (CloneL_none A cap w).mono fun e w' hR => fin hr hR
 ·cases he
end Go.Proofs.YtnmgpbihknjdjaaDoor

/- Sets of numbers as bits (plain). -/
namespace Go.Proofs.YtnmgpbihknjdjaaDoor
open Go.Lib
set_option linter.unusedVariables false
def clrB (x : Nat) : Nat := x &&& (x - 1)
theorem clrB_lt {x : Nat} (h : x ≠ 0) : clrB x < x := by
 have : x &&& (x - 1) ≤ x - 1 := Nat.and_le_right
 unfold clrB; omega
def mbL (x : Nat) : List Nat := if h : x = 0 then [] else ctz 64 x :: mbL (clrB x)
termination_by x
decreasing_by exact clrB_lt h
end Go.Proofs.YtnmgpbihknjdjaaDoor

/- math/bits.TrailingZeros64, as the table answers it. -/
namespace Go.Proofs.YtnmgpbihknjdjaaDoor
open Go.Shelf
def layTz_ren : Go.Shelf.Ren := ⟨fun | 29 => 55 | n => n, fun | 22 => 89 | 3 => 3 | 4 => 4 | 25 => 74 | 54 => 100 | 0 => 0 | 5 => 5 | n => n, fun | 1 => 1 | n => n⟩
theorem layTz : Go.Proofs.Lays7.n29 Tryd.prog layTz_ren := {
 mixed := by kernel_rfl
 f29 := Tryd.func55.trans (congrArg some (by kernel_rfl))
 t0 := Tryd.underlying0
 a0 := Tryd.isAgg0
 z0 := Tryd.sizeOf0
 v0 := Tryd.zeroValue0
 i0 := by kernel_rfl
 t3 := Tryd.underlying3
 a3 := Tryd.isAgg3
 z3 := Tryd.sizeOf3
 v3 := Tryd.zeroValue3
 i3 := by kernel_rfl
 t4 := Tryd.underlying4
 a4 := Tryd.isAgg4
 z4 := Tryd.sizeOf4
 v4 := Tryd.zeroValue4
 i4 := by kernel_rfl
 t5 := Tryd.underlying5
 a5 := Tryd.isAgg5
 z5 := Tryd.sizeOf5
 v5 := Tryd.zeroValue5
 i5 := by kernel_rfl
 t22 := Tryd.underlying89
 a22 := Tryd.isAgg89
 z22 := Tryd.sizeOf89
 v22 := Tryd.zeroValue89
 i22 := by kernel_rfl
 t25 := Tryd.underlying74
 a25 := Tryd.isAgg74
 z25 := Tryd.sizeOf74
 v25 := Tryd.zeroValue74
 i25 := by kernel_rfl
 t54 := Tryd.underlying100
 a54 := Tryd.isAgg100
 z54 := Tryd.sizeOf100
 g1 := by kernel_rfl }
end Go.Proofs.YtnmgpbihknjdjaaDoor
namespace Go.Proofs.YtnmgpbihknjdjaaDoor
open Go.Shelf Go.RowKit Go.Lib
set_option linter.unusedVariables false
theorem flat_u8 : ∀ l : List Nat, flat (l.map fun k : Nat => MV.lit (.int .u8 (k : Int))) = l.map fun k : Nat => MV.lit (.int .u8 (k : Int))
 | [] => rfl
 | x :: l => by
  have := flat_u8 l
  unfold flat at this ⊢
  rw [List.map_cons, List.flatMap_cons, this]; rfl
theorem tab_at {E : Env} {h : MHeap} {w : World} (hr : HRel E h w) : TabAt 1 deBruijn64tab w := by
 have hv := hr.tab (.sl (deBruijn64tab.map fun k : Nat => .lit (.int .u8 (k : Int))), .slice (some ⟨1, 0, none⟩) 64 64) (List.mem_singleton.2 rfl)
 simp only at hv
 obtain ⟨es, hes⟩ : ∃ es, es = deBruijn64tab.map fun k : Nat => MV.lit (.int .u8 (k : Int)) := ⟨_, rfl⟩
 obtain ⟨v0, hv0⟩ : ∃ v0, v0 = Value.slice (some ⟨1, 0, none⟩) 64 64 := ⟨_, rfl⟩
 rw [← hes, ← hv0] at hv
 cases hv with
 | sl _ vs A cap sz h1 h2 h3 h4 h5 =>
  obtain ⟨b, off, e, hb, hc⟩ := h5 (by rw [hes]; decide)
  subst e
  simp only [Value.slice.injEq, Option.some.injEq, Addr.mk.injEq] at hv0
  obtain ⟨⟨rfl, rfl, -⟩, -, -⟩ := hv0
  intro j hj
  rw [hes, flat_u8] at h3 h4
  have hj2 : j < vs.length := by rw [← h3, List.length_map]; exact hj
  have h6 := h4 j (.lit (.int .u8 (deBruijn64tab.getD j 0 : Nat))) vs[j] (by rw [List.getElem?_map, List.getD_eq_getElem?_getD, List.getElem?_eq_getElem hj]; rfl) (List.getElem?_eq_getElem hj2)
  have h7 := hc j vs[j] (List.getElem?_eq_getElem hj2)
  rw [Nat.zero_add] at h7
  rw [h7, h6.lit_eq]
def tTz (f : Nat) (args : List MV) (h : MHeap) : Option (MV × MHeap) :=
 if f = 55 then match args with
  | [.lit (.int .u64 n)] => if 0 ≤ n ∧ n < 18446744073709551616 then some (.lit (.int .i64 (ctz 64 n.toNat)), h) else none
  | _ => none
 else none
theorem tTz_ok : SoundC Tryd.prog tTz := by
 intro f args h m h' he
 unfold tTz at he
 split at he
 case isFalse => cases he
 rename_i hf
 subst hf
 split at he
 case h_2 => cases he
 rename_i n
 split at he
 case isFalse => cases he
 rename_i hn
 cases he
 refine ⟨by kernel_rfl, fun E w vs hr hv => ?_⟩
 obtain ⟨x, us, rfl, h1, h2⟩ := hv.uncons
 obtain rfl : us = [] := List.length_eq_zero_iff.1 h2.1.symm
 obtain rfl := h1.lit_eq
 have hc := Any7.bits_TrailingZeros64 layTz n.toNat (by omega) w (fun _ => tab_at hr)
 rw [show ((n.toNat : Nat) : Int) = n by omega] at hc
 refine Calls.mono hc ?_
 rintro e w' ⟨rfl, rfl⟩
 exact ⟨_, E, rfl, .lit _, hr, Ext.refl _ _ _⟩
end Go.Proofs.YtnmgpbihknjdjaaDoor

/- The program answers by its text; copies of no elements and trailing zeros by contracts. -/
namespace Go.Proofs.YtnmgpbihknjdjaaDoor
open Go.RowKit
set_option linter.unusedVariables false
def tA (f : Nat) (args : List MV) (h : MHeap) : Option (MV × MHeap) := if f = 55 then tTz f args h else tCl f args h
theorem tA_ok : SoundO Tryd.prog tA := ⟨fun f args h m h' he => by
 unfold tA at he
 split at he
 ·exact tTz_ok f args h m h' he
 ·exact tCl_ok f args h m h' he, sorts_ok⟩
abbrev tI : Iter := noI
theorem tI_ok : SoundI Tryd.prog tI := noI_ok Tryd.prog
noncomputable abbrev MT : Tab := tabOf Tryd.prog
noncomputable abbrev orA (k : Nat) : Oracle := orZ MT tA tI 4000000 k
noncomputable abbrev itA (k : Nat) : Iter := orI MT tI (orA k) 4000000
theorem orA_ok (k : Nat) : SoundO Tryd.prog (orA k) := (orZ_ok (by kernel_rfl) (tabOf_ok Tryd.prog) tA_ok (tI_ok) k).1
theorem callA {k f : Nat} {args args' : List MV} {h : MHeap} {m : MV} {news : MHeap} (h1 : args.mapM (frz 0 [] h 8) = some args') (hT : tA f args' [] = none) (h2 : runZ MT (orA k) (itA k) 4000000 f args' [] = some (m, news))
  (h3 : okV (ltL 0 args) m = true) (h4 : okH (ltL 0 args) news = true) : orA (k + 1) f args h = some (shV h.length m, h ++ news) :=
 orZ_call h1 (by unfold tabZ; rw [hT]; exact h2) h3 h4
end Go.Proofs.YtnmgpbihknjdjaaDoor

/- Contracts of small functions. -/
namespace Go.Proofs.YtnmgpbihknjdjaaDoor
open Go.RowKit
set_option linter.unusedVariables false
theorem callL {k f : Nat} {args args' : List MV} {h : MHeap} {v : Value} (h1 : args.mapM (frz 0 [] h 8) = some args') (hT : tA f args' [] = none) (h2 : runZ MT (orA k) (itA k) 4000000 f args' [] = some (.lit v, [])) : orA (k + 1) f args h = some (.lit v, h) := by
 have := callA h1 hT h2 (by simp [okV, ok1, MV.lt, MV.pure]) rfl
 simpa [shV, sh1] using this
theorem frz_lits {h : MHeap} : ∀ vs : List Value, (vs.map MV.lit).mapM (frz 0 [] h 8) = some (vs.map .lit)
 | [] => rfl
 | v :: vs => by
  rw [List.map_cons, List.mapM_cons, frz_lits vs]
  simp [frz, MV.lt]
theorem at_map {α β : Type} (f : α → β) (xs : List α) (i : Nat) (h : i < xs.length) : (xs.map f)[((i : Nat) : Int).toNat]? = some (f xs[i]) := by
 rw [Int.toNat_natCast, List.getElem?_map, List.getElem?_eq_getElem h]; rfl
theorem mf_Within : MT.mf 10 = some ⟨15, [(.tmp 6)], (.seq (.reg [gO 6 (.mv cF)]) (.seq (.reg [gO 7 (.mv (.s 1)), gO 8 (.mv (.s 0)), gO 9 (.bin .leq (.s 7) (.s 8)), gO 10 (.mv (.s 9)), ⟨some (10, true), some 11, .mv (.s 0)⟩, ⟨some (10, true), some 12, .mv (.s 2)⟩, ⟨some (10, true), some 13, .bin .leq (.s 11) (.s 12)⟩, gO 14 (.pick (.s 10) (.s 13) cF), gO 6 (.mv (.s 14))]) .ret))⟩ := by kernel_rfl
theorem Within_c (k : Nat) (a b c : Int) (h : MHeap) {t : Bool} (ht : inB a b c = t) : orA (k + 1) 10 [I64 a, I64 b, I64 c] h = some (Bo t, h) := by
 refine callL (frz_lits [.int .i64 a, .int .i64 b, .int .i64 c]) rfl (runZ_of mf_Within (by simp) ?_)
 simp only [argsL, List.map_cons, List.map_nil]
 repeat (first | apply ef_seq | (apply ef_mv; exact rfl; exact rfl) | (apply ef_bin; (iterate 3 exact rfl); (exact rfl)) | apply ef_nil | apply seqQ.normal)
 cases h1 : decide (b ≤ a)
 all_goals repeat (first | (apply ef_mv; exact rfl; exact rfl) | (apply ef_bin; (iterate 3 exact rfl); (exact rfl)) | (apply ef_gy; exact rfl; (exact (rfl : true = true))) | (apply ef_gn; exact rfl; (exact (rfl : false = false)); exact rfl) | (apply ef_pick; (iterate 3 exact rfl)) | apply ef_nil | apply seqQ.normal | apply ef_ret)
 ·(refine fin1 rfl (by exact rfl) rfl ?_)
  simp at h1; simp [inB] at ht; simp; rw [← ht]; simp; omega
 ·(refine fin1 rfl (by exact rfl) rfl ?_)
  simp at h1; simp [inB, h1] at ht; simp [← ht]
end Go.Proofs.YtnmgpbihknjdjaaDoor

/- Faster evaluation: slots in a tree. -/
namespace Go.Proofs.YtnmgpbihknjdjaaDoor
open Go.RowKit
set_option linter.unusedVariables false
def MX.gt (g : Nat → MV) : MX → MV
 | .s t => g t
 | .c v => v
def evOg : (Nat → Bool) → Oracle → (Nat → MV) → MHeap → MO → Option (MV × MHeap)
 | lk, O, s, h, .mv x => some (x.gt s, h)
 | lk, O, s, h, .nil0 sz => some (.arr h.length 0 0 0, h ++ [⟨0, true, sz, []⟩])
 | lk, O, s, h, .nilck x => match x.gt s with
  | .ptr id i off g => some (.ptr id i off g, h)
  | .rp e off => some (.rp e off, h)
  | .fn f k cs => some (.fn f k cs, h)
  | _ => none
 | lk, O, s, h, .pick c a b => match c.gt s with
  | .lit (.bool t) => some (if t then a.gt s else b.gt s, h)
  | _ => none
 | lk, O, s, h, .new z => some (.ptr h.length 0 0 0, h ++ [⟨0, false, z.cells.length, [z]⟩])
 | lk, O, s, h, .box sz x => if (x.gt s).cells.length = sz ∧ (x.gt s).cOk then some (.ptr h.length 0 0 0, h ++ [⟨0, false, sz, [x.gt s]⟩]) else none
 | lk, O, s, h, .build z parts => match fillM z (parts.map fun p => (p.1, (p.2.2.gt s).cells)) with
  | some cs => if parts.all (fun p => (p.2.2.gt s).cells.length == p.2.1 && (p.2.2.gt s).cOk) then some (.agg cs, h) else none
  | none => none
 | lk, O, s, h, .bsl z sz len parts => match setAtM (List.replicate len z) sz (parts.map fun p => (p.1, p.2.gt s)) with
  | some es => some (.arr h.length 0 len 0, h ++ [⟨0, false, sz, es⟩])
  | none => none
 | lk, O, s, h, .vsl z sz len parts => match setAtM (List.replicate len z) sz (parts.map fun p => (p.1, p.2.gt s)) with
  | some es => some (if es.isEmpty then .emp else .sl es, h)
  | none => none
 | lk, O, s, h, .ld agg x => match x.gt s with
  | .rp e off => (rdCells e.cells off agg).map fun v => (v, h)
  | .ptr id i off g => match h[id]? with
   | some o => if o.g = g then match o.es[i]? with
     | some e => (rdCells e.cells off agg).map fun v => (v, h)
     | none => none
    else none
   | none => none
  | _ => none
 | lk, O, s, h, .st sz a x => if (x.gt s).sOk sz then match a.gt s with
  | .ptr id i off g => match h[id]? with
   | some o => if o.g = g ∧ lk id = false then match o.es[i]? with
     | some e => match wrElem e off (x.gt s) with
      | some e' => some (.lit undef, h.set id { o with es := o.es.set i e' })
      | none => none
     | none => none
    else none
   | none => none
  | _ => none else none
 | lk, O, s, h, .bin op x y => match x.gt s, y.gt s with
  | .lit (.int k a), .lit (.int k' b) => if k = k' then (binI op k a b).map fun v => (.lit v, h) else none
  | _, _ => none
 | lk, O, s, h, .beq neg x y => match x.gt s, y.gt s with
  | .lit (.bool a), .lit (.bool b) => some (.lit (.bool (negIf neg (a == b))), h)
  | _, _ => none
 | lk, O, s, h, .seq neg x y => match x.gt s, y.gt s with
  | .lit (.string a), .lit (.string b) => some (.lit (.bool (negIf neg (a == b))), h)
  | _, _ => none
 | lk, O, s, h, .eqa n neg x y => match x.gt s, y.gt s with
  | .agg ps, .agg qs => (litEqK (kindsOf n) ps qs).map fun b => (.lit (.bool (negIf neg b)), h)
  | _, _ => none
 | lk, O, s, h, .eqn neg x => match x.gt s with
  | .arr id i n g => match h[id]? with
   | some o => if o.g = g ∧ i + n ≤ o.es.length then some (.lit (.bool (negIf neg o.nl)), h) else none
   | none => none
  | .lit (.slice A _ _) => some (.lit (.bool (negIf neg A.isNone)), h)
  | .sl (_ :: _) => some (.lit (.bool neg), h)
  | .emp => some (.lit (.bool neg), h)
  | _ => none
 | lk, O, s, h, .bad => none
 | lk, O, s, h, .un op x => match op, x.gt s with
  | .not, .lit (.bool b) => some (.lit (.bool !b), h)
  | .neg, .lit (.int k n) => some (.lit (.int k (k.wrap (0 - n))), h)
  | _, _ => none
 | lk, O, s, h, .cv k x => match x.gt s with
  | .lit (.int _ n) => some (.lit (.int k (k.wrap n)), h)
  | _ => none
 | lk, O, s, h, .mf f k caps => some (.fn f k (caps.map (MX.gt s)), h)
 | lk, O, s, h, .mks z n => match n.gt s with
  | .lit (.int .i64 n) => if 0 ≤ n ∧ n ≤ 1000000 then some (.arr h.length 0 n.toNat 0, h ++ [⟨0, false, z.cells.length, List.replicate n.toNat z⟩]) else none
  | _ => none
 | lk, O, s, h, .slc sz x lo hi => match (x.gt s), ((lo.map (MX.gt s)).map intOf?).getD (some 0), (hi.map (MX.gt s)).map intOf? with
  | .sl es, some l, some (some u) => if 0 ≤ l ∧ l ≤ u ∧ u ≤ es.length ∧ es.all (fun e => e.cells.length == sz) then some (.sl ((es.drop l.toNat).take (u - l).toNat), h) else none
  | .sl es, some l, none => if 0 ≤ l ∧ l ≤ es.length ∧ es.all (fun e => e.cells.length == sz) then some (.sl (es.drop l.toNat), h) else none
  | .arr id i n g, some l, some (some u) => if 0 ≤ l ∧ l ≤ u ∧ u ≤ n ∧ MHeap.ok h id g sz then some (.arr id (i + l.toNat) (u - l).toNat g, h) else none
  | .arr id i n g, some l, none => if 0 ≤ l ∧ l ≤ n ∧ MHeap.ok h id g sz then some (.arr id (i + l.toNat) (n - l.toNat) g, h) else none
  | _, _, _ => none
 | lk, O, s, h, .fa off x => match x.gt s with
  | .ptr id i o g => some (.ptr id i (o + off) g, h)
  | .rp e o => some (.rp e (o + off), h)
  | _ => none
 | lk, O, s, h, .fd off agg x => match x.gt s with
  | .agg cs => (rdCells cs off agg).map fun v => (v, h)
  | _ => none
 | lk, O, s, h, .ix agg sz len x i => match x.gt s, intOf? (i.gt s) with
  | .agg cs, some k => if 0 ≤ k ∧ k < len then (rdCells cs (k.toNat * sz) agg).map fun v => (v, h) else none
  | _, _ => none
 | lk, O, s, h, .ia sz x i => match x.gt s, intOf? (i.gt s) with
  | .sl es, some k => if 0 ≤ k then (es[k.toNat]?).bind fun e => if e.cells.length = sz then some (.rp e 0, h) else none else none
  | .arr id j n g, some k => if 0 ≤ k ∧ k < n ∧ MHeap.ok h id g sz then some (.ptr id (j + k.toNat) 0 g, h) else none
  | _, _ => none
 | lk, O, s, h, .iaa sz len x i => match x.gt s, intOf? (i.gt s) with
  | .ptr id j o g, some k => if 0 ≤ k ∧ k < len then some (.ptr id j (o + k.toNat * sz) g, h) else none
  | .rp e o, some k => if 0 ≤ k ∧ k < len then some (.rp e (o + k.toNat * sz), h) else none
  | _, _ => none
 | lk, O, s, h, .ext x i => match x.gt s with
  | .tup vs => (vs[i]?).map fun v => (v, h)
  | _ => none
 | lk, O, s, h, .call f args => O f (args.map (MX.gt s)) h
 | lk, O, s, h, .callv x args => match x.gt s with
  | .fn f k caps => O f (caps.take k ++ args.map (MX.gt s) ++ caps.drop k) h
  | _ => none
 | lk, O, s, h, .s2b x => match x.gt s with
  | .lit (.string b) => some (.sl (b.data.toList.map fun c => .lit (.int .u8 c.toNat)), h)
  | _ => none
 | lk, O, s, h, .sln x => match x.gt s with
  | .lit (.string b) => some (.lit (.int .i64 b.size), h)
  | _ => none
 | lk, O, s, h, .len x => match (x.gt s).slen with
  | some n => some (.lit (.int .i64 n), h)
  | none => none
 | lk, O, s, h, .app sz d x => match d.gt s, (x.gt s).elems h with
  | .arr id i n g, some xs => match h[id]? with
   | some o => if o.g = g ∧ i + n = o.es.length ∧ o.sz = sz then
     if xs = [] then some (.arr id i n g, h)
     else if o.es.length + xs.length ≤ 4000000 ∧ xs.all (MV.sOk sz) ∧ lk id = false then some (.arr id 0 (n + xs.length) (g + 1), h.set id ⟨g + 1, false, sz, o.es.drop i ++ xs⟩) else none
    else none
   | none => none
  | .lit (.slice none 0 0), some xs =>
   if xs = [] then some (.lit (.slice none 0 0), h)
   else if xs.length ≤ 4000000 ∧ xs.all (MV.sOk sz) then some (.arr h.length 0 xs.length 0, h ++ [⟨0, false, sz, xs⟩]) else none
  | .emp, some xs =>
   if xs = [] then some (.emp, h)
   else if xs.length ≤ 4000000 ∧ xs.all (MV.sOk sz) then some (.arr h.length 0 xs.length 0, h ++ [⟨0, false, sz, xs⟩]) else none
  | _, _ => none
 | lk, O, s, h, .mx x y => match x.gt s, y.gt s with
  | .lit (.int k a), .lit (.int _ b) => some (.lit (.int k (if b > a then b else a)), h)
  | _, _ => none
 | lk, O, s, h, .mn x y => match x.gt s, y.gt s with
  | .lit (.int k a), .lit (.int _ b) => some (.lit (.int k (if b < a then b else a)), h)
  | _, _ => none
 | lk, O, s, h, .ne x y => if neB (x.gt s) (y.gt s) then some (.lit undef, h) else none
 | lk, O, s, h, .mkm => some (.mp h.length 0, h ++ [⟨0, true, 1, [.tup []]⟩])
 | lk, O, s, h, .ent x => match x.gt s with
  | .itr k v => some (.tup [k, v], h)
  | _ => none
 | lk, O, s, h, .mup n m k x => match m.gt s, k.gt s, (m.gt s).ents h with
  | .mp id g, .agg ps, some es => if ps.length = n ∧ lk id = false ∧ keysOk ps es = true ∧ (x.gt s).plain = true then match mfind ps es 0 with
    | some r => some (.lit undef, h.set id ⟨g, true, 1, [.tup (mset es (.tup [.agg ps, x.gt s]) r)]⟩)
    | none => none
   else none
  | _, _, _ => none
 | lk, O, s, h, .shf op x y => match x.gt s, y.gt s with
  | .lit (.int k a), .lit (.int _ b) => (shfI op k a b).map fun v => (.lit v, h)
  | _, _ => none
 | lk, O, s, h, .sx x i => match x.gt s, intOf? (i.gt s) with
  | .lit (.string b), some k => if 0 ≤ k then (b.data.toList[k.toNat]?).map fun c => (.lit (.int .u8 c.toNat), h) else none
  | _, _ => none
 | lk, O, s, h, .cat x y => match x.gt s, y.gt s with
  | .lit (.string a), .lit (.string b) => if a.size + b.size ≤ 1000000000 then some (.lit (.string (a ++ b)), h) else none
  | _, _ => none
 | lk, O, s, h, .ssl x lo hi => match x.gt s, ((lo.map (MX.gt s)).map intOf?).getD (some 0), (hi.map (MX.gt s)).map intOf? with
  | .lit (.string b), some l, some (some u) => if 0 ≤ l ∧ l ≤ u ∧ u ≤ b.size then some (.lit (.string (b.extract l.toNat u.toNat)), h) else none
  | .lit (.string b), some l, none => if 0 ≤ l ∧ l ≤ b.size then some (.lit (.string (b.extract l.toNat b.size)), h) else none
  | _, _, _ => none
 | lk, O, s, h, .cpy d x => match d.gt s, (x.gt s).elems h with
  | .arr id i n g, some xs => match h[id]? with
   | some o => if o.g = g ∧ 0 < n ∧ i + n ≤ o.es.length ∧ o.sz = 1 ∧ xs ≠ [] ∧ xs.all (MV.sOk 1) = true ∧ lk id = false then
     some (.lit (.int .i64 (xs.take n).length), h.set id { o with es := o.es.take i ++ xs.take n ++ o.es.drop (i + (xs.take n).length) }) else none
   | none => none
  | _, _ => none
 | lk, O, s, h, .srt f cf x => match x.gt s with
  | .arr id i n g => match h[id]? with
   | some o => if o.g = g ∧ i + n ≤ o.es.length ∧ n ≤ 4000000 ∧ lk id = false then match sortKind f cf with
     | some k => match srtM k ((o.es.drop i).take n) with
      | some es => some (.lit (.tuple #[]), h.set id { o with es := o.es.take i ++ es ++ o.es.drop (i + n) })
      | none => none
     | none => none
    else none
   | none => none
  | _ => none
 | lk, O, s, h, .sla sz n x => match x.gt s with
  | .ptr id 0 0 g => match h[id]? with
   | some o => match o.es with
    | [e] => if o.g = g ∧ lk id = false ∧ 0 < n ∧ 1 < sz ∧ e.cells.length = n * sz then some (.arr id 0 n (g + 1), h.set id ⟨g + 1, false, sz, chunkM sz n e.cells⟩) else none
    | _ => none
   | none => none
  | _ => none
theorem gt_get {g : Nat → MV} {s : List MV} (hg : ∀ t, g t = s.getD t (.lit undef)) : MX.gt g = MX.get s := by
 funext x
 cases x with
 | s t => exact hg t
 | c v => rfl
theorem evOg_eq {lk : Nat → Bool} {O : Oracle} {g : Nat → MV} {s : List MV} {h : MHeap} (hg : ∀ t, g t = s.getD t (.lit undef)) (mo : MO) : evOg lk O g h mo = evO lk O s h mo := by
 have e := gt_get hg
 cases mo <;> simp only [evOg, evO, e] <;> rfl
inductive TS where
 | leaf (v : MV)
 | node (l r : TS)
noncomputable def tget (tr : TS) : Nat → MV :=
 TS.rec (motive := fun _ => Nat → MV) (fun v _ => v) (fun _ _ il ir t => Nat.rec (motive := fun _ => MV) (il (t / 2)) (fun _ _ => ir (t / 2)) (t % 2)) tr
noncomputable def tset (tr : TS) : Nat → MV → TS :=
 TS.rec (motive := fun _ => Nat → MV → TS) (fun _ _ v => .leaf v) (fun l r il ir t v => Nat.rec (motive := fun _ => TS) (.node (il (t / 2) v) r) (fun _ _ => .node l (ir (t / 2) v)) (t % 2)) tr
def fullT (v : MV) : Nat → TS
 | 0 => .leaf v
 | d + 1 => .node (fullT v d) (fullT v d)
def IsFull : Nat → TS → Prop
 | 0, .leaf _ => True
 | d + 1, .node l r => IsFull d l ∧ IsFull d r
 | _, _ => False
theorem tget_node (l r : TS) (t : Nat) : tget (.node l r) t = if t % 2 = 0 then tget l (t / 2) else tget r (t / 2) := by
 show Nat.rec (motive := fun _ => MV) (tget l (t / 2)) (fun _ _ => tget r (t / 2)) (t % 2) = _
 rcases Nat.mod_two_eq_zero_or_one t with h | h <;> rw [h] <;> rfl
theorem tset_node (l r : TS) (t : Nat) (v : MV) : tset (.node l r) t v = if t % 2 = 0 then .node (tset l (t / 2) v) r else .node l (tset r (t / 2) v) := by
 show Nat.rec (motive := fun _ => TS) (.node (tset l (t / 2) v) r) (fun _ _ => .node l (tset r (t / 2) v)) (t % 2) = _
 rcases Nat.mod_two_eq_zero_or_one t with h | h <;> rw [h] <;> rfl
theorem full_set : ∀ {d : Nat} {tr : TS} (t : Nat) (v : MV), IsFull d tr → IsFull d (tset tr t v)
 | 0, .leaf _, t, v, h => trivial
 | 0, .node _ _, t, v, h => h.elim
 | d + 1, .leaf _, t, v, h => h.elim
 | d + 1, .node l r, t, v, h => by
  rw [tset_node]
  split
  ·exact ⟨full_set _ _ h.1, h.2⟩
  ·exact ⟨h.1, full_set _ _ h.2⟩
theorem full_fullT (v : MV) : ∀ d, IsFull d (fullT v d)
 | 0 => trivial
 | d + 1 => ⟨full_fullT v d, full_fullT v d⟩
theorem get_fullT (v : MV) : ∀ d t, tget (fullT v d) t = v
 | 0, t => rfl
 | d + 1, t => by simp [fullT, tget_node, get_fullT v d]
theorem get_set : ∀ {d : Nat} {tr : TS} {t u : Nat} {v : MV}, IsFull d tr → t < 2 ^ d → u < 2 ^ d → tget (tset tr t v) u = if t = u then v else tget tr u
 | 0, .leaf _, t, u, v, h, h1, h2 => by
  have : t = u := by simp at h1 h2; omega
  simp [this]; rfl
 | 0, .node _ _, t, u, v, h, _, _ => h.elim
 | d + 1, .leaf _, t, u, v, h, _, _ => h.elim
 | d + 1, .node l r, t, u, v, h, h1, h2 => by
  have h1' : t / 2 < 2 ^ d := by rw [Nat.pow_succ] at h1; omega
  have h2' : u / 2 < 2 ^ d := by rw [Nat.pow_succ] at h2; omega
  rw [tset_node]
  split
  ·rename_i ht
   rw [tget_node, tget_node, get_set h.1 h1' h2']
   by_cases hu : u % 2 = 0
   ·simp only [hu, if_true]
    by_cases e : t / 2 = u / 2
    ·have : t = u := by omega
     simp [this]
    ·have : t ≠ u := fun e' => e (by rw [e'])
     simp [this, e]
   ·have : t ≠ u := fun e' => hu (by rw [← e']; exact ht)
    simp [hu, this]
  ·rename_i ht
   rw [tget_node, tget_node, get_set h.2 h1' h2']
   by_cases hu : u % 2 = 0
   ·have : t ≠ u := fun e' => ht (by rw [e']; exact hu)
    simp [hu, this]
   ·simp only [hu, if_false]
    by_cases e : t / 2 = u / 2
    ·have : t = u := by omega
     simp [this]
    ·have : t ≠ u := fun e' => e (by rw [e'])
     simp [this, e]
structure TR (n : Nat) (tr : TS) (s : List MV) : Prop where
 len : s.length = n
 small : n ≤ 2 ^ 8
 full : IsFull 8 tr
 get : ∀ t, t < n → s[t]? = some (tget tr t)
noncomputable def fget (n : Nat) (tr : TS) (t : Nat) : MV := Bool.rec (motive := fun _ => MV) (tget tr t) (.lit undef) (Nat.ble n t)
noncomputable def fset (n : Nat) (tr : TS) (t : Nat) (v : MV) : TS := Bool.rec (motive := fun _ => TS) (tset tr t v) tr (Nat.ble n t)
theorem TR.g {n : Nat} {tr : TS} {s : List MV} (h : TR n tr s) (t : Nat) : fget n tr t = s.getD t (.lit undef) := by
 unfold fget
 cases hb : Nat.ble n t
 ·have : t < n := by
   refine Nat.lt_of_not_le fun hle => ?_
   rw [Nat.ble_eq_true_of_le hle] at hb; cases hb
  simp [h.get t this]
 ·have : n ≤ t := Nat.le_of_ble_eq_true hb
  have : s[t]? = none := by rw [List.getElem?_eq_none_iff, h.len]; exact this
  simp [this]
theorem TR.set {n : Nat} {tr : TS} {s : List MV} (h : TR n tr s) (t : Nat) (v : MV) : TR n (fset n tr t v) (s.set t v) := by
 unfold fset
 cases hb : Nat.ble n t
 ·have hlt : t < n := by
   refine Nat.lt_of_not_le fun hle => ?_
   rw [Nat.ble_eq_true_of_le hle] at hb; cases hb
  refine ⟨by simp [h.len], h.small, full_set _ _ h.full, fun u hu => ?_⟩
  show _ = some (tget (tset tr t v) u)
  rw [get_set h.full (Nat.lt_of_lt_of_le hlt h.small) (Nat.lt_of_lt_of_le hu h.small), List.getElem?_set]
  by_cases e : t = u
  ·subst e; simp [h.len, hlt]
  ·simp [e, h.get u hu]
 ·have : n ≤ t := Nat.le_of_ble_eq_true hb
  have e : s.set t v = s := List.set_eq_of_length_le (by rw [h.len]; exact this)
  show TR n tr (s.set t v)
  rw [e]; exact h
end Go.Proofs.YtnmgpbihknjdjaaDoor

/- Faster evaluation: control; it comes to the same. -/
namespace Go.Proofs.YtnmgpbihknjdjaaDoor
open Go.RowKit
set_option linter.unusedVariables false
abbrev FS := TS × MHeap
def wantF (g : Nat → MV) : Option (Nat × Bool) → Option Bool
 | none => some true
 | some (t, b) => match g t with
  | .lit (.bool x) => some (x == b)
  | .lit (.tuple _) => some false
  | _ => none
noncomputable def putF (n : Nat) (tr : TS) (d : Option Nat) (v : MV) : TS :=
 match d with
 | some d => fset n tr d v
 | none => tr
noncomputable def evGF (lk : Nat → Bool) (O : Oracle) (n : Nat) (o : GO) (st : FS) : Option FS :=
 match wantF (fget n st.1) o.guard with
 | none => none
 | some t => if t then
   match evOg lk O (fget n st.1) st.2 o.op with
   | some (v, h) => some (putF n st.1 o.dst v, h)
   | none => none
  else some (putF n st.1 o.dst (.lit undef), st.2)
noncomputable def evRF (lk : Nat → Bool) (O : Oracle) (n : Nat) (l : List GO) : FS → Option FS :=
 List.rec (motive := fun _ => FS → Option FS) (fun st => some st) (fun o _ ih st => match evGF lk O n o st with
  | some st' => ih st'
  | none => none) l
def roundsF {σ : Type} (f : σ → Option (MX2 × σ)) : Nat → σ → Option (MX2 × σ)
 | 0, _ => none
 | n + 1, st => match f st with
  | some (.normal, st') => roundsF f n st'
  | r => r
noncomputable def strikeF (n : Nat) (keep : List Nat) (tr : TS) : TS := keep.foldl (fun acc k => fset n acc k (fget n tr k)) (fullT .junk 8)
noncomputable def headF (keep : List Nat) (nh n : Nat) (st : FS) : FS :=
 if st.2.length ≤ nh then (strikeF n keep st.1, st.2) else if keep.all (fun k => (fget n st.1 k).lt nh) && hltL nh (st.2.take nh) then (strikeF n keep st.1, st.2.take nh) else (strikeF n keep st.1, st.2)
noncomputable def putAllF (n : Nat) (tr : TS) : List Nat → List MV → TS
 | p :: ps, v :: vs => putAllF n (fset n tr p v) ps vs
 | _, _ => tr
noncomputable def evCF : Oracle → Iter → Nat → Nat → MC → (Nat → Bool) → FS → Option (MX2 × FS)
 | O, I, N, n, .skip, lk, st => some (.normal, st)
 | O, I, N, n, .reg ops, lk, st => match evRF lk O n ops st with
  | some st => some (.normal, st)
  | none => none
 | O, I, N, n, .seq a b, lk, st => match evCF O I N n a lk st with
  | some (.normal, st') => evCF O I N n b lk st'
  | r => r
 | O, I, N, n, .cond c a b, lk, st => match c.gt (fget n st.1) with
  | .lit (.bool t) => if t then evCF O I N n a lk st else evCF O I N n b lk st
  | _ => none
 | O, I, N, n, .block id b, lk, st => match evCF O I N n b lk st with
  | some (.exit k, st') => if k = id then some (.normal, st') else some (.exit k, st')
  | r => r
 | O, I, N, n, .loop keep b, lk, st => roundsF (fun st' => evCF O I N n b lk (headF keep st.2.length n st')) N st
 | O, I, N, n, .rf keep f ps a b, lk, st => match f.gt (fget n st.1) with
  | .fn g k caps => match I g k caps st.2 with
   | some xs => if xs.all (fun x => x.length == ps.length) then
    match overH (fun x h => match evCF O I N n a (fun id => lk id || (caps.flatMap (MV.ids st.2 6)).contains id) (putAllF n (headF keep st.2.length n (st.1, h)).1 ps x, (headF keep st.2.length n (st.1, h)).2) with
     | some (.normal, st2) => match evCF O I N n b (fun id => lk id || (caps.flatMap (MV.ids st.2 6)).contains id) st2 with
      | some (y, st3) => some (y, st3.2)
      | none => none
     | _ => none) xs st.2 with
    | some r => some (r.1, (st.1, r.2))
    | none => none
    else none
   | none => none
  | _ => none
 | O, I, N, n, .exit id, lk, st => some (.exit id, st)
 | O, I, N, n, .ret, lk, st => some (.ret, st)
 | O, I, N, n, .bad, lk, st => none
 | O, I, N, n, .give _ _, lk, st => none
 | O, I, N, n, .mr _ _ _ _ _ _ _ _, lk, st => none
 | O, I, N, n, .mrk .., lk, st => none
theorem wantF_eq {g : Nat → MV} {s : List MV} (hg : ∀ t, g t = s.getD t (.lit undef)) (gd : Option (Nat × Bool)) : wantF g gd = wantM s gd := by
 cases gd with
 | none => rfl
 | some p => obtain ⟨t, b⟩ := p; simp only [wantF, wantM, hg]; rfl
theorem putF_TR {n : Nat} {tr : TS} {s : List MV} (h : TR n tr s) (d : Option Nat) (v : MV) : TR n (putF n tr d v) (putM s d v) := by
 cases d with
 | none => exact h
 | some d => exact h.set d v
theorem evGF_ok {lk : Nat → Bool} {O : Oracle} {n : Nat} {o : GO} {tr : TS} {s : List MV} {h : MHeap} (hT : TR n tr s) {st' : FS} (he : evGF lk O n o (tr, h) = some st') : ∃ s', evG lk O o ⟨s, h⟩ = some ⟨s', st'.2⟩ ∧ TR n st'.1 s' := by
 unfold evGF at he
 unfold evG
 simp only [wantF_eq hT.g, evOg_eq hT.g] at he
 split at he
 ·cases he
 ·rename_i t ht
  simp only [ht]
  cases t
  ·simp only [Bool.false_eq_true, if_false, Option.some.injEq] at he ⊢
   subst he
   exact ⟨_, rfl, putF_TR hT _ _⟩
  ·simp only [if_true] at he ⊢
   split at he
   ·rename_i v h' hev
    simp only [Option.some.injEq] at he
    subst he
    simp only [hev]
    exact ⟨_, rfl, putF_TR hT _ _⟩
   ·cases he
theorem evRF_ok {lk : Nat → Bool} {O : Oracle} {n : Nat} : ∀ {l : List GO} {tr : TS} {s : List MV} {h : MHeap} {st' : FS}, TR n tr s → evRF lk O n l (tr, h) = some st' → ∃ s', evR lk O l ⟨s, h⟩ = some ⟨s', st'.2⟩ ∧ TR n st'.1 s'
 | [], tr, s, h, st', hT, he => by
  have e : evRF lk O n [] (tr, h) = some (tr, h) := rfl
  rw [e] at he
  cases he
  exact ⟨s, rfl, hT⟩
 | o :: l, tr, s, h, st', hT, he => by
  have e : evRF lk O n (o :: l) (tr, h) = match evGF lk O n o (tr, h) with
   | some st' => evRF lk O n l st'
   | none => none := rfl
  rw [e] at he
  split at he
  case h_2 => cases he
  rename_i st1 h1
  obtain ⟨s1, k1, k2⟩ := evGF_ok hT h1
  obtain ⟨s2, j1, j2⟩ := evRF_ok k2 he
  exact ⟨s2, by simp only [evR, k1, Option.bind_some]; exact j1, j2⟩
theorem keepS_get {keep : List Nat} : ∀ (s : List MV) (i t : Nat), (keepS keep i s)[t]? = (s[t]?).map fun v => if keep.contains (i + t) then v else .junk
 | [], i, t => by simp [keepS]
 | v :: s, i, 0 => by simp [keepS]
 | v :: s, i, t + 1 => by
  simp only [keepS, List.getElem?_cons_succ]
  rw [keepS_get s (i + 1) t, show i + 1 + t = i + (t + 1) by omega]
theorem strikeF_TR {n : Nat} {keep : List Nat} {tr : TS} {s : List MV} (h : TR n tr s) : TR n (strikeF n keep tr) (keepS keep 0 s) := by
 have key : ∀ (l : List Nat) (acc : TS), IsFull 8 acc → IsFull 8 (l.foldl (fun acc k => fset n acc k (fget n tr k)) acc) ∧ ∀ t, t < n → tget (l.foldl (fun acc k => fset n acc k (fget n tr k)) acc) t = if t ∈ l then tget tr t else tget acc t := by
  intro l
  induction l with
  | nil => intro acc ha; exact ⟨ha, fun t _ => by simp⟩
  | cons k l ih =>
   intro acc ha
   simp only [List.foldl_cons]
   have hf : IsFull 8 (fset n acc k (fget n tr k)) := by
    unfold fset
    cases Nat.ble n k
    ·exact full_set _ _ ha
    ·exact ha
   obtain ⟨h1, h2⟩ := ih _ hf
   refine ⟨h1, fun t ht => ?_⟩
   rw [h2 t ht]
   by_cases hm : t ∈ l
   ·simp [hm]
   ·simp only [hm, if_false, List.mem_cons, or_false]
    unfold fset
    cases hb : Nat.ble n k
    ·have hk : k < n := by
      refine Nat.lt_of_not_le fun hle => ?_
      rw [Nat.ble_eq_true_of_le hle] at hb; cases hb
     show tget (tset acc k (fget n tr k)) t = _
     rw [get_set ha (Nat.lt_of_lt_of_le hk h.small) (Nat.lt_of_lt_of_le ht h.small)]
     by_cases e : k = t
     ·subst e
      simp [fget, hb]
     ·have e' : ¬ t = k := fun x => e x.symm
      simp [e, e']
    ·have hk : n ≤ k := Nat.le_of_ble_eq_true hb
     have : ¬ t = k := by omega
     simp only [this, if_false]
 obtain ⟨h1, h2⟩ := key keep (fullT .junk 8) (full_fullT _ _)
 refine ⟨by rw [keepS_len, h.len], h.small, h1, fun t ht => ?_⟩
 rw [keepS_get, h.get t ht]
 simp only [Option.map_some, Nat.zero_add, Option.some.injEq]
 unfold strikeF
 rw [h2 t ht, get_fullT]
 by_cases hm : t ∈ keep <;> simp [hm]
theorem ltL_iff {n : Nat} : ∀ {l : List MV}, ltL n l = true ↔ ∀ m ∈ l, m.lt n = true
 | [] => by simp [ltL]
 | v :: l => by simp [ltL, ltL_iff (l := l)]
theorem headF_TR {n nh : Nat} {keep : List Nat} {tr : TS} {s : List MV} {h : MHeap} (hT : TR n tr s) : TR n (headF keep nh n (tr, h)).1 (headM keep nh ⟨s, h⟩).s ∧ (headF keep nh n (tr, h)).2 = (headM keep nh ⟨s, h⟩).h := by
 have e : keep.all (fun k => (fget n tr k).lt nh) = ltL nh (keepS keep 0 s) := by
  rw [Bool.eq_iff_iff, ltL_iff, List.all_eq_true]
  constructor
  ·intro hk m hm
   obtain ⟨t, ht⟩ := List.getElem?_of_mem hm
   rw [keepS_get, Option.map_eq_some_iff] at ht
   obtain ⟨v, h1, rfl⟩ := ht
   simp only [Nat.zero_add]
   split
   ·rename_i hc
    have := hk t (by simpa using hc)
    rw [hT.g] at this
    simpa [h1] using this
   ·rfl
  ·intro hk k hkm
   rw [hT.g]
   by_cases hl : k < s.length
   ·have := hk s[k] (List.mem_of_getElem? (i := k) (by rw [keepS_get]; simp [hkm, hl]))
    simpa [hl] using this
   ·simp [Nat.not_lt.1 hl]; rfl
 unfold headF headM
 simp only [e]
 split
 ·exact ⟨strikeF_TR hT, rfl⟩
 ·split
  ·exact ⟨strikeF_TR hT, rfl⟩
  ·exact ⟨strikeF_TR hT, rfl⟩
theorem putAllF_TR {n : Nat} : ∀ {ps : List Nat} {vs : List MV} {tr : TS} {s : List MV}, TR n tr s → TR n (putAllF n tr ps vs) (putAll s ps vs)
 | [], vs, tr, s, h => by
  have e1 : putAllF n tr [] vs = tr := by cases vs <;> rfl
  have e2 : putAll s [] vs = s := by cases vs <;> rfl
  rw [e1, e2]; exact h
 | p :: ps, [], tr, s, h => h
 | p :: ps, v :: vs, tr, s, h => putAllF_TR (ps := ps) (vs := vs) (h.set p v)
theorem overH_mono {f f' : List MV → MHeap → Option (MX2 × MHeap)} (hf : ∀ x h r, f x h = some r → f' x h = some r) : ∀ {xs : List (List MV)} {h : MHeap} {r : MX2 × MHeap}, overH f xs h = some r → overH f' xs h = some r
 | [], h, r, he => by simpa [overH] using he
 | x :: xs, h, r, he => by
  simp only [overH] at he ⊢
  split at he
  ·rename_i h' h1
   rw [hf _ _ _ h1]
   exact overH_mono hf he
  ·rename_i y hne
   obtain ⟨y1, y2⟩ := r
   rw [hf _ _ _ he]
   split
   ·rename_i h3 e
    cases e
    exact absurd he (hne _)
   ·rfl
theorem evCF_ok {O : Oracle} {I : Iter} {N n : Nat} : ∀ (mc : MC) (lk : Nat → Bool) (tr : TS) (s : List MV) (h : MHeap) (x : MX2) (st' : FS), TR n tr s → evCF O I N n mc lk (tr, h) = some (x, st') → ∃ s', evC O I N mc lk ⟨s, h⟩ = some (x, ⟨s', st'.2⟩) ∧ TR n st'.1 s' := by
 intro mc
 induction mc with
 | skip => intro lk tr s h x st' hT he; simp only [evCF, Option.some.injEq, Prod.mk.injEq] at he; obtain ⟨rfl, rfl⟩ := he; exact ⟨s, rfl, hT⟩
 | exit id => intro lk tr s h x st' hT he; simp only [evCF, Option.some.injEq, Prod.mk.injEq] at he; obtain ⟨rfl, rfl⟩ := he; exact ⟨s, rfl, hT⟩
 | ret => intro lk tr s h x st' hT he; simp only [evCF, Option.some.injEq, Prod.mk.injEq] at he; obtain ⟨rfl, rfl⟩ := he; exact ⟨s, rfl, hT⟩
 | bad => intro lk tr s h x st' hT he; simp [evCF] at he
 | give t b _ => intro lk tr s h x st' hT he; simp [evCF] at he
 | mr _ _ _ _ _ _ _ _ _ => intro lk tr s h x st' hT he; simp [evCF] at he
 | mrk _ _ _ _ _ _ _ _ _ _ _ _ _ => intro lk tr s h x st' hT he; simp [evCF] at he
 | reg ops =>
  intro lk tr s h x st' hT he
  simp only [evCF] at he
  split at he
  case h_2 => cases he
  rename_i st1 h1
  cases he
  obtain ⟨s', k1, k2⟩ := evRF_ok hT h1
  exact ⟨s', by simp only [evC, k1, Option.map_some], k2⟩
 | seq a b iha ihb =>
  intro lk tr s h x st' hT he
  simp only [evCF] at he
  split at he
  ·rename_i st1 h1
   obtain ⟨s1, k1, k2⟩ := iha lk tr s h _ _ hT h1
   obtain ⟨s2, j1, j2⟩ := ihb lk st1.1 s1 st1.2 _ _ k2 he
   exact ⟨s2, by simp only [evC, k1]; exact j1, j2⟩
  ·rename_i r hne
   obtain ⟨s1, k1, k2⟩ := iha lk tr s h _ _ hT he
   refine ⟨s1, ?_, k2⟩
   simp only [evC, k1]
   cases x with
   | normal => exact absurd he (hne _)
   | exit id => rfl
   | ret => rfl
 | cond c a b iha ihb =>
  intro lk tr s h x st' hT he
  simp only [evCF, gt_get hT.g] at he
  split at he
  case h_2 => cases he
  rename_i t ht
  simp only [evC, ht]
  cases t
  ·simp only [Bool.false_eq_true, if_false] at he ⊢
   exact ihb lk tr s h x st' hT he
  ·simp only [if_true] at he ⊢
   exact iha lk tr s h x st' hT he
 | block id b ih =>
  intro lk tr s h x st' hT he
  simp only [evCF] at he
  split at he
  ·rename_i k st1 h1
   obtain ⟨s1, k1, k2⟩ := ih lk tr s h _ _ hT h1
   simp only [evC, k1]
   split at he
   ·rename_i e
    cases he
    exact ⟨s1, by simp [e], k2⟩
   ·rename_i e
    cases he
    exact ⟨s1, by simp [e], k2⟩
  ·rename_i r hne
   obtain ⟨s1, k1, k2⟩ := ih lk tr s h _ _ hT he
   refine ⟨s1, ?_, k2⟩
   simp only [evC, k1]
   cases x with
   | normal => rfl
   | exit id => exact absurd he (hne _ _)
   | ret => rfl
 | loop keep b ih =>
  intro lk tr s h x st' hT he
  simp only [evCF] at he
  simp only [evC]
  have key : ∀ (M : Nat) (tr1 : TS) (s1 : List MV) (h1 : MHeap), TR n tr1 s1 → roundsF (fun st' => evCF O I N n b lk (headF keep h.length n st')) M (tr1, h1) = some (x, st') → ∃ s', rounds (fun st' => evC O I N b lk (headM keep h.length st')) M ⟨s1, h1⟩ = some (x, ⟨s', st'.2⟩) ∧ TR n st'.1 s' := by
   intro M
   induction M with
   | zero => intro tr1 s1 h1 _ he; simp [roundsF] at he
   | succ M ihM =>
    intro tr1 s1 h1 hT1 he
    obtain ⟨q1, q2⟩ := headF_TR (keep := keep) (nh := h.length) (h := h1) hT1
    have hpair : headF keep h.length n (tr1, h1) = ((headF keep h.length n (tr1, h1)).1, (headM keep h.length ⟨s1, h1⟩).h) := by rw [← q2]
    simp only [roundsF] at he
    rw [hpair] at he
    simp only [rounds]
    split at he
    ·rename_i st2 h2
     obtain ⟨s2, k1, k2⟩ := ih lk _ _ _ _ _ q1 h2
     have k1' : evC O I N b lk (headM keep h.length ⟨s1, h1⟩) = some (.normal, ⟨s2, st2.2⟩) := k1
     simp only [k1']
     exact ihM _ _ _ k2 he
    ·rename_i r hne
     obtain ⟨s2, k1, k2⟩ := ih lk _ _ _ _ _ q1 he
     have k1' : evC O I N b lk (headM keep h.length ⟨s1, h1⟩) = some (x, ⟨s2, st'.2⟩) := k1
     simp only [k1']
     refine ⟨s2, ?_, k2⟩
     cases x with
     | normal => exact absurd he (hne _)
     | exit id => rfl
     | ret => rfl
  exact key N tr s h hT he
 | rf keep f ps a b iha ihb =>
  intro lk tr s h x st' hT he
  simp only [evCF, gt_get hT.g] at he
  split at he
  case h_2 => cases he
  rename_i g k caps hf
  split at he
  case h_2 => cases he
  rename_i xs hxs
  split at he
  case isFalse => cases he
  rename_i hlen
  split at he
  case h_2 => cases he
  rename_i r hov
  simp only [Option.some.injEq, Prod.mk.injEq] at he
  obtain ⟨rfl, rfl⟩ := he
  simp only [evC, hf, hxs, if_pos hlen]
  refine ⟨s, ?_, hT⟩
  rw [overH_mono ?_ hov]
  ·rfl
  ·intro x1 h1 r1 he1
   obtain ⟨q1, q2⟩ := headF_TR (keep := keep) (nh := h.length) (h := h1) hT
   rw [q2] at he1
   split at he1
   ·rename_i st2 h2
    obtain ⟨s2, k1, k2⟩ := iha _ _ _ _ _ _ (putAllF_TR q1) h2
    simp only [k1]
    split at he1
    ·rename_i y st3 h3
     obtain ⟨s3, j1, j2⟩ := ihb _ st2.1 s2 st2.2 _ _ k2 h3
     have j1' : evC O I N b (fun id => lk id || (caps.flatMap (MV.ids h 6)).contains id) ⟨s2, st2.2⟩ = some (y, ⟨s3, st3.2⟩) := j1
     simp only [j1']
     exact he1
    ·cases he1
   ·cases he1
end Go.Proofs.YtnmgpbihknjdjaaDoor

/- Faster evaluation: functions; the oracle. -/
namespace Go.Proofs.YtnmgpbihknjdjaaDoor
open Go.RowKit
noncomputable def insF (tr : TS) (i : Nat) (args : List MV) : TS :=
 List.rec (motive := fun _ => TS → Nat → TS) (fun tr _ => tr) (fun v _ ih tr i => ih (tset tr i v) (i + 1)) args tr i
def resG (g : Nat → MV) (h : MHeap) : MRes → Option MV
 | .tmp t => some (g t)
 | .cell t ag => match g t with
  | .ptr id i off gn => match h[id]? with
   | some o => if o.g = gn then match o.es[i]? with
     | some e => rdCells e.cells off ag
     | none => none
    else none
   | none => none
  | _ => none
 | .cello t ag => match g t with
  | .ptr id i off gn => match h[id]? with
   | some o => if o.g = gn then match o.es[i]? with
     | some e => rdCells e.cells off ag
     | none => none
    else none
   | none => none
  | _ => none
noncomputable def runFf (O : Oracle) (I : Iter) (N : Nat) (m : MF) (args : List MV) (h : MHeap) : Option (MV × MHeap) :=
 if args.length ≤ m.ntmps ∧ m.ntmps ≤ 256 then
  match evCF O I N m.ntmps m.body (fun id => Nat.blt id h.length) (insF (fullT (.lit undef) 8) 0 args, h) with
  | some (x, st) => if outX x then match m.res.mapM (resG (fget m.ntmps st.1) st.2) with
    | some vs => if (impIds h.length (opn m.res vs)).Nodup then match expL h.length (impIds h.length (opn m.res vs)) st.2 (opn m.res vs) h.length with
      | some (vs', news) => some (clo m.res vs vs', h ++ news)
      | none => none
     else none
    | none => none
   else none
  | none => none
 else none
theorem insF_ok : ∀ (args : List MV) (tr : TS) (i : Nat), IsFull 8 tr → i + args.length ≤ 2 ^ 8 → IsFull 8 (insF tr i args) ∧ ∀ t, t < 2 ^ 8 → tget (insF tr i args) t = if i ≤ t ∧ t < i + args.length then args.getD (t - i) (.lit undef) else tget tr t
 | [], tr, i, hf, _ => ⟨hf, fun t _ => by
  have e : insF tr i [] = tr := rfl
  rw [e]
  simp only [List.length_nil, Nat.add_zero]
  split
  ·omega
  ·rfl⟩
 | v :: args, tr, i, hf, hl => by
  have e : insF tr i (v :: args) = insF (tset tr i v) (i + 1) args := rfl
  rw [e]
  simp only [List.length_cons] at hl
  obtain ⟨h1, h2⟩ := insF_ok args (tset tr i v) (i + 1) (full_set _ _ hf) (by omega)
  refine ⟨h1, fun t ht => ?_⟩
  rw [h2 t ht, get_set hf (by omega) ht]
  simp only [List.length_cons]
  by_cases e1 : i = t
  ·subst e1
   have : ¬ (i + 1 ≤ i ∧ i < i + 1 + args.length) := by omega
   simp [this]
  ·by_cases e2 : i + 1 ≤ t ∧ t < i + 1 + args.length
   ·have e3 : i ≤ t ∧ t < i + (args.length + 1) := by omega
    rw [if_pos e2, if_pos e3]
    obtain ⟨d, hd⟩ : ∃ d, t - i = d + 1 := ⟨t - i - 1, by omega⟩
    rw [hd]
    have : t - (i + 1) = d := by omega
    rw [this]
    simp
   ·have e3 : ¬ (i ≤ t ∧ t < i + (args.length + 1)) := by omega
    rw [if_neg e2, if_neg e3, if_neg e1]
theorem init_TR {n : Nat} {args : List MV} (h1 : args.length ≤ n) (h2 : n ≤ 256) : TR n (insF (fullT (.lit undef) 8) 0 args) (args ++ List.replicate (n - args.length) (.lit undef)) := by
 obtain ⟨k1, k2⟩ := insF_ok args (fullT (.lit undef) 8) 0 (full_fullT _ _) (by simpa using Nat.le_trans h1 h2)
 refine ⟨by simp; omega, h2, k1, fun t ht => ?_⟩
 rw [k2 t (Nat.lt_of_lt_of_le ht h2), get_fullT]
 by_cases e : t < args.length
 ·rw [List.getElem?_append_left e]; simp [e]
 ·have : ¬ (0 ≤ t ∧ t < 0 + args.length) := by omega
  rw [if_neg this, List.getElem?_append_right (by omega), List.getElem?_replicate]
  rw [if_pos (by omega)]
theorem resG_eq {g : Nat → MV} {s : List MV} (hg : ∀ t, g t = s.getD t (.lit undef)) (h : MHeap) : resG g h = resM s h := by
 funext r
 cases r with
 | tmp t => simp only [resG, resM, hg]
 | cell t ag => first | (simp only [resG, resM, hg]; done) | (simp only [resG, resM, hg]; rfl)
 | cello t ag => first | (simp only [resG, resM, hg]; done) | (simp only [resG, resM, hg]; rfl)
theorem runFf_ok {O : Oracle} {I : Iter} {N : Nat} {m : MF} {args : List MV} {h : MHeap} {r : MV × MHeap} (he : runFf O I N m args h = some r) : runF O I N m args h = some r := by
 unfold runFf at he
 split at he
 case isFalse => cases he
 rename_i hn
 split at he
 case h_2 => cases he
 rename_i x st hev
 have elk : (fun id => Nat.blt id h.length) = fun id => decide (id < h.length) := by
  funext id
  rw [Bool.eq_iff_iff, Nat.blt_eq]
  simp
 rw [elk] at hev
 obtain ⟨s', k1, k2⟩ := evCF_ok m.body _ _ _ _ _ _ (init_TR hn.1 hn.2) hev
 split at he
 case isFalse => cases he
 rename_i hx
 rw [resG_eq k2.g] at he
 unfold runF
 rw [k1]
 have hx' : x = .ret ∨ x = .normal := by cases x <;> simp [outX] at hx <;> simp
 simp only [if_pos hx']
 exact he
end Go.Proofs.YtnmgpbihknjdjaaDoor

/- Faster evaluation of closed calls: what it answers, the program answers. -/
namespace Go.Proofs.YtnmgpbihknjdjaaDoor
open Go.RowKit
set_option linter.unusedVariables false
def LeO (O O' : Oracle) : Prop := ∀ f as_ h r, O f as_ h = some r → O' f as_ h = some r
def LeI (I I' : Iter) : Prop := ∀ g k cs h r, I g k cs h = some r → I' g k cs h = some r
theorem evO_le {O O' : Oracle} (hO : LeO O O') {lk : Nat → Bool} {s : List MV} {h : MHeap} {mo : MO} {r : MV × MHeap} (he : evO lk O s h mo = some r) : evO lk O' s h mo = some r := by
 cases mo <;> first
  | exact he
  | (simp only [evO] at he ⊢; exact hO _ _ _ _ he)
  | skip
 simp only [evO] at he ⊢
 split at he
 ·exact hO _ _ _ _ he
 ·cases he
theorem evG_le {O O' : Oracle} (hO : LeO O O') {lk : Nat → Bool} {g : GO} {st st' : MSt} (he : evG lk O g st = some st') : evG lk O' g st = some st' := by
 unfold evG at he ⊢
 split at he
 ·cases he
 ·rename_i t ht
  cases t
  ·simpa using he
  ·simp only [if_true] at he ⊢
   split at he
   ·rename_i v h1 hev
    rw [evO_le hO hev]
    exact he
   ·cases he
theorem evR_le {O O' : Oracle} (hO : LeO O O') {lk : Nat → Bool} : ∀ {l : List GO} {st st' : MSt}, evR lk O l st = some st' → evR lk O' l st = some st'
 | [], st, st', he => he
 | o :: l, st, st', he => by
  simp only [evR, Option.bind_eq_some_iff] at he ⊢
  obtain ⟨st1, h1, h2⟩ := he
  exact ⟨st1, evG_le hO h1, evR_le hO h2⟩
theorem rounds_le {f f' : MSt → Option (MX2 × MSt)} (hf : ∀ st r, f st = some r → f' st = some r) : ∀ (n : Nat) (st : MSt) (r : MX2 × MSt), rounds f n st = some r → rounds f' n st = some r
 | 0, st, r, he => by simp [rounds] at he
 | n + 1, st, r, he => by
  simp only [rounds] at he ⊢
  split at he
  ·rename_i st1 h1
   rw [hf _ _ h1]
   exact rounds_le hf n st1 r he
  ·rename_i x hne
   rw [hf _ _ he]
   obtain ⟨y, st2⟩ := r
   cases y with
   | normal => exact absurd he (hne _)
   | exit id => rfl
   | ret => rfl
theorem overS_le {f f' : MV → MSt → Option (MX2 × MSt)} (hf : ∀ c st r, f c st = some r → f' c st = some r) : ∀ (l : List MV) (st : MSt) (r : MX2 × MSt), overS f l st = some r → overS f' l st = some r
 | [], st, r, he => he
 | c :: l, st, r, he => by
  simp only [overS] at he ⊢
  split at he
  ·rename_i st1 h1
   rw [hf _ _ _ h1]
   exact overS_le hf l st1 r he
  ·rename_i x hne
   rw [hf _ _ _ he]
   obtain ⟨y, st2⟩ := r
   cases y with
   | normal => exact absurd he (hne _)
   | exit id => rfl
   | ret => rfl
theorem roundS_le {f f' : MSt → Option (MX2 × MSt)} (hf : ∀ st r, f st = some r → f' st = some r) {keep : List Nat} {L r d e : Nat} {c : MV} {st : MSt} {x : MX2 × MSt} (he : roundS f keep L r d e c st = some x) : roundS f' keep L r d e c st = some x := by
 unfold roundS at he ⊢
 split at he
 case isFalse => cases he
 rename_i hc
 rw [if_pos hc]
 split at he
 case h_2 => cases he
 split at he
 ·rename_i st1 h1
  rw [hf _ _ h1]
  exact he
 ·rename_i y hne
  rw [hf _ _ he]
  obtain ⟨y, st2⟩ := x
  cases y with
  | normal => exact absurd he (hne _)
  | exit id => rfl
  | ret => rfl
theorem evC_le {O O' : Oracle} {I I' : Iter} (hO : LeO O O') (hI : LeI I I') {N : Nat} : ∀ (mc : MC) (lk : Nat → Bool) (st : MSt) (r : MX2 × MSt), evC O I N mc lk st = some r → evC O' I' N mc lk st = some r := by
 intro mc
 induction mc with
 | skip => intro lk st r he; exact he
 | exit id => intro lk st r he; exact he
 | ret => intro lk st r he; exact he
 | bad => intro lk st r he; exact he
 | reg ops =>
  intro lk st r he
  simp only [evC, Option.map_eq_some_iff] at he ⊢
  obtain ⟨st1, h1, h2⟩ := he
  exact ⟨st1, evR_le hO h1, h2⟩
 | seq a b iha ihb =>
  intro lk st r he
  simp only [evC] at he ⊢
  split at he
  ·rename_i st1 h1
   rw [iha _ _ _ h1]
   exact ihb _ _ _ he
  ·rename_i x hne
   rw [iha _ _ _ he]
   obtain ⟨y, st2⟩ := r
   cases y with
   | normal => exact absurd he (hne _)
   | exit id => rfl
   | ret => rfl
 | cond c a b iha ihb =>
  intro lk st r he
  simp only [evC] at he ⊢
  split at he
  ·rename_i t ht
   cases t
   ·simp only [Bool.false_eq_true, if_false] at he ⊢; exact ihb _ _ _ he
   ·simp only [if_true] at he ⊢; exact iha _ _ _ he
  ·cases he
 | block id b ih =>
  intro lk st r he
  simp only [evC] at he ⊢
  split at he
  ·rename_i k st1 h1
   rw [ih _ _ _ h1]
   exact he
  ·rename_i x hne
   rw [ih _ _ _ he]
   obtain ⟨y, st2⟩ := r
   cases y with
   | normal => rfl
   | exit id => exact absurd he (hne _ _)
   | ret => rfl
 | loop keep b ih =>
  intro lk st r he
  simp only [evC] at he ⊢
  exact rounds_le (fun st r h => ih _ _ _ h) N st r he
 | rf keep f ps a b iha ihb =>
  intro lk st r he
  simp only [evC] at he ⊢
  split at he
  case h_2 => cases he
  rename_i g k caps hf
  split at he
  case h_2 => cases he
  rename_i xs hxs
  rw [hI _ _ _ _ _ hxs]
  simp only
  split at he
  case isFalse => cases he
  rename_i hlen
  rw [if_pos hlen]
  rw [Option.map_eq_some_iff] at he ⊢
  obtain ⟨r1, h1, h2⟩ := he
  refine ⟨r1, overH_mono (fun x h r he => ?_) h1, h2⟩
  split at he
  ·rename_i st2 h3
   rw [iha _ _ _ h3]
   simp only
   split at he
   ·rename_i y st3 h4
    rw [ihb _ _ _ h4]
    exact he
   ·cases he
  ·cases he
 | give t b ih =>
  intro lk st r he
  simp only [evC] at he ⊢
  split at he
  ·split at he
   ·exact ih _ _ _ he
   ·cases he
  ·split at he
   ·exact ih _ _ _ he
   ·cases he
 | mr keep ke id m r d e b ih =>
  intro lk st rr he
  simp only [evC] at he ⊢
  split at he
  case h_2 => cases he
  rename_i es hm
  split at he
  case isFalse => cases he
  rename_i hc
  rw [if_pos hc]
  refine mrP_of fun es' hp => ?_
  have h1 := mrP_some he es' hp
  rw [Option.bind_eq_some_iff] at h1 ⊢
  obtain ⟨p, h2, h3⟩ := h1
  exact ⟨p, overS_le (fun c st r he => roundS_le (fun st r h => ih _ _ _ h) he) _ _ _ h2, h3⟩
 | mrk gl keep ke id m r d e b k2 c ih ihc =>
  intro lk st rr he
  simp only [evC] at he ⊢
  cases h0 : evR lk O gl st with
  | none => rw [h0] at he; cases he
  | some st1 =>
   rw [h0] at he
   rw [evR_le hO h0]
   try dsimp only at he ⊢
   split at he
   case h_2 => cases he
   rename_i es hm
   split at he
   case isFalse => cases he
   rename_i hc
   try rw [hm]
   try dsimp only
   rw [if_pos hc]
   refine mrP_of fun es' hp => ?_
   have h1 := mrP_some he es' hp
   rw [Option.map_eq_some_iff] at h1 ⊢
   obtain ⟨p, h2, h3⟩ := h1
   refine ⟨p, ?_, h3⟩
   rw [Option.bind_eq_some_iff] at h2 ⊢
   obtain ⟨q, h4, h5⟩ := h2
   refine ⟨q, ?_, ?_⟩
   ·rw [Option.bind_eq_some_iff] at h4 ⊢
    obtain ⟨u, h6, h7⟩ := h4
    exact ⟨u, overS_le (fun c st r he => roundS_le (fun st r h => ih _ _ _ h) he) _ _ _ h6, h7⟩
   ·split at h5
    ·exact ihc _ _ _ h5
    ·exact h5
theorem runF_le {O O' : Oracle} {I I' : Iter} (hO : LeO O O') (hI : LeI I I') {N : Nat} {m : MF} {as_ : List MV} {h : MHeap} {r : MV × MHeap} (he : runF O I N m as_ h = some r) : runF O' I' N m as_ h = some r := by
 unfold runF at he ⊢
 split at he
 ·rename_i x st h1
  rw [evC_le hO hI _ _ _ _ h1]
  exact he
 ·cases he
theorem frzCall_le {run run' : List MV → Option (MV × MHeap)} (hr : ∀ a r, run a = some r → run' a = some r) {as_ : List MV} {h : MHeap} {r : MV × MHeap} (he : frzCall run as_ h = some r) : frzCall run' as_ h = some r := by
 unfold frzCall at he ⊢
 split at he
 ·rename_i as' h1
  split at he
  ·rename_i m news h2
   rw [hr _ _ h2]
   exact he
  ·cases he
 ·cases he
noncomputable def orL (T : Oracle) (mf : Nat → Option MF) (N : Nat) : Nat → Oracle
 | 0, _, _, _ => none
 | k + 1, f, as_, h => frzCall (fun as' => match T f as' [] with
  | some r => some r
  | none => match mf f with
   | some m => runFf (orL T mf N k) noI N m as' []
   | none => none) as_ h
theorem orL_up {M : Tab} {T : Oracle} {I0 : Iter} {N : Nat} {mf : Nat → Option MF} (hmf : ∀ f m, mf f = some m → M.mf f = some m) (e : Nat) : ∀ k, LeO (orL T mf N k) (orZ M T I0 N (k + e))
 | 0 => fun f as_ h r he => by simp [orL] at he
 | k + 1 => fun f as_ h r he => by
  simp only [orL] at he
  rw [show k + 1 + e = (k + e) + 1 by omega]
  simp only [orZ]
  rw [frzCall_le (run' := tabZ M T (orZ M T I0 N (k + e)) (orI M I0 (orZ M T I0 N (k + e)) N) N f) (fun a r hr => ?_) he]
  unfold tabZ
  split at hr
  ·rename_i r0 hT
   first | exact hr | (rw [hT]; exact hr)
  ·rename_i hT
   split at hr
   ·rename_i m hm
    try rw [hT]
    show runZ M (orZ M T I0 N (k + e)) (orI M I0 (orZ M T I0 N (k + e)) N) N f a [] = some r
    unfold runZ
    rw [hmf f m hm]
    exact runF_le (orL_up hmf e k) (fun g k cs h r he => by cases he) (runFf_ok hr)
   ·cases hr
def OkT (M : Tab) (l : List (Nat × MF)) : Prop := ∀ p ∈ l, M.mf p.1 = some p.2
theorem OkT.nil {M : Tab} : OkT M [] := fun p hp => by cases hp
theorem OkT.cons {M : Tab} {k : Nat} {m : MF} {l : List (Nat × MF)} (h : M.mf k = some m) (hl : OkT M l) : OkT M ((k, m) :: l) := fun p hp => by
 rcases List.mem_cons.1 hp with rfl | hp
 ·exact h
 ·exact hl p hp
noncomputable def lookT (l : List (Nat × MF)) (f : Nat) : Option MF :=
 List.rec (motive := fun _ => Option MF) none (fun p _ ih => Bool.rec (motive := fun _ => Option MF) ih (some p.2) (Nat.beq f p.1)) l
theorem OkT.look {M : Tab} {f : Nat} {m : MF} : ∀ {l : List (Nat × MF)}, OkT M l → lookT l f = some m → M.mf f = some m
 | [], _, h => by cases h
 | p :: l, hl, h => by
  have e : lookT (p :: l) f = Bool.rec (motive := fun _ => Option MF) (lookT l f) (some p.2) (Nat.beq f p.1) := rfl
  rw [e] at h
  cases hb : Nat.beq f p.1
  ·rw [hb] at h
   exact OkT.look (fun q hq => hl q (List.mem_cons_of_mem _ hq)) h
  ·rw [hb] at h
   cases h
   rw [Nat.eq_of_beq_eq_true hb]
   exact hl p List.mem_cons_self
theorem runL_ok {M : Tab} {T : Oracle} {I0 : Iter} {N : Nat} {mf : Nat → Option MF} (hmf : ∀ f m, mf f = some m → M.mf f = some m) {k f : Nat} {m : MF} {as_ : List MV} {r : MV × MHeap} (hm : mf f = some m) (he : runFf (orL T mf N k) noI N m as_ [] = some r) (I : Iter) : runZ M (orZ M T I0 N k) I N f as_ [] = some r := by
 unfold runZ
 rw [hmf f m hm]
 exact runF_le (orL_up hmf 0 k) (fun g k cs h r he => by cases he) (runFf_ok he)
end Go.Proofs.YtnmgpbihknjdjaaDoor

/- The texts that the examples reach, as a table. -/
namespace Go.Proofs.YtnmgpbihknjdjaaDoor
open Go.RowKit
noncomputable def mfW_l14 : MF := ⟨75, [(.tmp 4), (.tmp 5), (.tmp 6)], (.seq (.reg [gO 4 (.nil0 1), gO 5 (.mv (cI 0)), gO 6 (.mv (cI 0))]) (.seq (.seq (.reg [gO 16 (.mv (.s 0)), gO 17 (.mv (.s 1)), gO 18 (.call 37 [.s 16, .s 17]), gO 7 (.mv (.s 18))]) (.seq (.reg [gO 19 (.mv (.s 7)), gO 20 (.bin .neq (.s 19) (cI 0))]) (.cond (.s 20) (.seq (.reg [gO 21 (.mv (.s 7)), gO 4 (.nil0 1), gO 5 (.mv (cI 0)), gO 6 (.mv (.s 21))]) .ret) .skip))) (.seq (.reg [gO 8 (.nil0 1)]) (.seq (.reg [gO 9 (.mv (cI 0))]) (.seq (.seq (.reg [gO 22 (.mv (.s 0)), gO 23 (.len (.s 22)), gO 24 (.shf .shl (.c (.lit (.int .u64 1))) (.s 23)), gO 25 (.mv (.c (.lit (.int .u64 0))))]) (.block 0 (.loop [25, 24, 0, 1, 9, 8] (.seq (.reg [gO 26 (.bin .lss (.s 25) (.s 24))]) (.seq (.cond (.s 26) .skip (.exit 0)) (.seq (.block 1 (.seq (.reg [gO 27 (.mv (.s 25)), gO 10 (.mv (.s 27))]) (.seq (.reg [gO 28 (.mv (.s 10)), gO 29 (.call 38 [.s 28]), gO 11 (.mv (.s 29))]) (.seq (.reg [gO 12 (.mv (cI 0)), gO 13 (.mv (cI 0))]) (.seq (.seq (.reg [gO 30 (.mv (.s 11)), gO 31 (.len (.s 30)), gO 32 (.mv (cI 0))]) (.block 2 (.loop [32, 31, 30, 12, 0, 13, 1, 9, 11, 8, 25, 24] (.seq (.reg [gO 33 (.bin .lss (.s 32) (.s 31))]) (.seq (.cond (.s 33) .skip (.exit 2)) (.seq (.block 3 (.seq (.reg [gO 34 (.ia 1 (.s 30) (.s 32)), gO 35 (.ld none (.s 34)), gO 15 (.mv (.s 35))]) (.reg [gO 36 (.mv (.s 12)), gO 37 (.mv (.s 0)), gO 38 (.mv (.s 15)), gO 39 (.ia 3 (.s 37) (.s 38)), gO 40 (.fa 1 (.s 39)), gO 41 (.ld none (.s 40)), gO 42 (.bin .add (.s 36) (.s 41)), gO 43 (.mv (.s 13)), gO 44 (.mv (.s 0)), gO 45 (.mv (.s 15)), gO 46 (.ia 3 (.s 44) (.s 45)), gO 47 (.fa 2 (.s 46)), gO 48 (.ld none (.s 47)), gO 49 (.bin .add (.s 43) (.s 48)), gO 12 (.mv (.s 42)), gO 13 (.mv (.s 49))]))) (.reg [gO 50 (.bin .add (.s 32) (cI 1)), gO 32 (.mv (.s 50))]))))))) (.seq (.reg [gO 51 (.mv (.s 12)), gO 52 (.mv (.s 1)), gO 53 (.bin .leq (.s 51) (.s 52)), gO 54 (.mv (.s 53)), ⟨some (54, true), some 55, .mv (.s 13)⟩, ⟨some (54, true), some 56, .mv (.s 9)⟩, ⟨some (54, true), some 57, .bin .gtr (.s 55) (.s 56)⟩, ⟨some (54, true), some 58, .mv (.s 57)⟩, ⟨some (58, false), some 59, .mv (.s 13)⟩, ⟨some (58, false), some 60, .mv (.s 9)⟩, ⟨some (58, false), some 61, .bin .eql (.s 59) (.s 60)⟩, ⟨some (58, false), some 62, .mv (.s 61)⟩, ⟨some (62, true), some 63, .mv (.s 11)⟩, ⟨some (62, true), some 64, .mv (.s 8)⟩, ⟨some (62, true), some 65, .call 39 [.s 63, .s 64]⟩, ⟨some (62, true), some 66, .bin .lss (.s 65) (cI 0)⟩, ⟨some (58, false), some 67, .pick (.s 62) (.s 66) cF⟩, ⟨some (54, true), some 68, .pick (.s 58) cT (.s 67)⟩, gO 69 (.pick (.s 54) (.s 68) cF)]) (.cond (.s 69) (.reg [gO 70 (.mv (.s 11)), gO 71 (.mv (.s 13)), gO 8 (.mv (.s 70)), gO 9 (.mv (.s 71))]) .skip))))))) (.reg [gO 72 (.bin .add (.s 25) (.c (.lit (.int .u64 1)))), gO 25 (.mv (.s 72))]))))))) (.seq (.reg [gO 73 (.mv (.s 8)), gO 74 (.mv (.s 9)), gO 4 (.mv (.s 73)), gO 5 (.mv (.s 74)), gO 6 (.mv (cI 0))]) .ret))))))⟩
theorem mfW_q14 : MT.mf 14 = some mfW_l14 := by kernel_rfl
noncomputable def mfW_l32 : MF := ⟨15, [(.tmp 2)], (.seq (.reg [gO 2 (.mv (cI 0))]) (.seq (.seq (.reg [gO 5 (.mv (.s 0)), gO 6 (.len (.s 5)), gO 7 (.mv (cI 0))]) (.block 0 (.loop [7, 6, 5] (.seq (.reg [gO 8 (.bin .lss (.s 7) (.s 6))]) (.seq (.cond (.s 8) .skip (.exit 0)) (.seq (.block 1 (.seq (.reg [gO 9 (.ia 1 (.s 5) (.s 7)), gO 10 (.ld none (.s 9)), gO 4 (.mv (.s 10))]) (.seq (.reg [gO 11 (.mv (.s 4)), gO 12 (.bin .neq (.s 11) (cI 0))]) (.cond (.s 12) (.seq (.reg [gO 13 (.mv (.s 4)), gO 2 (.mv (.s 13))]) .ret) .skip)))) (.reg [gO 14 (.bin .add (.s 7) (cI 1)), gO 7 (.mv (.s 14))]))))))) (.seq (.reg [gO 2 (.mv (cI 0))]) .ret)))⟩
theorem mfW_q32 : MT.mf 32 = some mfW_l32 := by kernel_rfl
noncomputable def mfW_l33 : MF := ⟨7, [(.tmp 4)], (.seq (.reg [gO 4 (.mv (cI 0))]) (.seq (.seq (.reg [gO 5 (.mv (.s 0))]) (.cond (.s 5) (.seq (.reg [gO 4 (.mv (cI 0))]) .ret) .skip)) (.seq (.reg [gO 6 (.mv (.s 1)), gO 4 (.mv (.s 6))]) .ret)))⟩
theorem mfW_q33 : MT.mf 33 = some mfW_l33 := by kernel_rfl
noncomputable def mfW_l34 : MF := ⟨15, [(.tmp 6)], (.seq (.reg [gO 6 (.mv cF)]) (.seq (.reg [gO 7 (.mv (.s 1)), gO 8 (.mv (.s 0)), gO 9 (.bin .leq (.s 7) (.s 8)), gO 10 (.mv (.s 9)), ⟨some (10, true), some 11, .mv (.s 0)⟩, ⟨some (10, true), some 12, .mv (.s 2)⟩, ⟨some (10, true), some 13, .bin .leq (.s 11) (.s 12)⟩, gO 14 (.pick (.s 10) (.s 13) cF), gO 6 (.mv (.s 14))]) .ret))⟩
theorem mfW_q34 : MT.mf 34 = some mfW_l34 := by kernel_rfl
noncomputable def mfW_l37 : MF := ⟨18, [(.tmp 4)], (.seq (.reg [gO 4 (.mv (cI 0))]) (.seq (.reg [gO 8 (.mv (.s 0)), gO 9 (.call 46 [.s 8]), gO 7 (.mv (.s 9)), gO 10 (.ext (.s 7) 0), gO 11 (.ext (.s 7) 1), gO 5 (.mv (.s 10)), gO 6 (.mv (.s 11))]) (.seq (.reg [gO 12 (.mv (.s 6)), gO 13 (.mv (.s 1)), gO 14 (.call 34 [.s 13, (cI 0), (cI 1000000)]), gO 15 (.call 33 [.s 14, (cI 2)]), gO 16 (.bsl (.lit (.int .i64 0)) 1 2 [(0, (.s 12)), (1, (.s 15))]), gO 17 (.call 32 [.s 16]), gO 4 (.mv (.s 17))]) .ret)))⟩
theorem mfW_q37 : MT.mf 37 = some mfW_l37 := by kernel_rfl
noncomputable def mfW_l38 : MF := ⟨16, [(.tmp 2)], (.seq (.reg [gO 2 (.nil0 1)]) (.seq (.reg [gO 3 (.nil0 1)]) (.seq (.block 0 (.loop [0, 3] (.seq (.seq (.reg [gO 4 (.mv (.s 0)), gO 5 (.bin .neq (.s 4) (.c (.lit (.int .u64 0))))]) (.cond (.s 5) .skip (.exit 0))) (.seq (.block 1 (.reg [gO 10 (.mv (.s 3)), gO 11 (.mv (.s 0)), gO 12 (.call 47 [.s 11]), gO 13 (.bsl (.lit (.int .i64 0)) 1 1 [(0, (.s 12))]), gO 14 (.app 1 (.s 10) (.s 13)), gO 3 (.mv (.s 14))])) (.reg [gO 6 (.mv (.s 0)), gO 7 (.mv (.s 0)), gO 8 (.bin .sub (.s 7) (.c (.lit (.int .u64 1)))), gO 9 (.bin .and (.s 6) (.s 8)), gO 0 (.mv (.s 9))]))))) (.seq (.reg [gO 15 (.mv (.s 3)), gO 2 (.mv (.s 15))]) .ret))))⟩
theorem mfW_q38 : MT.mf 38 = some mfW_l38 := by kernel_rfl
noncomputable def mfW_l39 : MF := ⟨36, [(.tmp 4)], (.seq (.reg [gO 4 (.mv (cI 0))]) (.seq (.seq (.reg [gO 9 (.mv (.s 0)), gO 10 (.len (.s 9)), gO 11 (.mv (cI 0))]) (.block 0 (.loop [11, 10, 9, 1, 0] (.seq (.reg [gO 12 (.bin .lss (.s 11) (.s 10))]) (.seq (.cond (.s 12) .skip (.exit 0)) (.seq (.block 1 (.seq (.reg [gO 13 (.mv (.s 11)), gO 14 (.ia 1 (.s 9) (.s 11)), gO 15 (.ld none (.s 14)), gO 5 (.mv (.s 13)), gO 6 (.mv (.s 15))]) (.seq (.seq (.reg [gO 16 (.mv (.s 5)), gO 17 (.mv (.s 1)), gO 18 (.len (.s 17)), gO 19 (.bin .geq (.s 16) (.s 18))]) (.cond (.s 19) (.seq (.reg [gO 4 (.mv (cI 1))]) .ret) .skip)) (.seq (.reg [gO 20 (.mv (.s 1)), gO 21 (.mv (.s 5)), gO 22 (.ia 1 (.s 20) (.s 21)), gO 23 (.ld none (.s 22)), gO 7 (.mv (.s 23))]) (.seq (.reg [gO 24 (.mv (.s 6)), gO 25 (.mv (.s 7)), gO 26 (.call 48 [.s 24, .s 25]), gO 8 (.mv (.s 26))]) (.seq (.reg [gO 27 (.mv (.s 8)), gO 28 (.bin .neq (.s 27) (cI 0))]) (.cond (.s 28) (.seq (.reg [gO 29 (.mv (.s 8)), gO 4 (.mv (.s 29))]) .ret) .skip))))))) (.reg [gO 30 (.bin .add (.s 11) (cI 1)), gO 11 (.mv (.s 30))]))))))) (.seq (.seq (.reg [gO 31 (.mv (.s 0)), gO 32 (.len (.s 31)), gO 33 (.mv (.s 1)), gO 34 (.len (.s 33)), gO 35 (.bin .lss (.s 32) (.s 34))]) (.cond (.s 35) (.seq (.reg [gO 4 (.mv (cI (-1)))]) .ret) .skip)) (.seq (.reg [gO 4 (.mv (cI 0))]) .ret))))⟩
theorem mfW_q39 : MT.mf 39 = some mfW_l39 := by kernel_rfl
noncomputable def mfW_l46 : MF := ⟨12, [(.tmp 2), (.tmp 3)], (.seq (.reg [gO 1 (.box 1 (.s 0)), gO 2 (.mv (cI 0)), gO 3 (.mv (cI 0))]) (.seq (.seq (.reg [gO 4 (.ld none (.s 1)), gO 5 (.len (.s 4)), gO 6 (.bin .gtr (.s 5) (cI 12))]) (.cond (.s 6) (.seq (.reg [gO 2 (.mv (cI 0)), gO 3 (.mv (cI 8))]) .ret) .skip)) (.seq (.reg [gO 7 (.ld none (.s 1)), gO 8 (.mf 50 0 [.s 1]), gO 9 (.call 49 [.s 7, .s 8]), gO 10 (.ext (.s 9) 0), gO 11 (.ext (.s 9) 1), gO 2 (.mv (.s 10)), gO 3 (.mv (.s 11))]) .ret)))⟩
theorem mfW_q46 : MT.mf 46 = some mfW_l46 := by kernel_rfl
noncomputable def mfW_l47 : MF := ⟨8, [(.tmp 2)], (.seq (.reg [gO 2 (.mv (cI 0))]) (.seq (.cond cF (.seq (.reg [gO 3 (.mv (.s 0)), gO 4 (.cv .u32 (.s 3)), gO 5 (.call 54 [.s 4]), gO 2 (.mv (.s 5))]) .ret) .skip) (.seq (.reg [gO 6 (.mv (.s 0)), gO 7 (.call 55 [.s 6]), gO 2 (.mv (.s 7))]) .ret)))⟩
theorem mfW_q47 : MT.mf 47 = some mfW_l47 := by kernel_rfl
noncomputable def mfW_l48 : MF := ⟨20, [(.tmp 4)], (.seq (.reg [gO 4 (.mv (cI 0))]) (.seq (.reg [gO 7 (.mv (.s 0)), gO 8 (.call 56 [.s 7]), gO 5 (.mv (.s 8))]) (.seq (.reg [gO 9 (.mv (.s 1)), gO 10 (.call 56 [.s 9]), gO 6 (.mv (.s 10))]) (.seq (.seq (.reg [gO 11 (.mv (.s 5))]) (.cond (.s 11) (.seq (.seq (.reg [gO 12 (.mv (.s 6))]) (.cond (.s 12) (.seq (.reg [gO 4 (.mv (cI 0))]) .ret) .skip)) (.seq (.reg [gO 4 (.mv (cI (-1)))]) .ret)) .skip)) (.seq (.seq (.reg [gO 13 (.mv (.s 6))]) (.cond (.s 13) (.seq (.reg [gO 4 (.mv (cI 1))]) .ret) .skip)) (.seq (.seq (.reg [gO 14 (.mv (.s 0)), gO 15 (.mv (.s 1)), gO 16 (.bin .lss (.s 14) (.s 15))]) (.cond (.s 16) (.seq (.reg [gO 4 (.mv (cI (-1)))]) .ret) .skip)) (.seq (.seq (.reg [gO 17 (.mv (.s 0)), gO 18 (.mv (.s 1)), gO 19 (.bin .gtr (.s 17) (.s 18))]) (.cond (.s 19) (.seq (.reg [gO 4 (.mv (cI 1))]) .ret) .skip)) (.seq (.reg [gO 4 (.mv (cI 0))]) .ret))))))))⟩
theorem mfW_q48 : MT.mf 48 = some mfW_l48 := by kernel_rfl
noncomputable def mfW_l49 : MF := ⟨25, [(.tmp 4), (.tmp 5)], (.seq (.reg [gO 4 (.mv (cI 0)), gO 5 (.mv (cI 0))]) (.seq (.seq (.reg [gO 9 (.mv (.s 0)), gO 10 (.len (.s 9)), gO 11 (.mv (cI 0))]) (.block 0 (.loop [11, 10, 9, 1] (.seq (.reg [gO 12 (.bin .lss (.s 11) (.s 10))]) (.seq (.cond (.s 12) .skip (.exit 0)) (.seq (.block 1 (.seq (.reg [gO 13 (.mv (.s 11)), gO 14 (.ia 3 (.s 9) (.s 11)), gO 15 (.ld (some 3) (.s 14)), gO 7 (.new (.agg [(.lit (.string ⟨#[]⟩)), (.lit (.int .i64 0)), (.lit (.int .i64 0))])), gO 6 (.mv (.s 13)), ⟨none, none, .st 3 (.s 7) (.s 15)⟩]) (.seq (.reg [gO 16 (.mv (.s 1)), gO 17 (.mv (.s 6)), gO 18 (.ld (some 3) (.s 7)), gO 19 (.callv (.s 16) [.s 17, .s 18]), gO 8 (.mv (.s 19))]) (.seq (.reg [gO 20 (.mv (.s 8)), gO 21 (.bin .neq (.s 20) (cI 0))]) (.cond (.s 21) (.seq (.reg [gO 22 (.mv (.s 6)), gO 23 (.mv (.s 8)), gO 4 (.mv (.s 22)), gO 5 (.mv (.s 23))]) .ret) .skip))))) (.reg [gO 24 (.bin .add (.s 11) (cI 1)), gO 11 (.mv (.s 24))]))))))) (.seq (.reg [gO 4 (.mv (cI 0)), gO 5 (.mv (cI 0))]) .ret)))⟩
theorem mfW_q49 : MT.mf 49 = some mfW_l49 := by kernel_rfl
noncomputable def mfW_l50 : MF := ⟨32, [(.tmp 5)], (.seq (.reg [gO 4 (.box 3 (.s 1)), gO 5 (.mv (cI 0))]) (.seq (.reg [gO 8 (.ld none (.s 2)), gO 9 (.mv (.s 0)), gO 10 (.slc 3 (.s 8) none (some (.s 9))), gO 11 (.mf 52 0 [.s 4]), gO 12 (.call 51 [.s 10, .s 11]), gO 6 (.mv (.s 12))]) (.seq (.reg [gO 13 (.fa 1 (.s 4)), gO 14 (.ld none (.s 13)), gO 15 (.call 34 [.s 14, (cI 1), (cI 1000000)]), gO 16 (.mv (.s 15)), ⟨some (16, true), some 17, .fa 2 (.s 4)⟩, ⟨some (16, true), some 18, .ld none (.s 17)⟩, ⟨some (16, true), some 19, .call 34 [.s 18, (cI 0), (cI 1000000)]⟩, gO 20 (.pick (.s 16) (.s 19) cF), gO 7 (.mv (.s 20))]) (.seq (.reg [gO 21 (.fa 0 (.s 4)), gO 22 (.ld none (.s 21)), gO 23 (.call 53 [.s 22]), gO 24 (.call 33 [.s 23, (cI 4)]), gO 25 (.mv (.s 6)), gO 26 (.un .not (.s 25)), gO 27 (.call 33 [.s 26, (cI 5)]), gO 28 (.mv (.s 7)), gO 29 (.call 33 [.s 28, (cI 2)]), gO 30 (.bsl (.lit (.int .i64 0)) 1 3 [(0, (.s 24)), (1, (.s 27)), (2, (.s 29))]), gO 31 (.call 32 [.s 30]), gO 5 (.mv (.s 31))]) .ret))))⟩
theorem mfW_q50 : MT.mf 50 = some mfW_l50 := by kernel_rfl
noncomputable def mfW_l51 : MF := ⟨9, [(.tmp 4)], (.seq (.reg [gO 4 (.mv cF)]) (.seq (.reg [gO 5 (.mv (.s 0)), gO 6 (.mv (.s 1)), gO 7 (.call 57 [.s 5, .s 6]), gO 8 (.bin .geq (.s 7) (cI 0)), gO 4 (.mv (.s 8))]) .ret))⟩
theorem mfW_q51 : MT.mf 51 = some mfW_l51 := by kernel_rfl
noncomputable def mfW_l52 : MF := ⟨9, [(.tmp 3)], (.seq (.reg [gO 2 (.box 3 (.s 0)), gO 3 (.mv cF)]) (.seq (.reg [gO 4 (.fa 0 (.s 2)), gO 5 (.ld none (.s 4)), gO 6 (.fa 0 (.s 1)), gO 7 (.ld none (.s 6)), gO 8 (.seq false (.s 5) (.s 7)), gO 3 (.mv (.s 8))]) .ret))⟩
theorem mfW_q52 : MT.mf 52 = some mfW_l52 := by kernel_rfl
noncomputable def mfW_l53 : MF := ⟨38, [(.tmp 2)], (.seq (.reg [gO 2 (.mv cF)]) (.seq (.seq (.reg [gO 6 (.mv (.s 0)), gO 7 (.s2b (.s 6)), gO 8 (.len (.s 7)), gO 9 (.mv (cI 0))]) (.block 0 (.loop [9, 8, 7, 0] (.seq (.reg [gO 10 (.bin .lss (.s 9) (.s 8))]) (.seq (.cond (.s 10) .skip (.exit 0)) (.seq (.block 1 (.seq (.reg [gO 11 (.mv (.s 9)), gO 12 (.ia 1 (.s 7) (.s 9)), gO 13 (.ld none (.s 12)), gO 3 (.mv (.s 11)), gO 4 (.mv (.s 13))]) (.seq (.reg [gO 14 (.mv (.s 4)), gO 15 (.bin .or (.s 14) (.c (.lit (.int .u8 32)))), gO 16 (.cv .i64 (.s 15)), gO 17 (.call 34 [.s 16, (cI 97), (cI 122)]), gO 5 (.mv (.s 17))]) (.seq (.reg [gO 18 (.mv (.s 5)), gO 19 (.un .not (.s 18)), gO 20 (.mv (.s 19)), ⟨some (20, true), some 21, .mv (.s 3)⟩, ⟨some (20, true), some 22, .bin .eql (.s 21) (cI 0)⟩, ⟨some (20, true), some 23, .mv (.s 22)⟩, ⟨some (23, false), some 24, .mv (.s 4)⟩, ⟨some (23, false), some 25, .bin .neq (.s 24) (.c (.lit (.int .u8 45)))⟩, ⟨some (23, false), some 26, .mv (.s 25)⟩, ⟨some (26, true), some 27, .mv (.s 4)⟩, ⟨some (26, true), some 28, .cv .i64 (.s 27)⟩, ⟨some (26, true), some 29, .call 34 [.s 28, (cI 48), (cI 57)]⟩, ⟨some (26, true), some 30, .un .not (.s 29)⟩, ⟨some (23, false), some 31, .pick (.s 26) (.s 30) cF⟩, ⟨some (20, true), some 32, .pick (.s 23) cT (.s 31)⟩, gO 33 (.pick (.s 20) (.s 32) cF)]) (.cond (.s 33) (.seq (.reg [gO 2 (.mv cF)]) .ret) .skip))))) (.reg [gO 34 (.bin .add (.s 9) (cI 1)), gO 9 (.mv (.s 34))]))))))) (.seq (.reg [gO 35 (.mv (.s 0)), gO 36 (.sln (.s 35)), gO 37 (.call 34 [.s 36, (cI 1), (cI 12)]), gO 2 (.mv (.s 37))]) .ret)))⟩
theorem mfW_q53 : MT.mf 53 = some mfW_l53 := by kernel_rfl
noncomputable def mfW_l54 : MF := ⟨14, [(.tmp 2)], (.seq (.reg [gO 2 (.mv (cI 0))]) (.seq (.seq (.reg [gO 3 (.mv (.s 0)), gO 4 (.bin .eql (.s 3) (.c (.lit (.int .u32 0))))]) (.cond (.s 4) (.seq (.reg [gO 2 (.mv (cI 32))]) .ret) .skip)) (.seq (.reg [gO 5 (.mv (.s 0)), gO 6 (.mv (.s 0)), gO 7 (.un .neg (.s 6)), gO 8 (.bin .and (.s 5) (.s 7)), gO 9 (.bin .mul (.s 8) (.c (.lit (.int .u32 125613361)))), gO 10 (.shf .shr (.s 9) (.c (.lit (.int .u64 27)))), gO 11 (.bad), gO 12 (.ld none (.s 11)), gO 13 (.cv .i64 (.s 12)), gO 2 (.mv (.s 13))]) .ret)))⟩
theorem mfW_q54 : MT.mf 54 = some mfW_l54 := by kernel_rfl
noncomputable def mfW_l55 : MF := ⟨14, [(.tmp 2)], (.seq (.reg [gO 2 (.mv (cI 0))]) (.seq (.seq (.reg [gO 3 (.mv (.s 0)), gO 4 (.bin .eql (.s 3) (.c (.lit (.int .u64 0))))]) (.cond (.s 4) (.seq (.reg [gO 2 (.mv (cI 64))]) .ret) .skip)) (.seq (.reg [gO 5 (.mv (.s 0)), gO 6 (.mv (.s 0)), gO 7 (.un .neg (.s 6)), gO 8 (.bin .and (.s 5) (.s 7)), gO 9 (.bin .mul (.s 8) (.c (.lit (.int .u64 285870213051353865)))), gO 10 (.shf .shr (.s 9) (.c (.lit (.int .u64 58)))), gO 11 (.bad), gO 12 (.ld none (.s 11)), gO 13 (.cv .i64 (.s 12)), gO 2 (.mv (.s 13))]) .ret)))⟩
theorem mfW_q55 : MT.mf 55 = some mfW_l55 := by kernel_rfl
noncomputable def mfW_l56 : MF := ⟨6, [(.tmp 2)], (.seq (.reg [gO 2 (.mv cF)]) (.seq (.reg [gO 3 (.mv (.s 0)), gO 4 (.mv (.s 0)), gO 5 (.bin .neq (.s 3) (.s 4)), gO 2 (.mv (.s 5))]) .ret))⟩
theorem mfW_q56 : MT.mf 56 = some mfW_l56 := by kernel_rfl
noncomputable def mfW_l57 : MF := ⟨19, [(.tmp 4)], (.seq (.reg [gO 4 (.mv (cI 0))]) (.seq (.seq (.reg [gO 6 (.mv (.s 0)), gO 7 (.len (.s 6)), gO 8 (.mv (cI 0))]) (.block 0 (.loop [8, 7, 1, 0] (.seq (.reg [gO 9 (.bin .lss (.s 8) (.s 7))]) (.seq (.cond (.s 9) .skip (.exit 0)) (.seq (.block 1 (.seq (.reg [gO 10 (.mv (.s 8)), gO 5 (.mv (.s 10))]) (.seq (.reg [gO 11 (.mv (.s 1)), gO 12 (.mv (.s 0)), gO 13 (.mv (.s 5)), gO 14 (.ia 3 (.s 12) (.s 13)), gO 15 (.ld (some 3) (.s 14)), gO 16 (.callv (.s 11) [.s 15])]) (.cond (.s 16) (.seq (.reg [gO 17 (.mv (.s 5)), gO 4 (.mv (.s 17))]) .ret) .skip)))) (.reg [gO 18 (.bin .add (.s 8) (cI 1)), gO 8 (.mv (.s 18))]))))))) (.seq (.reg [gO 4 (.mv (cI (-1)))]) .ret)))⟩
theorem mfW_q57 : MT.mf 57 = some mfW_l57 := by kernel_rfl
noncomputable def mfW_t : List (Nat × MF) := [(14, mfW_l14), (32, mfW_l32), (33, mfW_l33), (34, mfW_l34), (37, mfW_l37), (38, mfW_l38), (39, mfW_l39), (46, mfW_l46), (47, mfW_l47), (48, mfW_l48), (49, mfW_l49), (50, mfW_l50), (51, mfW_l51), (52, mfW_l52), (53, mfW_l53), (54, mfW_l54), (55, mfW_l55), (56, mfW_l56), (57, mfW_l57)]
theorem mfW_k : OkT MT mfW_t := OkT.cons mfW_q14 (OkT.cons mfW_q32 (OkT.cons mfW_q33 (OkT.cons mfW_q34 (OkT.cons mfW_q37 (OkT.cons mfW_q38 (OkT.cons mfW_q39 (OkT.cons mfW_q46 (OkT.cons mfW_q47 (OkT.cons mfW_q48 (OkT.cons mfW_q49 (OkT.cons mfW_q50 (OkT.cons mfW_q51 (OkT.cons mfW_q52 (OkT.cons mfW_q53 (OkT.cons mfW_q54 (OkT.cons mfW_q55 (OkT.cons mfW_q56 (OkT.cons mfW_q57 (OkT.nil)))))))))))))))))))
noncomputable def mfW : Nat → Option MF := lookT mfW_t
theorem mfW_ok (f : Nat) (m : MF) (h : mfW f = some m) : MT.mf f = some m := mfW_k.look h
abbrev stB (c : UInt8) : MV := .lit (.string ⟨#[c]⟩)
abbrev itemE : List MV := [.agg [stB 97, I64 5, I64 10], .agg [stB 98, I64 4, I64 7], .agg [stB 99, I64 3, I64 6]]
abbrev itemX : MV := .sl itemE
end Go.Proofs.YtnmgpbihknjdjaaDoor
