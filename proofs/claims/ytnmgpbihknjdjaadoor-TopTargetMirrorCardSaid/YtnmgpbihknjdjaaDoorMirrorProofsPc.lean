/- Ranges over maps: in whatever order the entries come. -/
import Derived.LoopNIn
import Derived.Laws.IdiomRangeMap
import Derived.Test.YtnmgpbihknjdjaaDoorMirrorProofsPb
set_option linter.unusedVariables false
set_option linter.unusedSimpArgs false
/- Regions in the order of the text. -/
namespace Go.Proofs.YtnmgpbihknjdjaaDoor
open Go.RowKit
section
variable {lk : Nat → Bool} {P : Program} {O : Oracle} {ops : Array Oper} {w : World} {E : Env} {o : Oper} {go : GO} {a : Act} {s : List MV} {h : MHeap}
theorem compG_dst (hc : compG P ops o = some go) : go.dst = o.dst := by
 unfold compG at hc
 rw [Option.map_eq_some_iff] at hc
 obtain ⟨g, -, rfl⟩ := hc
 rfl
theorem compG_op (hc : compG P ops o = some go) : go.op = (compO P o).getD .bad := by
 unfold compG at hc
 rw [Option.map_eq_some_iff] at hc
 obtain ⟨g, -, rfl⟩ := hc
 rfl
theorem compG_guard (hc : compG P ops o = some go) : (o.guard = none ∧ go.guard = none) ∨ ∃ j b oj d, o.guard = some (j, b) ∧ ops[j]? = some oj ∧ oj.dst = some d ∧ go.guard = some (d, b) := by
 unfold compG at hc
 rw [Option.map_eq_some_iff] at hc
 obtain ⟨g, hg, rfl⟩ := hc
 unfold gM at hg
 split at hg
 ·rename_i e
  cases hg
  exact .inl ⟨e, rfl⟩
 ·rename_i j b e
  simp only [Option.bind_eq_some_iff, Option.map_eq_some_iff] at hg
  obtain ⟨oj, h1, d, h2, rfl⟩ := hg
  exact .inr ⟨j, b, oj, d, e, h1, h2, rfl⟩
theorem wantM_wanted (hc : compG P ops o = some go) (hs : Slots E w s a) {t : Bool} (ht : wantM s go.guard = some t) : Region.wanted o (yielded ops a.tmps) = t := by
 rcases compG_guard hc with ⟨e1, e2⟩ | ⟨j, b, oj, d, e1, e2, e3, e4⟩
 ·rw [e2] at ht
  simp [wantM] at ht
  subst ht
  simp [Region.wanted, e1]
 ·rw [e4] at ht
  have hd := hs.tmp d
  simp only [wantM] at ht
  have hy : yielded ops a.tmps j = match a.tmps[d]? with | some (.bool b) => some b | _ => none := by
   unfold yielded
   simp only [e2, e3, Option.bind_some]
   generalize a.tmps[d]? = x
   rcases x with _ | u
   ·rfl
   ·cases u <;> rfl
  have hgd : ∀ v, a.tmps.getD d undef = v → (∀ b, v = .bool b → a.tmps[d]? = some (.bool b)) := fun v hv b hb => by
   subst hb
   cases hx : a.tmps[d]? with
   | none => simp [hx, undef] at hv
   | some u => simp [hx] at hv; rw [hv]
  simp only [Region.wanted, e1, hy]
  split at ht
  ·rename_i x hx
   cases ht
   rw [hx] at hd
   rw [hgd _ rfl x hd.lit_eq]
   cases x <;> cases b <;> rfl
  ·rename_i x hx
   cases ht
   rw [hx] at hd
   have h2 := hd.lit_eq
   cases hxd : a.tmps[d]? with
   | none => rfl
   | some u =>
    simp [hxd] at h2
    rw [h2]
    rfl
  ·cases ht
theorem evG_ok (hO : SoundO P O) (hc : compG P ops o = some go) (hs : Slots E w s a) (hr : HRel E h w) {st' : MSt} (he : evG lk O go ⟨s, h⟩ = some st') {r : Option Nat} {n : Nat} {K : Act → World → Prop} {Q : Exit → Act → World → Prop}
  (hK : ∀ a' w' E', Slots E' w' st'.s a' → HRel E' st'.h w' → Ext lk E w E' w' → a'.defers = a.defers → K a' w') :
  if Region.wanted o (yielded ops a.tmps) then o.wpIn (Fw r) n P a w K Q else (∀ f, o.about P w a.eval = some f → (Fw r).fn f) ∧ K (a.put o.dst undef) w := by
 have hputd : ∀ (v : Value), (a.put o.dst v).defers = a.defers := fun v => by cases o.dst <;> rfl
 unfold evG at he
 split at he
 ·cases he
 ·rename_i t ht
  rw [wantM_wanted hc hs ht]
  cases t
  ·simp only [Bool.false_eq_true, if_false, Option.some.injEq] at he ⊢
   subst he
   refine ⟨about_wide o a w, hK _ _ E ?_ hr (Ext.refl _ _ _) (hputd _)⟩
   rw [compG_dst hc]
   exact hs.put (.lit _) _
  ·simp only [if_true] at he ⊢
   split at he
   case h_2 => cases he
   rename_i v h' hev
   cases he
   rw [compG_op hc] at hev
   cases hco : compO P o with
   | none => rw [hco] at hev; simp [evO] at hev
   | some mo =>
    rw [hco] at hev
    refine (evO_ok hO hco hs hr hev).1 r n K Q fun u w' E' h1 h2 h3 => hK _ _ E' ?_ h2 h3 (hputd _)
    rw [compG_dst hc]
    exact (hs.ext hr h3).put h1 _
theorem evR_ok (hO : SoundO P O) {r : Option Nat} {n : Nat} {Q : Exit → Act → World → Prop} : ∀ {l : List Oper} {gl : List GO} {st st' : MSt} {a : Act} {w : World} {E : Env}, l.mapM (compG P ops) = some gl → evR lk O gl st = some st' → Slots E w st.s a → HRel E st.h w →
  (∀ a' w' E', Slots E' w' st'.s a' → HRel E' st'.h w' → Ext lk E w E' w' → a'.defers = a.defers → Q .normal a' w') → wpListIn (Fw r) n P ops Q l a w
 | [], gl, st, st', a, w, E, hm, he, hs, hr, hQ => by
  simp at hm; subst hm
  simp [evR] at he; subst he
  exact hQ a w E hs hr (Ext.refl _ _ _) rfl
 | o :: l, gl, st, st', a, w, E, hm, he, hs, hr, hQ => by
  simp only [List.mapM_cons, Option.pure_def, Option.bind_eq_bind, Option.bind_eq_some_iff, Option.some.injEq] at hm
  obtain ⟨go, hgo, gl', hgl, rfl⟩ := hm
  simp only [evR, Option.bind_eq_some_iff] at he
  obtain ⟨st1, he1, he2⟩ := he
  unfold wpListIn
  exact evG_ok hO hgo hs hr he1 fun a' w' E' h1 h2 h3 h4 => evR_ok hO hgl he2 h1 h2 fun a'' w'' E'' k1 k2 k3 k4 => hQ a'' w'' E'' k1 k2 (h3.trans k3) (k4.trans h4)
end
end Go.Proofs.YtnmgpbihknjdjaaDoor
namespace Go.Proofs.YtnmgpbihknjdjaaDoor
open Go.RowKit
def rch (ops : Array Oper) : Nat → Nat → Nat → Bool
 | 0, _, _ => false
 | f + 1, j, i => match ops[j]? with
  | some o => o.after.any fun e => Region.binds .any e && (e.on == i || (decide (i < e.on) && rch ops f e.on i))
  | none => false
theorem mem_xslots {l : List MX} {t : Nat} (h : MX.s t ∈ l) : t ∈ xslots l := List.mem_filterMap.2 ⟨_, h, rfl⟩
theorem xslots_get {l : List MX} {s s' : List MV} (h : ∀ t ∈ xslots l, s.getD t (.lit undef) = s'.getD t (.lit undef)) : ∀ x ∈ l, MX.get s x = MX.get s' x := by
 intro x hx
 cases x with
 | c v => rfl
 | s t => exact h t (List.mem_filterMap.2 ⟨.s t, hx, rfl⟩)
theorem evO_congr {lk : Nat → Bool} {O : Oracle} {s s' : List MV} {h : MHeap} {mo : MO} (hx : ∀ x ∈ mo.xs, MX.get s x = MX.get s' x) : evO lk O s h mo = evO lk O s' h mo := by
 cases mo <;> simp only [MO.xs] at hx
 case build z ps =>
  have e1 : (ps.map fun p => (p.1, (p.2.2.get s).cells)) = ps.map fun p => (p.1, (p.2.2.get s').cells) := List.map_congr_left fun p hp => by rw [hx p.2.2 (List.mem_map.2 ⟨p, hp, rfl⟩)]
  have e2 : (ps.all fun p => (p.2.2.get s).cells.length == p.2.1 && (p.2.2.get s).cOk) = ps.all fun p => (p.2.2.get s').cells.length == p.2.1 && (p.2.2.get s').cOk := by
   rw [Bool.eq_iff_iff, List.all_eq_true, List.all_eq_true]
   constructor <;> intro h p hp <;> have := h p hp <;> have e := hx p.2.2 (List.mem_map.2 ⟨p, hp, rfl⟩)
   ·rw [← e]; exact this
   ·rw [e]; exact this
  simp only [evO, e1, e2]
 case bsl z sz len ps =>
  have e1 : (ps.map fun p => (p.1, p.2.get s)) = ps.map fun p => (p.1, p.2.get s') := List.map_congr_left fun p hp => by rw [hx p.2 (List.mem_map.2 ⟨p, hp, rfl⟩)]
  simp only [evO, e1]
 case vsl z sz len ps =>
  have e1 : (ps.map fun p => (p.1, p.2.get s)) = ps.map fun p => (p.1, p.2.get s') := List.map_congr_left fun p hp => by rw [hx p.2 (List.mem_map.2 ⟨p, hp, rfl⟩)]
  simp only [evO, e1]
 case mf f cs =>
  have e1 : cs.map (MX.get s) = cs.map (MX.get s') := List.map_congr_left fun p hp => hx p hp
  simp only [evO, e1]
 case call f as_ =>
  have e1 : as_.map (MX.get s) = as_.map (MX.get s') := List.map_congr_left fun p hp => hx p hp
  simp only [evO, e1]
 case callv x as_ =>
  have e1 : as_.map (MX.get s) = as_.map (MX.get s') := List.map_congr_left fun p hp => hx p (List.mem_cons_of_mem _ hp)
  have e2 := hx x List.mem_cons_self
  simp only [evO, e1, e2]
 case slc sz x lo hi =>
  have e1 := hx x List.mem_cons_self
  have e2 : lo.map (MX.get s) = lo.map (MX.get s') := by
   cases lo with
   | none => rfl
   | some y => simp [hx y (by simp)]
  have e3 : hi.map (MX.get s) = hi.map (MX.get s') := by
   cases hi with
   | none => rfl
   | some y => simp [hx y (by simp)]
  simp only [evO, e1, e2, e3]
 case ssl x lo hi =>
  have e1 := hx x List.mem_cons_self
  have e2 : lo.map (MX.get s) = lo.map (MX.get s') := by
   cases lo with
   | none => rfl
   | some y => simp [hx y (by simp)]
  have e3 : hi.map (MX.get s) = hi.map (MX.get s') := by
   cases hi with
   | none => rfl
   | some y => simp [hx y (by simp)]
  simp only [evO, e1, e2, e3]
 all_goals (first | rfl | (simp only [List.mem_cons, List.not_mem_nil, or_false, forall_eq_or_imp, forall_eq] at hx; simp only [evO, hx]))
theorem ok_mono {h t : MHeap} {id g sz : Nat} (he : MHeap.ok h id g sz = true) : MHeap.ok (h ++ t) id g sz = true := by
 unfold MHeap.ok at he ⊢
 split at he
 ·rename_i o ho
  have := (List.getElem?_eq_some_iff.1 ho).1
  simp only [List.getElem?_append_left this, ho]
  exact he
 ·cases he
theorem evO_mono {lk : Nat → Bool} {O : Oracle} {s : List MV} {h h' t : MHeap} {mo : MO} {v : MV} (hp : mo.isP = true) (he : evO lk O s h mo = some (v, h')) : h' = h ∧ evO lk O s (h ++ t) mo = some (v, h ++ t) := by
 cases mo <;> simp only [MO.isP, Bool.false_eq_true] at hp <;> simp only [evO] at he ⊢
 case ld ag x =>
  split at he
  ·simp only [Option.map_eq_some_iff, Prod.mk.injEq] at he ⊢
   obtain ⟨m, h1, rfl, rfl⟩ := he
   simp [h1]
  ·split at he
   ·rename_i o ho
    have hl := (List.getElem?_eq_some_iff.1 ho).1
    simp only [List.getElem?_append_left hl, ho]
    split at he
    ·rename_i hg
     simp only [if_pos hg]
     split at he
     ·simp only [Option.map_eq_some_iff, Prod.mk.injEq] at he ⊢
      obtain ⟨m, h1, rfl, rfl⟩ := he
      simp [h1]
     ·cases he
    ·cases he
   ·cases he
  ·cases he
 case eqn neg x =>
  split at he
  ·split at he
   ·rename_i o ho
    have hl := (List.getElem?_eq_some_iff.1 ho).1
    simp only [List.getElem?_append_left hl, ho]
    split at he
    ·rename_i hg
     simp only [if_pos hg]
     simp only [Option.some.injEq, Prod.mk.injEq] at he ⊢
     exact ⟨he.2.symm, he.1, trivial⟩
    ·cases he
   ·cases he
  ·simp only [Option.some.injEq, Prod.mk.injEq] at he ⊢
   exact ⟨he.2.symm, he.1, trivial⟩
  ·simp only [Option.some.injEq, Prod.mk.injEq] at he ⊢
   exact ⟨he.2.symm, he.1, trivial⟩
  ·simp only [Option.some.injEq, Prod.mk.injEq] at he ⊢
   exact ⟨he.2.symm, he.1, trivial⟩
  ·cases he
 case slc sz x lo hi =>
  split at he
  ·split at he
   ·rename_i hc
    simp only [if_pos hc, Option.some.injEq, Prod.mk.injEq] at he ⊢
    exact ⟨he.2.symm, he.1, trivial⟩
   ·cases he
  ·split at he
   ·rename_i hc
    simp only [if_pos hc, Option.some.injEq, Prod.mk.injEq] at he ⊢
    exact ⟨he.2.symm, he.1, trivial⟩
   ·cases he
  ·split at he
   ·rename_i hc
    rw [if_pos ⟨hc.1, hc.2.1, hc.2.2.1, ok_mono hc.2.2.2⟩]
    simp only [Option.some.injEq, Prod.mk.injEq] at he ⊢
    exact ⟨he.2.symm, he.1, trivial⟩
   ·cases he
  ·split at he
   ·rename_i hc
    rw [if_pos ⟨hc.1, hc.2.1, ok_mono hc.2.2⟩]
    simp only [Option.some.injEq, Prod.mk.injEq] at he ⊢
    exact ⟨he.2.symm, he.1, trivial⟩
   ·cases he
  ·cases he
 case ia sz x i =>
  split at he
  ·split at he
   ·rename_i hc
    simp only [if_pos hc]
    obtain ⟨e, h1, h2⟩ := Option.bind_eq_some_iff.1 he
    rw [h1]
    simp only [Option.bind_some]
    split at h2
    ·rename_i hcl
     simp only [if_pos hcl, Option.some.injEq, Prod.mk.injEq] at h2 ⊢
     exact ⟨h2.2.symm, h2.1, trivial⟩
    ·cases h2
   ·cases he
  ·split at he
   ·rename_i hc
    rw [if_pos ⟨hc.1, hc.2.1, ok_mono hc.2.2⟩]
    simp only [Option.some.injEq, Prod.mk.injEq] at he ⊢
    exact ⟨he.2.symm, he.1, trivial⟩
   ·cases he
  ·cases he
 case build z ps =>
  split at he
  case h_2 => cases he
  split at he
  case isFalse => cases he
  rename_i hall
  simp only [if_pos hall, Option.some.injEq, Prod.mk.injEq] at he ⊢
  exact ⟨he.2.symm, he.1, trivial⟩
 case mx x y =>
  split at he
  case h_2 => cases he
  simp only [Option.some.injEq, Prod.mk.injEq] at he ⊢
  exact ⟨he.2.symm, he.1, trivial⟩
 case mn x y =>
  split at he
  case h_2 => cases he
  simp only [Option.some.injEq, Prod.mk.injEq] at he ⊢
  exact ⟨he.2.symm, he.1, trivial⟩
 all_goals
  repeat' (split at he)
  all_goals (first | (cases he; done) | (obtain ⟨m, h1, e⟩ := Option.map_eq_some_iff.1 he; simp only [Prod.mk.injEq] at e; obtain ⟨rfl, rfl⟩ := e; simp_all; done) | (simp only [Option.some.injEq, Prod.mk.injEq] at he; obtain ⟨rfl, rfl⟩ := he; simp_all; done) | (simp_all; done))
theorem evO_any {lk : Nat → Bool} {O : Oracle} {s : List MV} {h h' h2 : MHeap} {mo : MO} {v : MV} (hp : mo.isP = true) (hr : mo.isR = false) (he : evO lk O s h mo = some (v, h')) : h' = h ∧ evO lk O s h2 mo = some (v, h2) := by
 cases mo <;> simp only [MO.isP, Bool.false_eq_true] at hp <;> simp only [MO.isR, Bool.true_eq_false] at hr <;> simp only [evO] at he ⊢
 case build z ps =>
  split at he
  case h_2 => cases he
  split at he
  case isFalse => cases he
  rename_i hall
  simp only [if_pos hall, Option.some.injEq, Prod.mk.injEq] at he ⊢
  exact ⟨he.2.symm, he.1, trivial⟩
 case mx x y =>
  split at he
  case h_2 => cases he
  simp only [Option.some.injEq, Prod.mk.injEq] at he ⊢
  exact ⟨he.2.symm, he.1, trivial⟩
 case mn x y =>
  split at he
  case h_2 => cases he
  simp only [Option.some.injEq, Prod.mk.injEq] at he ⊢
  exact ⟨he.2.symm, he.1, trivial⟩
 all_goals
  repeat' (split at he)
  all_goals (first | (cases he; done) | (obtain ⟨m, h1, e⟩ := Option.map_eq_some_iff.1 he; simp only [Prod.mk.injEq] at e; obtain ⟨rfl, rfl⟩ := e; simp_all; done) | (simp only [Option.some.injEq, Prod.mk.injEq] at he; obtain ⟨rfl, rfl⟩ := he; simp_all; done) | (simp_all; done))
end Go.Proofs.YtnmgpbihknjdjaaDoor
namespace Go.Proofs.YtnmgpbihknjdjaaDoor
open Go.RowKit
def AppO (O : Oracle) : Prop := ∀ f args h m h', O f args h = some (m, h') → ∃ t, h' = h ++ t
theorem evO_app {lk : Nat → Bool} {O : Oracle} (hA : AppO O) {s : List MV} {h h' : MHeap} {mo : MO} {v : MV} (hm : mo.isM = false) (he : evO lk O s h mo = some (v, h')) : ∃ t, h' = h ++ t := by
 by_cases hp : mo.isP = true
 ·exact ⟨[], by rw [(evO_mono (t := []) hp he).1]; simp⟩
 ·cases mo <;> simp only [MO.isP, not_true_eq_false] at hp <;> simp only [MO.isM, Bool.true_eq_false] at hm <;> simp only [evO] at he
  case call => exact hA _ _ _ _ _ he
  case s2b =>
   split at he
   ·simp only [Option.some.injEq, Prod.mk.injEq] at he
    exact ⟨[], by rw [← he.2]; simp⟩
   ·cases he
  case callv =>
   split at he
   ·exact hA _ _ _ _ _ he
   ·cases he
  all_goals
   repeat' (split at he)
   all_goals (first | (cases he; done) | (simp only [Option.some.injEq, Prod.mk.injEq] at he; exact ⟨_, he.2.symm⟩))
theorem evG_put {lk : Nat → Bool} {O : Oracle} {go : GO} {st st' : MSt} (he : evG lk O go st = some st') : ∃ v, st'.s = putM st.s go.dst v ∧ ((wantM st.s go.guard = some true ∧ evO lk O st.s st.h go.op = some (v, st'.h)) ∨ (wantM st.s go.guard = some false ∧ v = .lit undef ∧ st'.h = st.h)) := by
 unfold evG at he
 split at he
 ·cases he
 ·rename_i t ht
  cases t
  ·simp only [Bool.false_eq_true, if_false, Option.some.injEq] at he
   subst he
   exact ⟨_, rfl, .inr ⟨ht, rfl, rfl⟩⟩
  ·simp only [if_true] at he
   split at he
   case h_2 => cases he
   rename_i v h' hev
   cases he
   exact ⟨v, rfl, .inl ⟨ht, hev⟩⟩
theorem evR_trace {lk : Nat → Bool} {O : Oracle} : ∀ {l : List GO} {st st' : MSt}, evR lk O l st = some st' → ∃ tr : Nat → MSt, tr 0 = st ∧ tr l.length = st' ∧ ∀ (i : Nat) go, l[i]? = some go → evG lk O go (tr i) = some (tr (i + 1))
 | [], st, st', h => by
  simp [evR] at h; subst h
  exact ⟨fun _ => st, rfl, rfl, fun i go hi => by simp at hi⟩
 | g :: l, st, st', h => by
  simp only [evR, Option.bind_eq_some_iff] at h
  obtain ⟨st1, h1, h2⟩ := h
  obtain ⟨tr, t0, tn, ts⟩ := evR_trace h2
  refine ⟨fun i => match i with | 0 => st | i + 1 => tr i, rfl, by simpa using tn, fun i go hi => ?_⟩
  cases i with
  | zero => simp at hi; subst hi; simpa [t0] using h1
  | succ i => simp at hi; exact ts i go hi
def isMk : Op → Bool
 | .makeSlice _ _ _ => true
 | _ => false
theorem HRel.more {E : Env} {h : MHeap} {w : World} (hr : HRel E h w) (t : MHeap) : HRel E (h ++ t) w :=
 ⟨fun id hk => by have := hr.klt id hk; simp; omega, by have := hr.top; simp; omega, fun id hk => by
  obtain ⟨es, a1, a2⟩ := hr.obj id hk
  exact ⟨es, by rw [List.getElem?_append_left (hr.klt id hk)]; exact a1, a2⟩, hr.inj, hr.sep, hr.slt, hr.tab⟩
theorem EnvLe.topE (E : Env) (n : Nat) : EnvLe E { E with top := n } := ⟨fun _ h => h, fun _ h => ⟨h, rfl, rfl, rfl, rfl, rfl, rfl, rfl⟩, rfl⟩
theorem HRel.topE {E : Env} {h : MHeap} {w : World} (hr : HRel E h w) {n : Nat} (hn : n ≤ h.length) : HRel { E with top := n } h w :=
 ⟨hr.klt, hn, fun id hk => by
  obtain ⟨es, a1, a2, a3, a4, a5⟩ := hr.obj id hk
  refine ⟨es, a1, a2, a3, a4, fun hc => ?_⟩
  obtain ⟨arr, t, b1, b2, b3⟩ := a5 hc
  exact ⟨arr, t, b1, b2, fun k c hk => by obtain ⟨v, c1, c2⟩ := b3 k c hk; exact ⟨v, c1, c2.env (EnvLe.topE _ _)⟩⟩, hr.inj, hr.sep, hr.slt, fun p hp => (hr.tab p hp).env (EnvLe.topE _ _)⟩
theorem Ext.topE {lk : Nat → Bool} {E E' : Env} {w w' : World} {n : Nat} (hx : Ext lk { E with top := n } w E' w') (hn : E.top ≤ n) : Ext lk E w { E' with top := E.top } w' :=
 { os := hx.os, tape := hx.tape, output := hx.output, size := hx.size, keep := hx.keep, S := hx.S, K := hx.K, old := hx.old, lock := hx.lock, src := hx.src, top := rfl, yl := hx.yl, srcS := hx.srcS, srcK := fun id hk => (hx.srcK id hk).imp (fun h => h) fun h => Nat.le_trans hn h }
theorem late_ok {P : Program} {lk : Nat → Bool} {O : Oracle} {o : Oper} {mo : MO} {a : Act} {w : World} {E : Env} {s : List MV} {h0 h1 H : MHeap} {m : MV} (hc : compO P o = some mo) (hk : isMk o.op = true) (hs : Slots E w s a) (hr : HRel E H w) (he : evO lk O s h0 mo = some (m, h1))
  (hnk : ¬ E.K h0.length) (ht : E.top ≤ h0.length) (hid : H[h0.length]? = h1[h0.length]?) {r : Option Nat} {n : Nat} {K : Act → World → Prop} {Q : Exit → Act → World → Prop}
  (hK : ∀ v w' E', V E' w' m v → HRel E' H w' → Ext lk E w E' w' → (∀ id, E'.K id → E.K id ∨ id = h0.length) → K (a.put o.dst v) w') : o.wpIn (Fw r) n P a w K Q := by
 have hnd : ∀ c, o.op ≠ .defer c := fun c e => by simp [compO, e] at hc
 obtain ⟨dst, op, type, pos, after, guard⟩ := o
 cases op <;> simp only [isMk, Bool.false_eq_true] at hk
 rename_i t l c
 simp only [compO, Option.bind_eq_bind, Option.bind_eq_some_iff] at hc
 obtain ⟨e, ht1, ie, hie, z1, hz, hc⟩ := hc
 split at hc
 case isFalse => cases hc
 rename_i hcond
 simp only [Option.bind_eq_some_iff, Option.some.injEq] at hc
 obtain ⟨l', hl, rfl⟩ := hc
 obtain ⟨hlc, hby, hpos, hzl, hok⟩ := hcond
 have h1 := hs.x hl
 simp only [evO] at he
 split at he
 case h_2 => cases he
 rename_i k hn
 split at he
 case isFalse => cases he
 rename_i hb
 simp only [Option.some.injEq, Prod.mk.injEq] at he
 obtain ⟨rfl, rfl⟩ := he
 rw [hn] at h1
 have hv := h1.lit_eq
 have hcc : a.eval c = a.eval l := by
  unfold sameX at hlc
  split at hlc
  ·simp at hlc; subst hlc; rfl
  ·simp at hlc; subst hlc; rfl
  ·cases hlc
 unfold telem at ht1
 split at ht1
 case h_2 => cases ht1
 rename_i e' hu
 cases ht1
 unfold tzero at hz
 rw [Option.map_eq_some_iff] at hz
 obtain ⟨zv, hzv, rfl⟩ := hz
 obtain ⟨ie', hie', hzero⟩ := Option.bind_eq_some_iff.1 hzv
 rw [hie] at hie'
 cases hie'
 have hbytes : (ie.bytes : Int) * k ≤ 281474976710656 := by
  have : (ie.bytes : Int) * k ≤ 100000 * 1000000 := Int.mul_le_mul (by omega) hb.2 hb.1 (by omega)
  omega
 have hrun := run_make (P := P) w t e ie zv hu hie hzero .i64 .i64 k k hb.1 (Int.le_refl _) hbytes (by omega)
 have hrep : ∀ x ∈ List.replicate k.toNat (ofV zv), x.cells.length = ie.size := fun x hx => by rw [(List.mem_replicate.1 hx).2]; exact hzl
 have hidv : H[h0.length]? = some ⟨0, false, ie.size, List.replicate k.toNat (ofV zv)⟩ := by rw [hid, hzl]; simp
 have hcells := made_rep (n := k.toNat) (ofV_ok (E := E) (w := w) hok) hzl
 obtain ⟨r1, r2⟩ := hr.put (lk := lk) (w' := w.alloc (.cells (madeCells zv.cells (k.toNat * ie.size)) e)) (h' := H) (id := h0.length) (b := w.heap.size) (bo := 0) (cp := k.toNat) (sz := ie.size) (g := 0) (nl := false) (es := List.replicate k.toNat (ofV zv))
  (OnlyObj.of_below ((Below.refl _ w).alloc (Nat.le_refl _) _)) (fun hk => absurd hk hnk) (fun _ => .inl (Nat.le_refl _)) (fun j _ _ => rfl) hidv hrep (by simp)
  (fun _ => ⟨_, _, World.alloc_heap_new w _, by have := hcells.1; rw [flat_len hrep] at this; simpa using this.symm, fun q m hq => by
   have hql := (List.getElem?_eq_some_iff.1 hq).1
   have hql' : q < (madeCells zv.cells (k.toNat * ie.size)).toList.length := hcells.1 ▸ hql
   refine ⟨(madeCells zv.cells (k.toNat * ie.size)).toList[q], by simp at hql' ⊢, ?_⟩
   have hV := hcells.2 q m _ hq (List.getElem?_eq_getElem hql')
   exact hV.ext hr (Ext.put (OnlyObj.of_below (lk := lk) ((Below.refl _ w).alloc (Nat.le_refl _) _)) (fun hk => absurd hk hnk) (fun _ => .inl (Nat.le_refl _)) (.inr ht))⟩) (Nat.le_refl _) (.inr ht)
 refine wpIn_val hnd (v := .slice (some ⟨w.heap.size, 0, none⟩) k.toNat k.toNat) (by simp [execOp, hv, hcc, hrun]) (hK _ _ _ ?_ r1 r2 fun id hk => hk)
 rw [List.length_replicate]
 exact arr_put (Nat.le_refl _)
def isBs : Op → Bool
 | .buildSlice _ _ _ => true
 | _ => false
theorem quiet_ok {P : Program} {lk : Nat → Bool} {O : Oracle} {o : Oper} {a : Act} {w : World} {E : Env} {s : List MV} {h0 h1 H : MHeap} {m z : MV} {sz len : Nat} {ps : List (Nat × MX)} (hc : compO P o = some (.bsl z sz len ps)) (hb : isBs o.op = true) (hs : Slots E w s a) (hr : HRel E H w) (he : evO lk O s h0 (.vsl z sz len ps) = some (m, h1))
  {r : Option Nat} {n : Nat} {K : Act → World → Prop} {Q : Exit → Act → World → Prop}
  (hK : ∀ v w' E', V E' w' m v → HRel E' H w' → Ext lk E w E' w' → (∀ id, E'.K id → E.K id) → K (a.put o.dst v) w') : o.wpIn (Fw r) n P a w K Q := by
 have hnd : ∀ c, o.op ≠ .defer c := fun c e => by simp [compO, e] at hc
 obtain ⟨dst, op, type, pos, after, guard⟩ := o
 cases op <;> simp only [isBs, Bool.false_eq_true] at hb
 rename_i t len' parts
 simp only [compO, Option.bind_eq_bind, Option.bind_eq_some_iff] at hc
 obtain ⟨e, ht, sz', hsz, z', hz, hc⟩ := hc
 split at hc
 case isFalse => cases hc
 rename_i hcond
 simp only [Option.bind_eq_some_iff, Option.some.injEq] at hc
 obtain ⟨parts', hp, hbe⟩ := hc
 cases hbe
 obtain ⟨hsmall, hpos, hzl, hok⟩ := hcond
 simp only [evO] at he
 split at he
 case h_2 => cases he
 rename_i es hf
 simp only [Option.some.injEq, Prod.mk.injEq] at he
 obtain ⟨rfl, rfl⟩ := he
 unfold telem at ht
 split at ht
 case h_2 => cases ht
 rename_i e' hu
 cases ht
 unfold tsz at hsz
 rw [Option.map_eq_some_iff] at hsz
 obtain ⟨ie, hie, rfl⟩ := hsz
 unfold tzero at hz
 rw [Option.map_eq_some_iff] at hz
 obtain ⟨zv, hzv, rfl⟩ := hz
 obtain ⟨ie', hie', hzero⟩ := Option.bind_eq_some_iff.1 hzv
 rw [hie] at hie'
 cases hie'
 obtain ⟨hl, -⟩ := mapM_some hp
 have hrep : ∀ x ∈ List.replicate len (ofV zv), x.cells.length = ie.size := fun x hx => by rw [(List.mem_replicate.1 hx).2]; exact hzl
 obtain ⟨cs', k1, k2, k3, k4⟩ := fill_e (E := E) (w := w) (parts := (parts.map fun p => (p.1, a.eval p.2)).toList) hrep (made_rep (n := len) (ofV_ok hok) hzl) (by simpa using hl) (fun i p m hp' hm => by
  rw [Array.toList_map, List.getElem?_map, Option.map_eq_some_iff] at hp'
  obtain ⟨q, hq, rfl⟩ := hp'
  rw [List.getElem?_map, Option.map_eq_some_iff] at hm
  obtain ⟨q', hq', rfl⟩ := hm
  obtain ⟨y, hy, hfy⟩ := mapM_all hp hq
  rw [hq'] at hy
  cases hy
  simp only [Option.bind_eq_some_iff, Option.some.injEq] at hfy
  obtain ⟨x', h2, rfl⟩ := hfy
  exact ⟨rfl, hs.x h2⟩) hf
 rw [List.length_replicate] at k4
 have hbel : Below w.heap.size w (w.alloc (.cells cs' e)) := (Below.refl _ w).alloc (Nat.le_refl _) _
 have hnew := World.alloc_heap_new w (.cells cs' e)
 have hsize : w.heap.size < (w.alloc (.cells cs' e)).heap.size := (Array.getElem?_eq_some_iff.1 hnew).1
 obtain ⟨E', hE'⟩ : ∃ E' : Env, E' = { E with S := fun b => E.S b ∨ b = w.heap.size } := ⟨_, rfl⟩
 have hx : Ext lk E w E' (w.alloc (.cells cs' e)) := by
  subst hE'
  exact { os := hbel.os, tape := hbel.tape, output := hbel.output, size := hbel.size, keep := fun k hk _ => hbel.block k hk, S := fun b h => .inl h, K := fun id h => h, old := fun id _ => ⟨Nat.le_refl _, fun _ => ⟨rfl, rfl, rfl, rfl, rfl, rfl⟩⟩, lock := fun _ _ _ => rfl, src := fun id hk hc => .inl ⟨hk, hc, rfl⟩, top := rfl, srcK := fun id h => .inl h, yl := rfl, srcS := fun b h => h.imp_right fun e => .inr (Nat.le_of_eq e.symm) }
 have hr' : HRel E' H (w.alloc (.cells cs' e)) := by
  have hobj : ∀ id, E.K id → 0 < E.cp id → (w.alloc (.cells cs' e)).heap[E.ρ id]? = w.heap[E.ρ id]? := fun id hk hc => hbel.block _ (hr.lt hk hc)
  refine ⟨by subst hE'; exact hr.klt, by subst hE'; exact hr.top, fun id hk => ?_, by subst hE'; exact hr.inj, fun id hk hc hS => ?_, fun b hb => ?_, fun p hp => (hr.tab p hp).ext hr hx⟩
  ·have hk2 : E.K id := by subst hE'; exact hk
   obtain ⟨es, a1, a2, a3, a4, a5⟩ := hr.obj id hk2
   have e1 : E'.gn = E.gn ∧ E'.nl = E.nl ∧ E'.sz = E.sz ∧ E'.ln = E.ln ∧ E'.bo = E.bo ∧ E'.cp = E.cp ∧ E'.ρ = E.ρ := by subst hE'; exact ⟨rfl, rfl, rfl, rfl, rfl, rfl, rfl⟩
   obtain ⟨e1, e2, e3, e4, e5, e6, e7⟩ := e1
   rw [e1, e2, e3, e4, e5, e6, e7]
   refine ⟨es, a1, a2, a3, a4, fun hc => ?_⟩
   obtain ⟨arr, t, b1, b2, b3⟩ := a5 hc
   exact ⟨arr, t, by rw [hobj id hk2 hc]; exact b1, b2, fun k c hk => by obtain ⟨v, c1, c2⟩ := b3 k c hk; exact ⟨v, c1, c2.ext hr hx⟩⟩
  ·subst hE'
   rcases hS with hS | hS
   ·exact hr.sep id hk hc hS
   ·have h1 := hr.lt (id := id) hk hc
    have h2 : E.ρ id = w.heap.size := hS
    omega
  ·subst hE'
   rcases hb with hb | hb
   ·exact Nat.lt_of_lt_of_le (hr.slt b hb) hbel.size
   ·rw [hb]; exact hsize
 have hV : V E' (w.alloc (.cells cs' e)) (.sl es) (.slice (some ⟨w.heap.size, 0, none⟩) len len) := by
  have := V.sl (E := E') (w := w.alloc (.cells cs' e)) es cs'.toList (some ⟨w.heap.size, 0, none⟩) len ie.size (by rw [k4]; exact Nat.le_refl _) k3 k2.1 (fun i c v h1 h2 => (k2.2 i c v h1 h2).ext hr hx)
   (fun _ => ⟨w.heap.size, 0, rfl, by subst hE'; exact .inr rfl, fun i v hv => by simp only [World.cell?, hnew]; simpa using hv⟩)
  rwa [k4] at this
 have hV2 : V E' (w.alloc (.cells cs' e)) (if es.isEmpty then .emp else .sl es) (.slice (some ⟨w.heap.size, 0, none⟩) len len) := by
  by_cases h0 : es = []
  ·subst h0
   simp only [List.length_nil] at k4
   subst k4
   exact .emp _
  ·have : es.isEmpty = false := by cases es <;> simp_all
   rw [this]; exact hV
 refine wpIn_val hnd (v := .slice (some ⟨w.heap.size, 0, none⟩) len len) ?_ (hK _ _ _ hV2 hr' hx fun id hk => by subst hE'; exact hk)
 by_cases h0 : len * ie.size = 0
 ·obtain rfl : len = 0 := by
   rcases Nat.mul_eq_zero.1 h0 with h | h
   ·exact h
   ·omega
  have hr0 : Array.range 0 = #[] := rfl
  simp [madeCells, hr0] at k1
  simp [execOp, Instr.buildSlice, run_underlying hu, sizeOf, typeInfo, hie, newRow, hr0, k1]
 ·have := run_buildSlice (P := P) w t e len (parts.map fun (p : Nat × Operand) => (p.1, a.eval p.2)) cs' ie zv hu hie hzero (by omega) h0 (by unfold madeCells at k1; exact k1)
  simp [execOp, this]
theorem evO_keep {lk : Nat → Bool} {O : Oracle} (hA : AppO O) {E : Env} {w : World} {s : List MV} {a : Act} {h h' : MHeap} {mo : MO} {v : MV} (hs : Slots E w s a) (hc : ∀ x ∈ mo.xs, ∀ c, x = .c c → c.id?.isNone) (he : evO lk O s h mo = some (v, h')) {id : Nat} (hl : id < h.length) (hk : ¬ E.K id) : h'[id]? = h[id]? := by
 cases hm : mo.isM
 ·obtain ⟨t, rfl⟩ := evO_app hA hm he
  exact List.getElem?_append_left hl
 ·have tgt : ∀ {x : MX}, x ∈ mo.xs → ∀ {i g : Nat}, (∃ j off, x.get s = .ptr i j off g) ∨ (∃ j n, x.get s = .arr i j n g) ∨ x.get s = .mp i g → i ≠ id := fun {x} hx {i g} h => by
   rintro rfl
   cases x with
   | c c => exact absurd (hc _ hx c rfl) (by rcases h with ⟨j, off, h⟩ | ⟨j, n, h⟩ | h <;> (simp only [MX.get] at h; rw [h]; simp [MV.id?]))
   | s t =>
    have hv := hs.tmp t
    rcases h with ⟨j, off, h⟩ | ⟨j, n, h⟩ | h <;> (simp only [MX.get] at h; rw [h] at hv; generalize a.tmps.getD t undef = y at hv; cases hv; exact hk (by assumption))
  cases mo <;> simp only [MO.isM, Bool.false_eq_true] at hm <;> simp only [evO] at he
  case bad => cases he
  case st sz a' x =>
   repeat' (split at he)
   all_goals (first | (cases he; done) | skip)
   simp only [Option.some.injEq, Prod.mk.injEq] at he
   obtain ⟨rfl, rfl⟩ := he
   exact List.getElem?_set_ne (tgt (x := a') (by simp [MO.xs]) (.inl ⟨_, _, by assumption⟩))
  case app sz d x =>
   repeat' (split at he)
   all_goals (first | (cases he; done) | skip)
   all_goals (simp only [Option.some.injEq, Prod.mk.injEq] at he; obtain ⟨rfl, rfl⟩ := he)
   ·rfl
   ·exact List.getElem?_set_ne (tgt (x := d) (by simp [MO.xs]) (.inr (.inl ⟨_, _, by assumption⟩)))
   ·rfl
   ·exact List.getElem?_append_left hl
   ·rfl
   ·exact List.getElem?_append_left hl
  case mup n m' k' x =>
   repeat' (split at he)
   all_goals (first | (cases he; done) | skip)
   all_goals (simp only [Option.some.injEq, Prod.mk.injEq] at he; obtain ⟨rfl, rfl⟩ := he)
   exact List.getElem?_set_ne (tgt (x := m') (by simp [MO.xs]) (.inr (.inr (by assumption))))
  case cpy d x =>
   repeat' (split at he)
   all_goals (first | (cases he; done) | skip)
   simp only [Option.some.injEq, Prod.mk.injEq] at he
   obtain ⟨rfl, rfl⟩ := he
   exact List.getElem?_set_ne (tgt (x := d) (by simp [MO.xs]) (.inr (.inl ⟨_, _, by assumption⟩)))
  case srt f cf x =>
   repeat' (split at he)
   all_goals (first | (cases he; done) | skip)
   simp only [Option.some.injEq, Prod.mk.injEq] at he
   obtain ⟨rfl, rfl⟩ := he
   exact List.getElem?_set_ne (tgt (x := x) (by simp [MO.xs]) (.inr (.inl ⟨_, _, by assumption⟩)))
  case sla sz m x =>
   repeat' (split at he)
   all_goals (first | (cases he; done) | skip)
   simp only [Option.some.injEq, Prod.mk.injEq] at he
   obtain ⟨rfl, rfl⟩ := he
   exact List.getElem?_set_ne (tgt (x := x) (by simp [MO.xs]) (.inl ⟨_, _, by assumption⟩))
def MX.cok : MX → Bool
 | .s _ => true
 | .c v => v.id?.isNone
def isAl : Op → Bool
 | .alloc _ => true
 | _ => false
def mkAt (ops : Array Oper) (j : Nat) : Bool :=
 match ops[j]? with
 | some o => isMk o.op
 | none => false
def notDst (gl : List GO) (q : Nat) : Bool := gl.all fun g => g.dst != some q
def faOf (gl : List GO) : GO → Bool
 | ⟨none, _, .fa _ (.s q)⟩ => notDst gl q
 | _ => false
def oldSl (gl : List GO) (q : Nat) : Bool := notDst gl q || gl.any fun g => g.dst == some q && faOf gl g
def oldR (gl : List GO) (g : GO) : Bool :=
 match g.op with
 | .ld _ (.s q) => oldSl gl q
 | _ => false
def mksArr : GO → Bool
 | ⟨none, _, .bsl _ _ _ _⟩ => true
 | ⟨none, _, .nil0 _⟩ => true
 | ⟨none, _, .mks _ _⟩ => true
 | ⟨none, _, .vsl _ _ 0 []⟩ => true
 | _ => false
def newM (gl : List GO) (j : Nat) (g : GO) : Bool :=
 match g.op with
 | .app _ (.s p) _ => (gl.take j).any fun g' => g'.dst == some p && mksArr g'
 | _ => false
def drawOk (ops : Array Oper) (gl : List GO) : Bool :=
 (List.range ops.size).all fun i => match ops[i]?, gl[i]? with
  | some oi, some gi =>
   ((oi.after.all fun e => !Region.binds .any e || decide (e.on < i)) && gi.op.xs.all MX.cok) &&
   (List.range i).all fun j => match gl[j]? with
    | some gj =>
     (gi.dst == none || gi.dst != gj.dst) &&
     ((match gj.dst with | some d => !gi.looks.contains d | none => true) || rch ops ops.size i j) &&
     ((match gi.dst with | some d => !gj.looks.contains d | none => true) || rch ops ops.size i j) &&
     (gi.op.isP || gj.op.isP || mkAt ops j || rch ops ops.size i j) &&
     (!(gi.op.isR && gj.op.isM) || rch ops ops.size i j || (oldR gl gi && newM gl j gj)) &&
     (!(gj.op.isR && gi.op.isM) || rch ops ops.size i j || (oldR gl gj && newM gl i gi))
    | none => false
  | _, _ => false
structure DrawOk (ops : Array Oper) (gl : List GO) (ali : Nat → Nat → Prop) (hz : Nat → Option (Nat × Nat × MV)) : Prop where
 consts : ∀ (i : Nat) (gi : GO), gl[i]? = some gi → ∀ x ∈ gi.op.xs, x.cok = true
 back : ∀ (i : Nat) (o : Oper), ops[i]? = some o → ∀ e ∈ o.after, Region.binds .any e = true → e.on < i
 ssa : ∀ (i j : Nat) (gi gj : GO) (d : Nat), gl[i]? = some gi → gl[j]? = some gj → gi.dst = some d → gj.dst = some d → i = j
 reads : ∀ (i j : Nat) (gi gj : GO) (d : Nat), j < i → gl[i]? = some gi → gl[j]? = some gj → gj.dst = some d → d ∈ gi.looks → rch ops ops.size i j = true
 writes : ∀ (i j : Nat) (gi gj : GO) (d : Nat), j < i → gl[i]? = some gi → gl[j]? = some gj → gi.dst = some d → d ∈ gj.looks → rch ops ops.size i j = true
 effects : ∀ (i j : Nat) (gi gj : GO), j < i → gl[i]? = some gi → gl[j]? = some gj → gi.op.isP = false → gj.op.isP = false → mkAt ops j = false → rch ops ops.size i j = true
 rm : ∀ (i j : Nat) (gi gj : GO), j < i → gl[i]? = some gi → gl[j]? = some gj → gi.op.isR = true → gj.op.isM = true → rch ops ops.size i j = true ∨ (oldR gl gi = true ∧ newM gl j gj = true) ∨ ali i j
 mr : ∀ (i j : Nat) (gi gj : GO), j < i → gl[i]? = some gi → gl[j]? = some gj → gj.op.isR = true → gi.op.isM = true → rch ops ops.size i j = true ∨ (oldR gl gj = true ∧ newM gl i gi = true) ∨ ali j i
 hl : ∀ (j d id : Nat) (z : MV), hz j = some (d, id, z) → ∀ (i : Nat) gi, i < j → gl[i]? = some gi → d ∉ gi.looks
theorem drawOk_spec {ops : Array Oper} {gl : List GO} (hl : gl.length = ops.size) (h : drawOk ops gl = true) : DrawOk ops gl (fun _ _ => False) (fun _ => none) := by
 unfold drawOk at h
 rw [List.all_eq_true] at h
 have pair : ∀ (i j : Nat) (gi gj : GO), j < i → gl[i]? = some gi → gl[j]? = some gj →
   (gi.dst == none || gi.dst != gj.dst) = true ∧ ((match gj.dst with | some d => !gi.looks.contains d | none => true) || rch ops ops.size i j) = true ∧ ((match gi.dst with | some d => !gj.looks.contains d | none => true) || rch ops ops.size i j) = true ∧
   (gi.op.isP || gj.op.isP || mkAt ops j || rch ops ops.size i j) = true ∧ (!(gi.op.isR && gj.op.isM) || rch ops ops.size i j || (oldR gl gi && newM gl j gj)) = true ∧ (!(gj.op.isR && gi.op.isM) || rch ops ops.size i j || (oldR gl gj && newM gl i gi)) = true := by
  intro i j gi gj hji hi hj
  have hil : i < ops.size := by have := (List.getElem?_eq_some_iff.1 hi).1; omega
  have h1 := h i (List.mem_range.2 hil)
  rw [Array.getElem?_eq_getElem hil, hi] at h1
  simp only [Bool.and_eq_true] at h1
  have h2 := List.all_eq_true.1 h1.2 j (List.mem_range.2 hji)
  rw [hj] at h2
  simp only [Bool.and_eq_true] at h2
  obtain ⟨⟨⟨⟨⟨a1, a2⟩, a3⟩, a4⟩, a5⟩, a6⟩ := h2
  exact ⟨a1, a2, a3, a4, a5, a6⟩
 refine ⟨fun i gi hi x hx => ?_, fun i o hi e he hb => ?_, fun i j gi gj d hi hj hdi hdj => ?_, fun i j gi gj d hji hi hj hd hm => ?_, fun i j gi gj d hji hi hj hd hm => ?_, fun i j gi gj hji hi hj h1 h2 h3 => ?_, fun i j gi gj hji hi hj h1 h2 => ?_, fun i j gi gj hji hi hj h1 h2 => ?_, fun j d id z h => by cases h⟩
 ·have hil : i < ops.size := by have := (List.getElem?_eq_some_iff.1 hi).1; omega
  have h1 := h i (List.mem_range.2 hil)
  rw [Array.getElem?_eq_getElem hil, hi] at h1
  simp only [Bool.and_eq_true] at h1
  exact List.all_eq_true.1 h1.1.2 x hx
 ·have hil := (Array.getElem?_eq_some_iff.1 hi).1
  have h1 := h i (List.mem_range.2 hil)
  rw [hi, List.getElem?_eq_getElem (by omega)] at h1
  simp only [Bool.and_eq_true] at h1
  have h2 := Array.all_eq_true'.1 h1.1.1 e he
  rw [hb] at h2
  simpa using h2
 ·rcases Nat.lt_trichotomy i j with hlt | rfl | hlt
  ·have := (pair j i gj gi hlt hj hi).1
   rw [hdi, hdj] at this
   simp at this
  ·rfl
  ·have := (pair i j gi gj hlt hi hj).1
   rw [hdi, hdj] at this
   simp at this
 ·have := (pair i j gi gj hji hi hj).2.1
  rw [hd] at this
  simpa [hm] using this
 ·have := (pair i j gi gj hji hi hj).2.2.1
  rw [hd] at this
  simpa [hm] using this
 ·have := (pair i j gi gj hji hi hj).2.2.2.1
  simpa [h1, h2, h3] using this
 ·have := (pair i j gi gj hji hi hj).2.2.2.2.1
  simpa [h1, h2] using this
 ·have := (pair i j gi gj hji hi hj).2.2.2.2.2
  simpa [h1, h2] using this
def Closed (ops : Array Oper) (listed : Array Bool) : Prop := ∀ j o, ops[j]? = some o → listed.getD j false = true → ∀ e ∈ o.after, Region.binds .any e = true → listed.getD e.on false = true
theorem rch_listed {ops : Array Oper} {listed : Array Bool} (hc : Closed ops listed) : ∀ {f j i : Nat}, rch ops f j i = true → (listed.getD j false = true ∨ j ∈ Region.ready .any ops listed) → listed.getD i false = true
 | 0, _, _, h, _ => by simp [rch] at h
 | f + 1, j, i, h, hj => by
  simp only [rch] at h
  split at h
  case h_2 => cases h
  rename_i o ho
  obtain ⟨e, he, h1⟩ := Array.any_eq_true'.1 h
  simp only [Bool.and_eq_true, Bool.or_eq_true, beq_iff_eq, decide_eq_true_eq] at h1
  obtain ⟨hb, h2⟩ := h1
  have hon : listed.getD e.on false = true := by
   rcases hj with hj | hj
   ·exact hc j o ho hj e he hb
   ·obtain ⟨_, o', ho', hall⟩ := mem_ready.1 hj
    rw [ho] at ho'
    cases ho'
    exact hall e he hb
  rcases h2 with h2 | ⟨_, h2⟩
  ·rw [← h2]; exact hon
  ·exact rch_listed hc h2 (.inl hon)
theorem Closed.set {ops : Array Oper} {listed : Array Bool} (hc : Closed ops listed) {i : Nat} (hi : i ∈ Region.ready .any ops listed) : Closed ops (listed.setIfInBounds i true) := by
 obtain ⟨_, oi, hoi, hall⟩ := mem_ready.1 hi
 intro j oj hj hl e he hb
 by_cases hij : i = j
 ·subst hij
  rw [hj] at hoi
  cases hoi
  exact getD_set_true (hall e he hb)
 ·rw [getD_set_ne false hij] at hl
  exact getD_set_true (hc j oj hj hl e he hb)
theorem all_listed {ops : Array Oper} {gl : List GO} {ali : Nat → Nat → Prop} {hz : Nat → Option (Nat × Nat × MV)} (hd : DrawOk ops gl ali hz) {listed : Array Bool} (hsz : listed.size = ops.size) (hr : Region.ready .any ops listed = []) : ∀ j, j < ops.size → listed.getD j false = true := by
 intro j
 induction j using Nat.strongRecOn with
 | _ j ih =>
  intro hj
  refine Classical.byContradiction fun hn => ?_
  have hmem : j ∈ Region.ready .any ops listed := mem_ready.2 ⟨by
   have : j < listed.size := by omega
   simp [this] at hn ⊢
   exact hn, ops[j], by simp [hj], fun e he hb => ?_⟩
  ·rw [hr] at hmem; cases hmem
  ·have := hd.back j ops[j] (by simp [hj]) e he hb
   exact ih e.on this (by omega)
theorem V.idlt {E : Env} {h : MHeap} {w : World} (hr : HRel E h w) {m : MV} {v : Value} (hv : V E w m v) {id : Nat} (hi : m.id? = some id) : id < h.length := by
 cases hv <;> simp [MV.id?] at hi
 all_goals (subst hi; exact hr.klt _ (by assumption))
theorem ok_shrink {h t : MHeap} {id g sz : Nat} (hl : id < h.length) (he : MHeap.ok (h ++ t) id g sz = true) : MHeap.ok h id g sz = true := by
 unfold MHeap.ok at he ⊢
 rwa [List.getElem?_append_left hl] at he
theorem evO_shrink {lk : Nat → Bool} {O : Oracle} {s : List MV} {h h' t : MHeap} {mo : MO} {v : MV} (hp : mo.isR = true) (hid : ∀ x ∈ mo.xs, ∀ id, (MX.get s x).id? = some id → id < h.length) (he : evO lk O s (h ++ t) mo = some (v, h')) : evO lk O s h mo = some (v, h) := by
 cases mo <;> simp only [MO.isR, Bool.false_eq_true] at hp <;> simp only [evO] at he ⊢
 case ld ag x =>
  have hx := hid x (by simp [MO.xs])
  split at he
  ·simp only [Option.map_eq_some_iff, Prod.mk.injEq] at he ⊢
   obtain ⟨m, h1, rfl, rfl⟩ := he
   simp [h1]
  ·rename_i id i off g hb
   have hl := hx id (by rw [hb]; rfl)
   rw [List.getElem?_append_left hl] at he
   split at he
   ·rename_i ob hob
    simp only [hob]
    split at he
    ·rename_i hg
     simp only [if_pos hg]
     split at he
     ·simp only [Option.map_eq_some_iff, Prod.mk.injEq] at he ⊢
      obtain ⟨m, h1, rfl, rfl⟩ := he
      simp [h1]
     ·cases he
    ·cases he
   ·cases he
  ·cases he
 case eqn neg x =>
  have hx := hid x (by simp [MO.xs])
  split at he
  ·rename_i id i n g hb
   have hl := hx id (by rw [hb]; rfl)
   rw [List.getElem?_append_left hl] at he
   split at he
   ·rename_i ob hob
    simp only [hob]
    split at he
    ·rename_i hg
     simp only [if_pos hg]
     simp only [Option.some.injEq, Prod.mk.injEq] at he ⊢
     exact ⟨he.1, trivial⟩
    ·cases he
   ·cases he
  ·simp only [Option.some.injEq, Prod.mk.injEq] at he ⊢
   exact ⟨he.1, trivial⟩
  ·simp only [Option.some.injEq, Prod.mk.injEq] at he ⊢
   exact ⟨he.1, trivial⟩
  ·simp only [Option.some.injEq, Prod.mk.injEq] at he ⊢
   exact ⟨he.1, trivial⟩
  ·cases he
 case slc sz x lo hi =>
  have hx := hid x (by simp [MO.xs])
  split at he
  ·split at he
   ·rename_i hc
    simp only [if_pos hc, Option.some.injEq, Prod.mk.injEq] at he ⊢
    exact ⟨he.1, trivial⟩
   ·cases he
  ·split at he
   ·rename_i hc
    simp only [if_pos hc, Option.some.injEq, Prod.mk.injEq] at he ⊢
    exact ⟨he.1, trivial⟩
   ·cases he
  ·rename_i id i n g l u hb el eu
   split at he
   ·rename_i hc
    rw [if_pos ⟨hc.1, hc.2.1, hc.2.2.1, ok_shrink (hx id (by rw [hb]; rfl)) hc.2.2.2⟩]
    simp only [Option.some.injEq, Prod.mk.injEq] at he ⊢
    exact ⟨he.1, trivial⟩
   ·cases he
  ·rename_i id i n g l hb el eu
   split at he
   ·rename_i hc
    rw [if_pos ⟨hc.1, hc.2.1, ok_shrink (hx id (by rw [hb]; rfl)) hc.2.2⟩]
    simp only [Option.some.injEq, Prod.mk.injEq] at he ⊢
    exact ⟨he.1, trivial⟩
   ·cases he
  ·cases he
 case ia sz x i =>
  have hx := hid x (by simp [MO.xs])
  split at he
  ·split at he
   ·rename_i hc
    simp only [if_pos hc]
    obtain ⟨e, h1, h2⟩ := Option.bind_eq_some_iff.1 he
    rw [h1]
    simp only [Option.bind_some]
    split at h2
    ·rename_i hcl
     simp only [if_pos hcl, Option.some.injEq, Prod.mk.injEq] at h2 ⊢
     exact ⟨h2.1, trivial⟩
    ·cases h2
   ·cases he
  ·rename_i id j n g k hb hk
   split at he
   ·rename_i hc
    rw [if_pos ⟨hc.1, hc.2.1, ok_shrink (hx id (by rw [hb]; rfl)) hc.2.2⟩]
    simp only [Option.some.injEq, Prod.mk.injEq] at he ⊢
    exact ⟨he.1, trivial⟩
   ·cases he
  ·cases he
end Go.Proofs.YtnmgpbihknjdjaaDoor
namespace Go.Proofs.YtnmgpbihknjdjaaDoor
open Go.RowKit
section
variable {lk : Nat → Bool} {P : Program} {O : Oracle} {ops : Array Oper} {gl : List GO} {tr : Nat → MSt} {vi : Nat → MV} {ali : Nat → Nat → Prop} {hz : Nat → Option (Nat × Nat × MV)}
def CompV (P : Program) (ops : Array Oper) (o : Oper) (go : GO) : Prop :=
 compG P ops o = some go ∨ ∃ go0 z n len ps, compG P ops o = some go0 ∧ isBs o.op = true ∧ go0.op = .bsl z n len ps ∧ go = ⟨go0.guard, go0.dst, .vsl z n len ps⟩
theorem CompV.dst {P : Program} {ops : Array Oper} {o : Oper} {go : GO} (h : CompV P ops o go) : go.dst = o.dst := by
 rcases h with h | ⟨go0, z, n, len, ps, h, _, _, rfl⟩
 ·exact compG_dst h
 ·show go0.dst = o.dst
  exact compG_dst h
theorem CompV.wanted {P : Program} {ops : Array Oper} {o : Oper} {go : GO} (h : CompV P ops o go) {E : Env} {w : World} {s : List MV} {a : Act} (hs : Slots E w s a) {t : Bool} (ht : wantM s go.guard = some t) : Region.wanted o (yielded ops a.tmps) = t := by
 rcases h with h | ⟨go0, z, n, len, ps, h, _, _, rfl⟩
 ·exact wantM_wanted h hs ht
 ·exact wantM_wanted h hs ht
def Ahead (P : Program) (ops : Array Oper) (o : Oper) (go : GO) (d : Nat) (z : MV) : Prop := isAl o.op = true ∧ compG P ops o = some ⟨none, some d, .new z⟩ ∧ go = ⟨none, some d, .nilck (.s d)⟩
structure TextRun (lk : Nat → Bool) (P : Program) (O : Oracle) (ops : Array Oper) (gl : List GO) (tr : Nat → MSt) (vi : Nat → MV) (hz : Nat → Option (Nat × Nat × MV)) : Prop where
 len : gl.length ≤ ops.size
 comp : ∀ (i : Nat) o go, ops[i]? = some o → gl[i]? = some go → (hz i = none ∧ CompV P ops o go) ∨ ∃ d id z, hz i = some (d, id, z) ∧ Ahead P ops o go d z
 put : ∀ (i : Nat) go, gl[i]? = some go → (tr (i + 1)).s = putM (tr i).s go.dst (vi i)
 val : ∀ (i : Nat) go, gl[i]? = some go → (wantM (tr i).s go.guard = some true ∧ evO lk O (tr i).s (tr i).h go.op = some (vi i, (tr (i + 1)).h)) ∨ (wantM (tr i).s go.guard = some false ∧ vi i = .lit undef ∧ (tr (i + 1)).h = (tr i).h)
 hd0 : ∀ (j d id : Nat) (z : MV), hz j = some (d, id, z) → gl[j]? = some ⟨none, some d, .nilck (.s d)⟩ ∧ (tr 0).s[d]? = some (.ptr id 0 0 0) ∧ (tr 0).h[id]? = some ⟨0, false, z.cells.length, [z]⟩
 hinj : ∀ (i j d d' id id' : Nat) (z z' : MV), hz i = some (d, id, z) → hz j = some (d', id', z') → i ≠ j → id ≠ id'
theorem TextRun.at_ (ht : TextRun lk P O ops gl tr vi hz) {i : Nat} (hi : i < gl.length) : ∃ o go, ops[i]? = some o ∧ gl[i]? = some go ∧ ((hz i = none ∧ CompV P ops o go) ∨ ∃ d id z, hz i = some (d, id, z) ∧ Ahead P ops o go d z) := by
 have hio : i < ops.size := Nat.lt_of_lt_of_le hi ht.len
 have h1 : gl[i]? = some (gl[i]'hi) := by simp
 have h2 : ops[i]? = some ops[i] := by simp [hio]
 exact ⟨_, _, h2, h1, ht.comp i _ _ h2 h1⟩
theorem putM_len (s : List MV) (d : Option Nat) (v : MV) : (putM s d v).length = s.length := by cases d <;> simp [putM]
theorem TextRun.slen (ht : TextRun lk P O ops gl tr vi hz) : ∀ i, i ≤ gl.length → (tr i).s.length = (tr 0).s.length
 | 0, _ => rfl
 | i + 1, h => by
  obtain ⟨o, go, h1, h2, h3⟩ := ht.at_ (i := i) (by omega)
  rw [ht.put i go h2, putM_len]
  exact ht.slen i (by omega)
theorem TextRun.slot (ht : TextRun lk P O ops gl tr vi hz) (hd : DrawOk ops gl ali hz) {t : Nat} (htl : t < (tr 0).s.length) : ∀ i, i ≤ gl.length →
  (∃ j go, j < i ∧ gl[j]? = some go ∧ go.dst = some t ∧ (tr i).s[t]? = some (vi j)) ∨ ((∀ (j : Nat) go, j < i → gl[j]? = some go → go.dst ≠ some t) ∧ (tr i).s[t]? = (tr 0).s[t]?)
 | 0, _ => .inr ⟨fun j go hj => absurd hj (by omega), rfl⟩
 | i + 1, h => by
  obtain ⟨o, go, h1, h2, h3⟩ := ht.at_ (i := i) (by omega)
  have ih := ht.slot hd htl i (by omega)
  have hl := ht.slen i (by omega)
  rw [ht.put i go h2]
  by_cases e : go.dst = some t
  ·refine .inl ⟨i, go, by omega, h2, e, ?_⟩
   rw [e]
   simp [putM, hl, htl]
  ·have hsame : (putM (tr i).s go.dst (vi i))[t]? = (tr i).s[t]? := by
    cases hdd : go.dst with
    | none => rfl
    | some d =>
     have hne : d ≠ t := fun e' => e (by rw [hdd, e'])
     simp only [putM]
     rw [List.getElem?_set_ne hne]
   rw [hsame]
   rcases ih with ⟨j, gj, a1, a2, a3, a4⟩ | ⟨a1, a2⟩
   ·exact .inl ⟨j, gj, by omega, a2, a3, a4⟩
   ·refine .inr ⟨fun j gj hj hgj => ?_, a2⟩
    by_cases e2 : j = i
    ·subst e2
     rw [h2] at hgj; cases hgj; exact e
    ·exact a1 j gj (by omega) hgj
theorem TextRun.heapP (ht : TextRun lk P O ops gl tr vi hz) {i : Nat} {go : GO} (hi : gl[i]? = some go) (hp : go.op.isP = true) : (tr (i + 1)).h = (tr i).h := by
 rcases ht.val i go hi with ⟨_, h⟩ | ⟨_, _, h⟩
 ·exact (evO_mono (t := []) hp h).1
 ·exact h
theorem TextRun.heapM (ht : TextRun lk P O ops gl tr vi hz) (hA : AppO O) {i : Nat} {go : GO} (hi : gl[i]? = some go) (hm : go.op.isM = false) : ∃ t, (tr (i + 1)).h = (tr i).h ++ t := by
 rcases ht.val i go hi with ⟨_, h⟩ | ⟨_, _, h⟩
 ·exact evO_app hA hm h
 ·exact ⟨[], by rw [h]; simp⟩
theorem TextRun.sameH (ht : TextRun lk P O ops gl tr vi hz) {i : Nat} : ∀ d, i + d ≤ gl.length → (∀ (j : Nat) go, i ≤ j → j < i + d → gl[j]? = some go → go.op.isP = true) → (tr (i + d)).h = (tr i).h
 | 0, _, _ => rfl
 | d + 1, hl, h => by
  obtain ⟨o, go, h1, h2, h3⟩ := ht.at_ (i := i + d) (by omega)
  have := ht.heapP h2 (h (i + d) go (by omega) (by omega) h2)
  rw [← Nat.add_assoc, this]
  exact ht.sameH d (by omega) fun j gj h1 h2 h3 => h j gj h1 (by omega) h3
theorem evO_len {lk : Nat → Bool} {O : Oracle} (hA : AppO O) {s : List MV} {h h' : MHeap} {mo : MO} {v : MV} (he : evO lk O s h mo = some (v, h')) : h.length ≤ h'.length := by
 cases hm : mo.isM
 ·obtain ⟨t, rfl⟩ := evO_app hA hm he
  simp
 ·cases mo <;> simp only [MO.isM, Bool.false_eq_true] at hm <;> simp only [evO] at he
  case bad => cases he
  all_goals
   repeat' (split at he)
   all_goals (first | (cases he; done) | skip)
   all_goals (simp only [Option.some.injEq, Prod.mk.injEq] at he; obtain ⟨rfl, rfl⟩ := he; simp)
theorem TextRun.lenStep (ht : TextRun lk P O ops gl tr vi hz) (hA : AppO O) {i : Nat} (hi : i < gl.length) : (tr i).h.length ≤ (tr (i + 1)).h.length := by
 obtain ⟨o, go, h1, h2, h3⟩ := ht.at_ hi
 rcases ht.val i go h2 with ⟨_, h⟩ | ⟨_, _, h⟩
 ·exact evO_len hA h
 ·rw [h]; exact Nat.le_refl _
theorem TextRun.lenMono (ht : TextRun lk P O ops gl tr vi hz) (hA : AppO O) {i : Nat} : ∀ d, i + d ≤ gl.length → (tr i).h.length ≤ (tr (i + d)).h.length
 | 0, _ => Nat.le_refl _
 | d + 1, h => Nat.le_trans (ht.lenMono hA d (by omega)) (ht.lenStep hA (i := i + d) (by omega))
theorem TextRun.lenLe (ht : TextRun lk P O ops gl tr vi hz) (hA : AppO O) {i j : Nat} (hij : i ≤ j) (hj : j ≤ gl.length) : (tr i).h.length ≤ (tr j).h.length := by
 have := ht.lenMono hA (i := i) (j - i) (by omega)
 rwa [show i + (j - i) = j by omega] at this
theorem mks_app {lk : Nat → Bool} {O : Oracle} {o : Oper} {mo : MO} (hk : isMk o.op = true) (hc : compO P o = some mo) {s : List MV} {h h' : MHeap} {v : MV} (he : evO lk O s h mo = some (v, h')) : ∃ ob, h' = h ++ [ob] := by
 obtain ⟨dst, op, type, pos, after, guard⟩ := o
 cases op <;> simp only [isMk, Bool.false_eq_true] at hk
 simp only [compO, Option.bind_eq_bind, Option.bind_eq_some_iff] at hc
 obtain ⟨e, ht1, ie, hie, z1, hz, hc⟩ := hc
 split at hc
 case isFalse => cases hc
 simp only [Option.bind_eq_some_iff, Option.some.injEq] at hc
 obtain ⟨l', hl, rfl⟩ := hc
 simp only [evO] at he
 split at he
 case h_2 => cases he
 split at he
 case isFalse => cases he
 simp only [Option.some.injEq, Prod.mk.injEq] at he
 exact ⟨_, he.2.symm⟩
theorem TextRun.heapK (ht : TextRun lk P O ops gl tr vi hz) {i : Nat} (hi : i < gl.length) (hk : mkAt ops i = true) : ∃ t, (tr (i + 1)).h = (tr i).h ++ t := by
 obtain ⟨o, go, h1, h2, h3⟩ := ht.at_ hi
 rcases ht.val i go h2 with ⟨_, h⟩ | ⟨_, _, h⟩
 ·unfold mkAt at hk
  rw [h1] at hk
  have hk' : isMk o.op = true := hk
  rcases h3 with ⟨_, h3 | ⟨_, _, _, _, _, _, hbs, _⟩⟩ | ⟨_, _, _, _, hal, _⟩
  ·have hop := compG_op h3
   cases hco : compO P o with
   | none => rw [hco] at hop; rw [hop] at h; simp [evO] at h
   | some mo =>
    rw [hco] at hop
    simp only [Option.getD_some] at hop
    rw [hop] at h
    obtain ⟨ob, e⟩ := mks_app hk hco h
    exact ⟨_, e⟩
  ·exfalso
   generalize o.op = op at hk' hbs
   cases op <;> simp only [isMk, isBs, Bool.false_eq_true] at hk' hbs
  ·exfalso
   generalize o.op = op at hk' hal
   cases op <;> simp only [isMk, isAl, Bool.false_eq_true] at hk' hal
 ·exact ⟨[], by rw [h]; simp⟩
theorem TextRun.preK (ht : TextRun lk P O ops gl tr vi hz) {i : Nat} : ∀ d, i + d ≤ gl.length → (∀ (j : Nat) go, i ≤ j → j < i + d → gl[j]? = some go → go.op.isP = true ∨ mkAt ops j = true) → ∃ t, (tr (i + d)).h = (tr i).h ++ t
 | 0, _, _ => ⟨[], by simp⟩
 | d + 1, hl, h => by
  obtain ⟨o, go, h1, h2, h3⟩ := ht.at_ (i := i + d) (by omega)
  obtain ⟨t1, e1⟩ := ht.preK d (by omega) fun j gj h1 h2 h3 => h j gj h1 (by omega) h3
  rcases h (i + d) go (by omega) (by omega) h2 with hp | hk
  ·exact ⟨t1, by rw [← Nat.add_assoc, ht.heapP h2 hp, e1]⟩
  ·obtain ⟨t2, e2⟩ := ht.heapK (i := i + d) (by omega) hk
   exact ⟨t1 ++ t2, by rw [← Nat.add_assoc, e2, e1, List.append_assoc]⟩
theorem TextRun.preX (ht : TextRun lk P O ops gl tr vi hz) {i : Nat} : ∀ d, i + d ≤ gl.length → (∀ (j : Nat) go, i ≤ j → j < i + d → gl[j]? = some go → ∃ t, (tr (j + 1)).h = (tr j).h ++ t) → ∃ t, (tr (i + d)).h = (tr i).h ++ t
 | 0, _, _ => ⟨[], by simp⟩
 | d + 1, hl, h => by
  obtain ⟨o, go, h1, h2, h3⟩ := ht.at_ (i := i + d) (by omega)
  obtain ⟨t1, e1⟩ := ht.preX d (by omega) fun j gj h1 h2 h3 => h j gj h1 (by omega) h3
  obtain ⟨t2, e2⟩ := h (i + d) go (by omega) (by omega) h2
  exact ⟨t1 ++ t2, by rw [← Nat.add_assoc, e2, e1, List.append_assoc]⟩
def ShpExt (h h' : MHeap) : Prop := ∀ (id : Nat) o, h[id]? = some o → ∃ o', h'[id]? = some o' ∧ o'.g = o.g ∧ o'.nl = o.nl ∧ o'.sz = o.sz ∧ o'.es.length = o.es.length
theorem ShpExt.refl (h : MHeap) : ShpExt h h := fun _ o ho => ⟨o, ho, rfl, rfl, rfl, rfl⟩
theorem ShpExt.trans {a b c : MHeap} (h : ShpExt a b) (k : ShpExt b c) : ShpExt a c := fun id o ho => by
 obtain ⟨o1, a1, a2, a3, a4, a5⟩ := h id o ho
 obtain ⟨o2, b1, b2, b3, b4, b5⟩ := k id o1 a1
 exact ⟨o2, b1, b2.trans a2, b3.trans a3, b4.trans a4, b5.trans a5⟩
theorem ShpExt.app (h t : MHeap) : ShpExt h (h ++ t) := fun id o ho => ⟨o, by rw [List.getElem?_append_left (List.getElem?_eq_some_iff.1 ho).1]; exact ho, rfl, rfl, rfl, rfl⟩
def isLd : MO → Bool
 | .ld _ _ => true
 | _ => false
def isSt : MO → Bool
 | .st _ _ _ => true
 | _ => false
theorem st_shp {lk : Nat → Bool} {O : Oracle} {s : List MV} {h h' : MHeap} {mo : MO} {v : MV} (hm : isSt mo = true) (he : evO lk O s h mo = some (v, h')) : ShpExt h h' ∧ ∀ sz p x, mo = .st sz (.s p) x → ∀ id, ((s.getD p (.lit undef)).id? = some id → False) → h'[id]? = h[id]? := by
 cases mo <;> simp only [isSt, Bool.false_eq_true] at hm
 rename_i sz p x
 simp only [evO] at he
 split at he
 case isFalse => cases he
 split at he
 case h_2 => cases he
 rename_i id0 i off g hb
 split at he
 case h_2 => cases he
 rename_i o ho
 split at he
 case isFalse => cases he
 split at he
 case h_2 => cases he
 rename_i e hee
 split at he
 case h_2 => cases he
 simp only [Option.some.injEq, Prod.mk.injEq] at he
 obtain ⟨rfl, rfl⟩ := he
 refine ⟨fun id ob hob => ?_, fun sz' p' x' hmo id hne => ?_⟩
 ·by_cases e2 : id0 = id
  ·subst e2
   rw [ho] at hob; cases hob
   exact ⟨_, List.getElem?_set_self (List.getElem?_eq_some_iff.1 ho).1, rfl, rfl, rfl, by simp⟩
  ·exact ⟨ob, by rw [List.getElem?_set_ne e2]; exact hob, rfl, rfl, rfl, rfl⟩
 ·cases hmo
  simp only [MX.get] at hb
  refine List.getElem?_set_ne fun e2 => hne (by rw [hb, ← e2]; rfl)
theorem evO_shp {lk : Nat → Bool} {O : Oracle} {s : List MV} {h1 h2 h' : MHeap} {mo : MO} {v : MV} (hp : mo.isR = true) (hl : isLd mo = false) (hg : ∀ x ∈ mo.xs, ∀ id, (MX.get s x).id? = some id → ∀ o, h1[id]? = some o → ∃ o', h2[id]? = some o' ∧ o'.g = o.g ∧ o'.nl = o.nl ∧ o'.sz = o.sz ∧ o'.es.length = o.es.length) (he : evO lk O s h1 mo = some (v, h')) : evO lk O s h2 mo = some (v, h2) := by
 have hok : ∀ {id g sz : Nat}, (∀ o, h1[id]? = some o → ∃ o', h2[id]? = some o' ∧ o'.g = o.g ∧ o'.nl = o.nl ∧ o'.sz = o.sz ∧ o'.es.length = o.es.length) → MHeap.ok h1 id g sz = true → MHeap.ok h2 id g sz = true := fun hh hk => by
  unfold MHeap.ok at hk ⊢
  split at hk
  ·rename_i o ho
   obtain ⟨o', e1, e2, e3, e4, e5⟩ := hh o ho
   rw [e1]
   simp only [e2, e4]
   exact hk
  ·cases hk
 cases mo <;> simp only [MO.isR, Bool.false_eq_true] at hp <;> simp only [isLd, Bool.true_eq_false] at hl <;> simp only [evO] at he ⊢
 case eqn neg x =>
  have hx := hg x (by simp [MO.xs])
  split at he
  ·rename_i id i n g hb
   have hx' := hx id (by rw [hb]; rfl)
   split at he
   ·rename_i o ho
    obtain ⟨o', e1, e2, e3, e4, e5⟩ := hx' o ho
    simp only [e1, e2, e3, e5]
    split at he
    ·rename_i hc
     simp only [if_pos hc, Option.some.injEq, Prod.mk.injEq] at he ⊢
     exact ⟨he.1, trivial⟩
    ·cases he
   ·cases he
  ·simp only [Option.some.injEq, Prod.mk.injEq] at he ⊢
   exact ⟨he.1, trivial⟩
  ·simp only [Option.some.injEq, Prod.mk.injEq] at he ⊢
   exact ⟨he.1, trivial⟩
  ·simp only [Option.some.injEq, Prod.mk.injEq] at he ⊢
   exact ⟨he.1, trivial⟩
  ·cases he
 case slc sz x lo hi =>
  have hx := hg x (by simp [MO.xs])
  split at he
  ·split at he
   ·rename_i hc
    simp only [if_pos hc, Option.some.injEq, Prod.mk.injEq] at he ⊢
    exact ⟨he.1, trivial⟩
   ·cases he
  ·split at he
   ·rename_i hc
    simp only [if_pos hc, Option.some.injEq, Prod.mk.injEq] at he ⊢
    exact ⟨he.1, trivial⟩
   ·cases he
  ·rename_i id i n g l u hb el eu
   split at he
   ·rename_i hc
    rw [if_pos ⟨hc.1, hc.2.1, hc.2.2.1, hok (hx id (by rw [hb]; rfl)) hc.2.2.2⟩]
    simp only [Option.some.injEq, Prod.mk.injEq] at he ⊢
    exact ⟨he.1, trivial⟩
   ·cases he
  ·rename_i id i n g l hb el eu
   split at he
   ·rename_i hc
    rw [if_pos ⟨hc.1, hc.2.1, hok (hx id (by rw [hb]; rfl)) hc.2.2⟩]
    simp only [Option.some.injEq, Prod.mk.injEq] at he ⊢
    exact ⟨he.1, trivial⟩
   ·cases he
  ·cases he
 case ia sz x i =>
  have hx := hg x (by simp [MO.xs])
  split at he
  ·split at he
   ·rename_i hc
    simp only [if_pos hc]
    obtain ⟨e, h1, h2⟩ := Option.bind_eq_some_iff.1 he
    rw [h1]
    simp only [Option.bind_some]
    split at h2
    ·rename_i hcl
     simp only [if_pos hcl, Option.some.injEq, Prod.mk.injEq] at h2 ⊢
     exact ⟨h2.1, trivial⟩
    ·cases h2
   ·cases he
  ·rename_i id j n g k hb hk
   split at he
   ·rename_i hc
    rw [if_pos ⟨hc.1, hc.2.1, hok (hx id (by rw [hb]; rfl)) hc.2.2⟩]
    simp only [Option.some.injEq, Prod.mk.injEq] at he ⊢
    exact ⟨he.1, trivial⟩
   ·cases he
  ·cases he
theorem TextRun.sameId (ht : TextRun lk P O ops gl tr vi hz) {i id : Nat} : ∀ d, i + d ≤ gl.length → (∀ (j : Nat) go, i ≤ j → j < i + d → gl[j]? = some go → (tr (j + 1)).h[id]? = (tr j).h[id]?) → (tr (i + d)).h[id]? = (tr i).h[id]?
 | 0, _, _ => rfl
 | d + 1, hl, h => by
  obtain ⟨o, go, h1, h2, h3⟩ := ht.at_ (i := i + d) (by omega)
  rw [← ht.sameId d (by omega) fun j gj h1 h2 h3 => h j gj h1 (by omega) h3, ← Nat.add_assoc]
  exact h (i + d) go (by omega) (by omega) h2
theorem app_keep {lk : Nat → Bool} {O : Oracle} {s : List MV} {h h' : MHeap} {sz p : Nat} {x : MX} {v : MV} (he : evO lk O s h (.app sz (.s p) x) = some (v, h')) {id : Nat} (hid : id < h.length) (hne : (s.getD p (.lit undef)).id? = some id → False) : h'[id]? = h[id]? := by
 simp only [evO, MX.get] at he
 split at he
 ·rename_i hb _
  rw [hb] at hne
  split at he
  ·split at he
   ·split at he
    ·simp only [Option.some.injEq, Prod.mk.injEq] at he
     rw [← he.2]
    ·split at he
     ·simp only [Option.some.injEq, Prod.mk.injEq] at he
      rw [← he.2, List.getElem?_set_ne (fun e => hne (by rw [← e]; rfl))]
     ·cases he
   ·cases he
  ·cases he
 ·split at he
  ·simp only [Option.some.injEq, Prod.mk.injEq] at he
   rw [← he.2]
  ·split at he
   ·simp only [Option.some.injEq, Prod.mk.injEq] at he
    rw [← he.2, List.getElem?_append_left hid]
   ·cases he
 ·split at he
  ·simp only [Option.some.injEq, Prod.mk.injEq] at he
   rw [← he.2]
  ·split at he
   ·simp only [Option.some.injEq, Prod.mk.injEq] at he
    rw [← he.2, List.getElem?_append_left hid]
   ·cases he
 ·cases he
def ShpAt (h h' : MHeap) (id : Nat) : Prop := ∀ o, h[id]? = some o → ∃ o', h'[id]? = some o' ∧ o'.g = o.g ∧ o'.nl = o.nl ∧ o'.sz = o.sz ∧ o'.es.length = o.es.length
theorem TextRun.preAt (ht : TextRun lk P O ops gl tr vi hz) {i id : Nat} : ∀ d, i + d ≤ gl.length → (∀ (j : Nat) go, i ≤ j → j < i + d → gl[j]? = some go → ShpAt (tr j).h (tr (j + 1)).h id) → ShpAt (tr i).h (tr (i + d)).h id
 | 0, _, _ => fun o ho => ⟨o, ho, rfl, rfl, rfl, rfl⟩
 | d + 1, hl, h => fun o ho => by
  obtain ⟨_, go, h1, h2, h3⟩ := ht.at_ (i := i + d) (by omega)
  obtain ⟨o1, a1, a2, a3, a4, a5⟩ := ht.preAt d (by omega) (fun j gj h1 h2 h3 => h j gj h1 (by omega) h3) o ho
  obtain ⟨o2, b1, b2, b3, b4, b5⟩ := h (i + d) go (by omega) (by omega) h2 o1 a1
  exact ⟨o2, b1, b2.trans a2, b3.trans a3, b4.trans a4, b5.trans a5⟩
theorem TextRun.stAt (ht : TextRun lk P O ops gl tr vi hz) {j : Nat} {gj : GO} (hgj : gl[j]? = some gj) (hs : isSt gj.op = true) (id : Nat) : ShpAt (tr j).h (tr (j + 1)).h id := by
 rcases ht.val j gj hgj with ⟨_, h⟩ | ⟨_, _, h⟩
 ·exact (st_shp hs h).1 id
 ·rw [h]; exact fun o ho => ⟨o, ho, rfl, rfl, rfl, rfl⟩
theorem TextRun.apAt (ht : TextRun lk P O ops gl tr vi hz) {j sz p : Nat} {x : MX} {gj : GO} (hgj : gl[j]? = some gj) (hs : gj.op = .app sz (.s p) x) {id : Nat} (hne : ((tr j).s.getD p (.lit undef)).id? = some id → False) : ShpAt (tr j).h (tr (j + 1)).h id := by
 rcases ht.val j gj hgj with ⟨_, h⟩ | ⟨_, _, h⟩
 ·rw [hs] at h
  exact fun o ho => ⟨o, by rw [app_keep h (List.getElem?_eq_some_iff.1 ho).1 hne]; exact ho, rfl, rfl, rfl, rfl⟩
 ·rw [h]; exact fun o ho => ⟨o, ho, rfl, rfl, rfl, rfl⟩
theorem ShpAt.app {h h' : MHeap} {id : Nat} (he : ∃ t, h' = h ++ t) : ShpAt h h' id := by
 obtain ⟨t, rfl⟩ := he
 exact ShpExt.app h t id
structure AnyInv (lk : Nat → Bool) (ops : Array Oper) (gl : List GO) (tr : Nat → MSt) (vi : Nat → MV) (hz : Nat → Option (Nat × Nat × MV)) (listed : Array Bool) (a0 : Act) (E0 : Env) (w0 : World) (a : Act) (w : World) (E : Env) (m : Nat) : Prop where
 size : listed.size = ops.size
 closed : Closed ops listed
 mle : m ≤ gl.length
 eff1 : ∀ (j : Nat) go, gl[j]? = some go → go.op.isP = false → listed.getD j false = true → j < m
 eff2 : ∀ (j : Nat) go, gl[j]? = some go → go.op.isP = false → j < m → listed.getD j false = true ∨ (mkAt ops j = true ∧ ∀ id, (tr j).h.length ≤ id → id < (tr (j + 1)).h.length → ¬ E.K id ∧ (tr m).h[id]? = (tr (j + 1)).h[id]?)
 top : ∀ j d id z, hz j = some (d, id, z) → E.top ≤ id
 top0 : E.top ≤ (tr 0).h.length
 hst : ∀ (j d id : Nat) (z : MV), hz j = some (d, id, z) → listed.getD j false = false → ¬ E.K id ∧ (tr m).h[id]? = some ⟨0, false, z.cells.length, [z]⟩
 last : ∀ j, gl.length ≤ j → listed.getD j false = false
 rel : HRel E (tr m).h w
 ext : Ext lk E0 w0 E w
 defers : a.defers = a0.defers
 tlen : a.tmps.size = (tr 0).s.length
 done : ∀ (j : Nat) go d u, listed.getD j false = true → gl[j]? = some go → go.dst = some d → a.tmps[d]? = some u → V E w (vi j) u
 rest : ∀ (t : Nat) mv u, (∀ (j : Nat) go, listed.getD j false = true → gl[j]? = some go → go.dst ≠ some t) → (∀ j d id z, hz j = some (d, id, z) → d ≠ t) → (tr 0).s[t]? = some mv → a.tmps[t]? = some u → V E w mv u
def onlyS (s : List MV) (l : List Nat) : List MV := s.mapIdx fun t v => if l.contains t then v else .junk
theorem onlyS_get {s : List MV} {l : List Nat} {t : Nat} (ht : t ∈ l) : s.getD t (.lit undef) = (onlyS s l).getD t (.lit undef) := by
 simp only [onlyS, List.getD, List.getElem?_mapIdx]
 cases s[t]? <;> simp [ht]
theorem AnyInv.slots {listed : Array Bool} {a0 a : Act} {E0 E : Env} {w0 w : World} {m i : Nat} {go : GO} (hi : AnyInv lk ops gl tr vi hz listed a0 E0 w0 a w E m) (ht : TextRun lk P O ops gl tr vi hz) (hd : DrawOk ops gl ali hz) (hr : i ∈ Region.ready .any ops listed) (hgo : gl[i]? = some go) (hni : hz i = none) :
  Slots E w (onlyS (tr i).s go.looks) a := by
 have hil : i < gl.length := (List.getElem?_eq_some_iff.1 hgo).1
 have hun : listed.getD i false = false := getD_both (mem_ready.1 hr).1
 refine ⟨by simp [onlyS, ht.slen i (by omega), hi.tlen], fun t mv u hm hu => ?_⟩
 simp only [onlyS, List.getElem?_mapIdx, Option.map_eq_some_iff] at hm
 obtain ⟨v, hv, hm⟩ := hm
 split at hm
 ·rename_i hc
  subst hm
  have hmem : t ∈ go.looks := by simpa using hc
  have htl : t < (tr 0).s.length := by rw [← ht.slen i (by omega)]; exact (List.getElem?_eq_some_iff.1 hv).1
  rcases ht.slot hd htl i (by omega) with ⟨j, gj, b1, b2, b3, b4⟩ | ⟨b1, b2⟩
  ·rw [hv] at b4
   cases b4
   exact hi.done j gj t u (rch_listed hi.closed (hd.reads i j go gj t b1 hgo b2 b3 hmem) (.inr hr)) b2 b3 hu
  ·rw [hv] at b2
   refine hi.rest t v u (fun j gj hj hgj hdj => ?_) (fun j d id z hh e => ?_) b2.symm hu
   ·rcases Nat.lt_trichotomy j i with hlt | rfl | hlt
    ·exact b1 j gj hlt hgj hdj
    ·rw [hun] at hj; cases hj
    ·have := rch_listed hi.closed (hd.writes j i gj go t hlt hgj hgo hdj hmem) (.inl hj)
     rw [hun] at this; cases this
   ·subst e
    obtain ⟨k1, k2, k3⟩ := ht.hd0 j d id z hh
    rcases Nat.lt_trichotomy j i with hlt | rfl | hlt
    ·exact b1 j _ hlt k1 rfl
    ·rw [hni] at hh; cases hh
    ·exact hd.hl j d id z hh i go hlt hgo hmem
 ·subst hm
  exact .junk _
theorem AnyInv.step {listed : Array Bool} {a0 a : Act} {E0 E E' : Env} {w0 w w' : World} {m i m' : Nat} {o : Oper} {go : GO} {u : Value} (hi : AnyInv lk ops gl tr vi hz listed a0 E0 w0 a w E m) (hd : DrawOk ops gl ali hz) (hr : i ∈ Region.ready .any ops listed) (ho : ops[i]? = some o) (hgo : gl[i]? = some go)
  (hdst : go.dst = o.dst) (hx : Ext lk E w E' w') (hV : V E' w' (vi i) u) (hrel : HRel E' (tr m').h w') (hm' : m' ≤ gl.length) (heff1 : ∀ (j : Nat) gj, gl[j]? = some gj → gj.op.isP = false → (listed.getD j false = true ∨ j = i) → j < m')
  (heff2 : ∀ (j : Nat) gj, gl[j]? = some gj → gj.op.isP = false → j < m' → (listed.getD j false = true ∨ j = i) ∨ (mkAt ops j = true ∧ ∀ id, (tr j).h.length ≤ id → id < (tr (j + 1)).h.length → ¬ E'.K id ∧ (tr m').h[id]? = (tr (j + 1)).h[id]?))
  (hhst : ∀ (j d id : Nat) (z : MV), hz j = some (d, id, z) → listed.getD j false = false → j ≠ i → ¬ E'.K id ∧ (tr m').h[id]? = some ⟨0, false, z.cells.length, [z]⟩) :
  AnyInv lk ops gl tr vi hz (listed.setIfInBounds i true) a0 E0 w0 (a.put o.dst u) w' E' m' := by
 have hil : i < listed.size := by rw [hi.size]; exact (Array.getElem?_eq_some_iff.1 ho).1
 have hset : ∀ j, (listed.setIfInBounds i true).getD j false = true ↔ listed.getD j false = true ∨ j = i := fun j => by
  by_cases e : i = j
  ·subst e; simp [hil]
  ·rw [getD_set_ne false e]
   exact ⟨.inl, fun h => h.resolve_right (fun e' => e e'.symm)⟩
 have hput : ∀ (d : Nat) (v : Value), (a.put o.dst u).tmps[d]? = some v → (o.dst = some d ∧ v = u) ∨ (o.dst ≠ some d ∧ a.tmps[d]? = some v) := fun d v hv => by
  cases hdd : o.dst with
  | none => rw [hdd] at hv; exact .inr ⟨by simp, hv⟩
  | some e =>
   rw [hdd] at hv
   simp only [Act.put] at hv
   by_cases he : e = d
   ·subst he
    rw [Array.getElem?_setIfInBounds] at hv
    simp only [if_true] at hv
    split at hv
    ·cases hv; exact .inl ⟨rfl, rfl⟩
    ·cases hv
   ·rw [Array.getElem?_setIfInBounds_ne he] at hv
    exact .inr ⟨by simpa using he, hv⟩
 refine ⟨by simp [hi.size], hi.closed.set hr, hm', fun j gj hgj hp => by rw [hset]; exact heff1 j gj hgj hp, fun j gj hgj hp => by rw [hset]; exact heff2 j gj hgj hp, fun j d id z hh => by rw [hx.top]; exact hi.top j d id z hh, by rw [hx.top]; exact hi.top0, fun j d id z hh hl => ?_, fun j hj => ?_, hrel, hi.ext.trans hx, ?_, ?_, fun j gj d v hj hgj hdj hv => ?_, fun t mv v hn hn2 hmv hv => ?_⟩
 ·have : ¬ (listed.getD j false = true ∨ j = i) := fun h => by rw [(hset j).2 h] at hl; cases hl
  exact hhst j d id z hh (by cases h : listed.getD j false; rfl; exact absurd (.inl h) this) fun e => this (.inr e)
 ·have hij : i ≠ j := fun e => by
   subst e
   have := (List.getElem?_eq_some_iff.1 hgo).1; omega
  rw [getD_set_ne false hij]
  exact hi.last j hj
 ·rw [← hi.defers]; cases o.dst <;> rfl
 ·rw [← hi.tlen]; cases o.dst <;> simp [Act.put]
 ·rcases hput d v hv with ⟨e1, rfl⟩ | ⟨e1, e2⟩
  ·obtain rfl : i = j := hd.ssa i j go gj d hgo hgj (hdst.trans e1) hdj
   exact hV
  ·have hne : j ≠ i := fun e => by
    subst e
    rw [hgo] at hgj; cases hgj
    exact e1 (hdst.symm.trans hdj)
   have hj' := ((hset j).1 hj).resolve_right hne
   exact (hi.done j gj d v hj' hgj hdj e2).ext hi.rel hx
 ·rcases hput t v hv with ⟨e1, rfl⟩ | ⟨e1, e2⟩
  ·exact absurd (hdst.trans e1) (hn i go ((hset i).2 (.inr rfl)) hgo)
  ·exact (hi.rest t mv v (fun j gj hj hgj => hn j gj ((hset j).2 (.inl hj)) hgj) hn2 hmv e2).ext hi.rel hx
theorem wantM_congr {s s' : List MV} {g : Option (Nat × Bool)} (h : ∀ t ∈ (match g with | some (d, _) => [d] | none => []), s.getD t (.lit undef) = s'.getD t (.lit undef)) : wantM s g = wantM s' g := by
 cases g with
 | none => rfl
 | some p => obtain ⟨d, b⟩ := p; simp only [wantM]; rw [h d (by simp)]
theorem ld_agree {lk : Nat → Bool} {O : Oracle} {s : List MV} {h1 h1' h2 : MHeap} {ag : Option Nat} {q : Nat} {v : MV} (hg : ∀ id, (s.getD q (.lit undef)).id? = some id → h2[id]? = h1[id]?) (he : evO lk O s h1 (.ld ag (.s q)) = some (v, h1')) : evO lk O s h2 (.ld ag (.s q)) = some (v, h2) := by
 simp only [evO, MX.get] at he ⊢
 generalize s.getD q (.lit undef) = x at hg he
 cases x with
 | rp e off =>
  simp only [Option.map_eq_some_iff, Prod.mk.injEq] at he ⊢
  obtain ⟨a, k1, k2, _⟩ := he
  exact ⟨a, k1, k2, trivial⟩
 | ptr id i off g =>
  have := hg id rfl
  simp only at he ⊢
  rw [this]
  split at he
  ·rename_i ob hob
   split at he
   ·rename_i hgg
    split at he
    ·rename_i e hee
     simp only [Option.map_eq_some_iff, Prod.mk.injEq] at he
     obtain ⟨a, k1, k2, _⟩ := he
     simp only [hgg, if_true, k1, Option.map_some, k2]
    ·cases he
   ·cases he
  ·cases he
 | _ => simp at he
theorem notDst_slot (ht : TextRun lk P O ops gl tr vi hz) (hd : DrawOk ops gl ali hz) {q : Nat} (hq : notDst gl q = true) {i : Nat} (hi : i ≤ gl.length) : (tr i).s.getD q (.lit undef) = (tr 0).s.getD q (.lit undef) := by
 by_cases htl : q < (tr 0).s.length
 ·rcases ht.slot hd htl i hi with ⟨j, go, a1, a2, a3, a4⟩ | ⟨a1, a2⟩
  ·have := List.all_eq_true.1 hq go (List.mem_of_getElem? a2)
   rw [a3] at this
   simp at this
  ·rw [List.getD_eq_getElem?_getD, a2, List.getD_eq_getElem?_getD]
 ·rw [List.getD_eq_getElem?_getD, List.getElem?_eq_none (by rw [ht.slen i hi]; omega), List.getD_eq_getElem?_getD, List.getElem?_eq_none (by omega)]
theorem oldSl_id (ht : TextRun lk P O ops gl tr vi hz) (hd : DrawOk ops gl ali hz) (h0 : ∀ t id, ((tr 0).s.getD t (.lit undef)).id? = some id → id < (tr 0).h.length) {q : Nat} (hq : oldSl gl q = true) {i : Nat} (hi : i ≤ gl.length) {id : Nat} (hid : ((tr i).s.getD q (.lit undef)).id? = some id) : id < (tr 0).h.length := by
 unfold oldSl at hq
 rw [Bool.or_eq_true] at hq
 rcases hq with hq | hq
 ·rw [notDst_slot ht hd hq hi] at hid
  exact h0 q id hid
 ·obtain ⟨g, hg, hgq⟩ := List.any_eq_true.1 hq
  rw [Bool.and_eq_true, beq_iff_eq] at hgq
  by_cases htl : q < (tr 0).s.length
  ·rcases ht.slot hd htl i hi with ⟨j, go, a1, a2, a3, a4⟩ | ⟨a1, a2⟩
   ·obtain ⟨jg, hjg⟩ := List.getElem?_of_mem hg
    have hjj : jg = j := hd.ssa jg j g go q hjg a2 hgq.1 a3
    subst hjj
    rw [hjg] at a2; cases a2
    have hf := hgq.2
    obtain ⟨gu, ds, op⟩ := g
    unfold faOf at hf
    split at hf
    ·rename_i q' hh
     cases hh
     rcases ht.val jg _ hjg with ⟨_, h⟩ | ⟨h, _⟩
     ·rw [List.getD_eq_getElem?_getD, a4, Option.getD_some] at hid
      simp only [evO, MX.get] at h
      rw [notDst_slot ht hd hf (by omega)] at h
      split at h
      ·rename_i id' i' o' g' hb
       simp only [Option.some.injEq, Prod.mk.injEq] at h
       rw [← h.1] at hid
       have := h0 q' id' (by rw [hb]; rfl)
       simp only [MV.id?, Option.some.injEq] at hid
       omega
      ·simp only [Option.some.injEq, Prod.mk.injEq] at h
       rw [← h.1] at hid
       simp [MV.id?] at hid
      ·cases h
     ·simp [wantM] at h
    ·cases hf
   ·rw [List.getD_eq_getElem?_getD, a2, ← List.getD_eq_getElem?_getD] at hid
    exact h0 q id hid
  ·rw [List.getD_eq_getElem?_getD, List.getElem?_eq_none (by rw [ht.slen i hi]; omega)] at hid
   simp [MV.id?] at hid
theorem newM_old (ht : TextRun lk P O ops gl tr vi hz) (hA : AppO O) (hd : DrawOk ops gl ali hz) {j : Nat} {g : GO} (hj : gl[j]? = some g) (hn : newM gl j g = true) {id : Nat} (hid : id < (tr 0).h.length) : (tr (j + 1)).h[id]? = (tr j).h[id]? := by
 have hjl : j < gl.length := (List.getElem?_eq_some_iff.1 hj).1
 have hln := ht.lenLe hA (i := 0) (j := j) (by omega) (by omega)
 rcases ht.val j g hj with ⟨_, h⟩ | ⟨_, _, h⟩
 case inr => rw [h]
 obtain ⟨gu, ds, op⟩ := g
 unfold newM at hn
 simp only at hn h
 split at hn
 case h_2 => cases hn
 rename_i sz p x hop
 obtain ⟨g', hg', hgp⟩ := List.any_eq_true.1 hn
 rw [Bool.and_eq_true, beq_iff_eq] at hgp
 obtain ⟨jb, hjb⟩ := List.getElem?_of_mem hg'
 rw [List.getElem?_take] at hjb
 split at hjb
 case isFalse => cases hjb
 rename_i hlt
 have key : ∀ v, (tr j).s.getD p (.lit undef) = v → (∃ id' i' n' g', v = .arr id' i' n' g' ∧ (tr 0).h.length ≤ id') ∨ v = .lit undef ∨ v = .emp := fun v hv => by
  by_cases htl : p < (tr 0).s.length
  ·rcases ht.slot hd htl j (by omega) with ⟨j1, go, a1, a2, a3, a4⟩ | ⟨a1, a2⟩
   ·have hjj : jb = j1 := hd.ssa jb j1 g' go p hjb a2 hgp.1 a3
    subst hjj
    rw [hjb] at a2; cases a2
    rw [List.getD_eq_getElem?_getD, a4, Option.getD_some] at hv
    have hlb := ht.lenLe hA (i := 0) (j := jb) (by omega) (by omega)
    rcases ht.val jb _ hjb with ⟨_, h1⟩ | ⟨h1, _⟩
    ·have hm := hgp.2
     obtain ⟨gu', ds', op'⟩ := g'
     unfold mksArr at hm
     split at hm <;> rename_i hh <;> (try (cases hm; done)) <;> cases hh <;> simp only [evO] at h1
     ·split at h1
      ·simp only [Option.some.injEq, Prod.mk.injEq] at h1
       exact .inl ⟨_, _, _, _, hv.symm.trans h1.1.symm, hlb⟩
      ·cases h1
     ·simp only [Option.some.injEq, Prod.mk.injEq] at h1
      exact .inl ⟨_, _, _, _, hv.symm.trans h1.1.symm, hlb⟩
     ·split at h1
      ·split at h1
       ·simp only [Option.some.injEq, Prod.mk.injEq] at h1
        exact .inl ⟨_, _, _, _, hv.symm.trans h1.1.symm, hlb⟩
       ·cases h1
      ·cases h1
     ·simp [setAtM] at h1
      exact .inr (.inr (hv.symm.trans h1.1.symm))
    ·have hm := hgp.2
     obtain ⟨gu', ds', op'⟩ := g'
     unfold mksArr at hm
     split at hm <;> rename_i hh <;> (try (cases hm; done)) <;> cases hh <;> simp [wantM] at h1
   ·exact absurd hgp.1 (a1 jb g' hlt hjb)
  ·rw [List.getD_eq_getElem?_getD, List.getElem?_eq_none (by rw [ht.slen j (by omega)]; omega)] at hv
   exact .inr (.inl hv.symm)
 simp only [evO, MX.get] at h
 rcases key _ rfl with ⟨id', i', n', g'', e, hge⟩ | e | e
 ·rw [e] at h
  split at h
  ·rename_i hb _
   cases hb
   split at h
   ·split at h
    ·split at h
     ·simp only [Option.some.injEq, Prod.mk.injEq] at h
      rw [← h.2]
     ·split at h
      ·simp only [Option.some.injEq, Prod.mk.injEq] at h
       rw [← h.2, List.getElem?_set_ne (by omega)]
      ·cases h
    ·cases h
   ·cases h
  ·rename_i hb _; cases hb
  ·rename_i hb _; cases hb
  ·cases h
 ·rw [e] at h
  split at h
  ·rename_i hb _; cases hb
  ·rename_i hb _; cases hb
  ·rename_i hb _; cases hb
  ·cases h
 ·rw [e] at h
  split at h
  ·rename_i hb _; cases hb
  ·rename_i hb _; cases hb
  ·split at h
   ·simp only [Option.some.injEq, Prod.mk.injEq] at h
    rw [← h.2]
   ·split at h
    ·simp only [Option.some.injEq, Prod.mk.injEq] at h
     rw [← h.2, List.getElem?_append_left (by omega)]
    ·cases h
  ·cases h
theorem late_new {P : Program} {lk : Nat → Bool} {o : Oper} {d id : Nat} {z : MV} {a : Act} {w : World} {E : Env} {H : MHeap} (hal : isAl o.op = true) (hc : compG P ops o = some ⟨none, some d, .new z⟩) (hr : HRel E H w)
  (hnk : ¬ E.K id) (ht : E.top ≤ id) (hid : H[id]? = some ⟨0, false, z.cells.length, [z]⟩) {r : Option Nat} {n : Nat} {K : Act → World → Prop} {Q : Exit → Act → World → Prop}
  (hK : ∀ v w' E', V E' w' (.ptr id 0 0 0) v → HRel E' H w' → Ext lk E w E' w' → (∀ j, E'.K j → E.K j ∨ j = id) → K (a.put o.dst v) w') : o.wpIn (Fw r) n P a w K Q := by
 have hop := compG_op hc
 simp only at hop
 obtain ⟨dst, op, type, pos, after, guard⟩ := o
 cases op <;> simp only [isAl, Bool.false_eq_true] at hal
 rename_i t
 cases hco : compO P ⟨dst, .alloc t, type, pos, after, guard⟩ with
 | none => rw [hco] at hop; cases hop
 | some mo =>
  rw [hco] at hop
  simp only [Option.getD_some] at hop
  subst hop
  have hnd : ∀ c, (⟨dst, .alloc t, type, pos, after, guard⟩ : Oper).op ≠ .defer c := fun c e => by cases e
  simp only [compO, Option.bind_eq_bind, Option.bind_eq_some_iff] at hco
  obtain ⟨z1, hz, hco⟩ := hco
  split at hco
  case isFalse => cases hco
  rename_i hok
  cases hco
  unfold tzero at hz
  rw [Option.map_eq_some_iff] at hz
  obtain ⟨v, hv, rfl⟩ := hz
  obtain ⟨i, hi, hzero⟩ := Option.bind_eq_some_iff.1 hv
  have hc0 : Vs E w (flat [ofV v]) v.cells.toList := by rw [flat_one]; exact ofV_ok hok
  have hoo := OnlyObj.of_below (lk := lk) (E := E) (id := id) ((Below.refl _ w).alloc (Nat.le_refl _) (.cells v.cells t))
  obtain ⟨r1, r2⟩ := hr.put (lk := lk) (w' := w.alloc (.cells v.cells t)) (h' := H) (id := id) (b := w.heap.size) (bo := 0) (cp := 1) (sz := (ofV v).cells.length) (g := 0) (nl := false) (es := [ofV v])
   hoo (fun hk => absurd hk hnk) (fun _ => .inl (Nat.le_refl _)) (fun j _ _ => rfl) hid (by simp) (by simp)
   (fun _ => ⟨_, _, World.alloc_heap_new w _, by have := hc0.1; rw [flat_one] at this; simpa using this.symm, fun q m hq => by
    have hql := (List.getElem?_eq_some_iff.1 hq).1
    have hql' : q < v.cells.toList.length := hc0.1 ▸ hql
    refine ⟨v.cells.toList[q], by simp at hql' ⊢, ?_⟩
    have hV := hc0.2 q m _ hq (List.getElem?_eq_getElem hql')
    exact hV.ext hr (Ext.put hoo (fun hk => absurd hk hnk) (fun _ => .inl (Nat.le_refl _)) (.inr ht))⟩) (Nat.le_refl _) (.inr ht)
  exact wpIn_val hnd (v := .pointer (some ⟨w.heap.size, 0, none⟩)) (by simp [execOp, Instr.alloc, zeroValue, typeInfo, hi, hzero, newVar, newRow]) (hK _ _ _ (ptr_put (by simp)) r1 r2 fun j hj => hj)
def preA (n k : Nat) : Array Bool := ((List.range n).map fun i => decide (i < k)).toArray
theorem any_of_seq {P : Program} {ops : Array Oper} {r : Option Nat} {m : Nat} {Q : Exit → Act → World → Prop} : ∀ (l : List Oper) (k fuel : Nat) (listed : Array Bool) (a : Act) (w : World), l.length ≤ fuel → (∀ j, l[j]? = ops[k + j]?) →
  Region.seqB .any ops l.length k listed = true → wpListIn (Fw r) m P ops Q l a w → wpAnyIn (Fw r) m P .any ops Q fuel listed a w
 | [], k, fuel, listed, a, w, _, _, hB, h => by
  have hr : Region.ready .any ops listed = [] := by simpa [Region.seqB] using hB
  cases fuel with
  | zero => exact ⟨hr, h⟩
  | succ f => exact ⟨fun _ => h, fun i hi => by rw [hr] at hi; cases hi⟩
 | o :: l, k, 0, listed, a, w, hf, _, _, _ => by simp at hf
 | o :: l, k, f + 1, listed, a, w, hf, hl, hB, h => by
  have h0 : ops[k]? = some o := by simpa using (hl 0).symm
  simp only [List.length_cons, Region.seqB, Bool.and_eq_true, decide_eq_true_eq] at hB
  refine ⟨fun h1 => (by rw [hB.1] at h1; cases h1), fun i hi => ?_⟩
  rw [hB.1] at hi
  obtain rfl : i = k := by simpa using hi
  have hw : wpOpIn (Fw r) m P ops Q i (wpListIn (Fw r) m P ops Q l) a w := by unfold wpOpIn; simp only [h0]; exact h
  exact wpOpIn_mono (fun a' w' h' => any_of_seq l (i + 1) f _ a' w' (by simpa using hf) (fun j => by have := hl (j + 1); simpa [Nat.add_assoc, Nat.add_comm 1 j] using this) hB.2 h') hw
theorem any_sound (hO : SoundO P O) (hA : AppO O) (ht : TextRun lk P O ops gl tr vi hz) (hd : DrawOk ops gl ali hz) (h0 : ∀ t id, ((tr 0).s.getD t (.lit undef)).id? = some id → id < (tr 0).h.length)
  (hal : ∀ (i j : Nat) gi gj, ali i j → gl[i]? = some gi → gl[j]? = some gj → (isLd gi.op = false ∧ isSt gj.op = true) ∨ (∃ ag q sz p x, gi.op = .ld ag (.s q) ∧ gj.op = .st sz (.s p) x ∧ ∀ id, ((tr i).s.getD q (.lit undef)).id? = some id → ((tr j).s.getD p (.lit undef)).id? = some id → False) ∨
   ((isLd gi.op = false ∨ ∃ ag q, gi.op = .ld ag (.s q)) ∧ ∃ sz p x, gj.op = .app sz (.s p) x ∧ ∀ y ∈ gi.op.xs, ∀ id, (MX.get (tr i).s y).id? = some id → ((tr j).s.getD p (.lit undef)).id? = some id → False))
  (hL : gl.length = ops.size ∨ (gl.length < ops.size ∧ (∀ j, j < gl.length → rch ops ops.size gl.length j = true) ∧ (∀ i, gl.length < i → i < ops.size → rch ops ops.size i gl.length = true) ∧ Region.seqB .any ops (ops.size - (gl.length + 1)) (gl.length + 1) (preA ops.size (gl.length + 1)) = true)) {a0 : Act} {E0 : Env} {w0 : World} {r : Option Nat} {n : Nat} {Q : Exit → Act → World → Prop}
  (hQ : ∀ a' w' E', Slots E' w' (tr gl.length).s a' → HRel E' (tr gl.length).h w' → Ext lk E0 w0 E' w' → a'.defers = a0.defers → wpOpIn (Fw r) n P ops Q gl.length (wpListIn (Fw r) n P ops Q (ops.toList.drop (gl.length + 1))) a' w') :
  ∀ (fuel : Nat) (listed : Array Bool) (a : Act) (w : World) (E : Env) (m : Nat), AnyInv lk ops gl tr vi hz listed a0 E0 w0 a w E m → listed.toList.countP (fun b => !b) ≤ fuel → wpAnyIn (Fw r) n P .any ops Q fuel listed a w := by
 have fin : ∀ {listed : Array Bool} {a : Act} {w : World} {E : Env} {m : Nat}, AnyInv lk ops gl tr vi hz listed a0 E0 w0 a w E m → (∀ j, j < gl.length → listed.getD j false = true) → wpOpIn (Fw r) n P ops Q gl.length (wpListIn (Fw r) n P ops Q (ops.toList.drop (gl.length + 1))) a w := by
  intro listed a w E m hi hall
  have hh : (tr gl.length).h = (tr m).h := by
   have := ht.sameH (i := m) (gl.length - m) (by have := hi.mle; omega) fun j go h1 h2 h3 => by
    cases hp : go.op.isP
    ·have := hi.eff1 j go h3 hp (hall j (by have := hi.mle; omega)); omega
    ·rfl
   rwa [show m + (gl.length - m) = gl.length by have := hi.mle; omega] at this
  refine hQ a w E ⟨by rw [ht.slen _ (Nat.le_refl _), hi.tlen], fun t mv u hm hu => ?_⟩ (by rw [hh]; exact hi.rel) hi.ext hi.defers
  have htl : t < (tr 0).s.length := by rw [← ht.slen _ (Nat.le_refl _)]; exact (List.getElem?_eq_some_iff.1 hm).1
  rcases ht.slot hd htl _ (Nat.le_refl _) with ⟨j, gj, b1, b2, b3, b4⟩ | ⟨b1, b2⟩
  ·rw [hm] at b4; cases b4
   exact hi.done j gj t u (hall j b1) b2 b3 hu
  ·rw [hm] at b2
   refine hi.rest t mv u (fun j gj hj hgj => b1 j gj (List.getElem?_eq_some_iff.1 hgj).1 hgj) (fun j d id z hh2 e => ?_) b2.symm hu
   subst e
   obtain ⟨k1, _, _⟩ := ht.hd0 j d id z hh2
   exact b1 j _ (List.getElem?_eq_some_iff.1 k1).1 k1 rfl
 have finR : ∀ {listed : Array Bool} {a : Act} {w : World} {E : Env} {m : Nat}, AnyInv lk ops gl tr vi hz listed a0 E0 w0 a w E m → Region.ready .any ops listed = [] → Q .normal a w := by
  intro listed a w E m hi hr
  have hall := all_listed hd hi.size hr
  rcases hL with e | ⟨e, _⟩
  ·have h1 := fin hi fun j hj => hall j (by omega)
   unfold wpOpIn at h1
   rw [Array.getElem?_eq_none (by omega), List.drop_eq_nil_of_le (by simp; omega)] at h1
   exact h1
  ·have h1 := hall gl.length (by omega)
   rw [hi.last gl.length (Nat.le_refl _)] at h1
   cases h1
 intro fuel
 induction fuel with
 | zero =>
  intro listed a w E m hi hc
  have hr : Region.ready .any ops listed = [] := by
   refine Classical.byContradiction fun hne => ?_
   obtain ⟨i, hir⟩ := List.exists_mem_of_ne_nil _ hne
   obtain ⟨hun, o, ho, -⟩ := mem_ready.1 hir
   have hil : i < listed.size := by rw [hi.size]; exact (Array.getElem?_eq_some_iff.1 ho).1
   have : 0 < listed.toList.countP (fun b => !b) := List.countP_pos_iff.2 ⟨listed[i], by simp, by simp [hil] at hun; simp [hun]⟩
   omega
  exact ⟨hr, finR hi hr⟩
 | succ fuel ih =>
  intro listed a w E m hi hc
  refine ⟨finR hi, fun i hir => ?_⟩
  obtain ⟨hun, o, ho, hall⟩ := mem_ready.1 hir
  have hio : i < ops.size := (Array.getElem?_eq_some_iff.1 ho).1
  have hil2 : i < listed.size := by rw [hi.size]; exact hio
  have hunf : listed.getD i false = false := getD_both hun
  have hcount : (listed.setIfInBounds i true).toList.countP (fun b => !b) ≤ fuel := by
   rw [Array.toList_setIfInBounds, List.countP_set (by simpa using hil2)]
   have hf : listed.toList[i]'(by simpa using hil2) = false := by simp [hil2] at hun; simpa using hun
   have hpos : 0 < listed.toList.countP (fun b => !b) := List.countP_pos_iff.2 ⟨listed[i], by simp, by simp [hil2] at hun; simp [hun]⟩
   rw [hf]
   simp only [Bool.not_false, Bool.not_true, if_true, Bool.false_eq_true, if_false]
   omega
  by_cases hil : i < gl.length
  case neg =>
   obtain ⟨e1, e2, e3, e4⟩ := hL.resolve_left (by omega)
   obtain rfl : i = gl.length := by
    rcases Nat.lt_or_ge gl.length i with h | h
    ·have := rch_listed hi.closed (e3 i h hio) (.inr hir)
     rw [hi.last gl.length (Nat.le_refl _)] at this
     cases this
    ·omega
   have hall2 : ∀ j, j < gl.length → listed.getD j false = true := fun j hj => rch_listed hi.closed (e2 j hj) (.inr hir)
   refine wpOpIn_mono (fun a' w' hq => ?_) (fin hi hall2)
   have hset : listed.setIfInBounds gl.length true = preA ops.size (gl.length + 1) := by
    refine Array.ext (by simp [preA, hi.size]) fun j h1 h2 => ?_
    have hj : j < ops.size := by simpa [preA] using h2
    have h3 : (listed.setIfInBounds gl.length true).getD j false = decide (j < gl.length + 1) := by
     by_cases e : gl.length = j
     ·subst e; simp [hil2]
     ·rw [getD_set_ne false e]
      rcases Nat.lt_or_ge j gl.length with h | h
      ·rw [hall2 j h]; symm; simp; omega
      ·rw [hi.last j (by omega)]; symm; simp; omega
    simp only [preA, List.getElem_toArray, List.getElem_map, List.getElem_range]
    rw [← h3, Array.getD, dif_pos h1]
    rfl
   rw [hset]
   refine any_of_seq (ops.toList.drop (gl.length + 1)) (gl.length + 1) fuel _ a' w' ?_ (fun j => by simp [List.getElem?_drop]) ?_ hq
   ·rw [hset] at hcount
    refine Nat.le_trans ?_ hcount
    have h5 : ((preA ops.size (gl.length + 1)).toList.drop (gl.length + 1)).countP (fun b => !b) ≤ (preA ops.size (gl.length + 1)).toList.countP (fun b => !b) := (List.drop_sublist _ _).countP_le
    refine Nat.le_trans ?_ h5
    rw [List.countP_eq_length.2]
    ·simp [preA]
    ·intro b hb
     obtain ⟨k, hk⟩ := List.getElem?_of_mem hb
     rw [List.getElem?_drop] at hk
     simp only [preA, List.getElem?_map, Option.map_eq_some_iff] at hk
     obtain ⟨x, hx, rfl⟩ := hk
     have := (List.getElem?_eq_some_iff.1 hx)
     obtain ⟨g1, g2⟩ := this
     simp at g2
     subst g2
     simp
   ·rw [List.length_drop, Array.length_toList]; exact e4
  obtain ⟨o', go, ho', hgo, hcg⟩ := ht.at_ hil
  rw [ho] at ho'
  cases ho'
  unfold wpOpIn
  simp only [ho]
  have hstN : ∀ {E' : Env} {m' : Nat}, (∀ id, id < (tr 0).h.length → E'.K id → E.K id) → (∀ id, id < (tr 0).h.length → ¬ E.K id → (tr m').h[id]? = (tr m).h[id]?) → ∀ (j d id : Nat) (z : MV), hz j = some (d, id, z) → listed.getD j false = false → j ≠ i → ¬ E'.K id ∧ (tr m').h[id]? = some ⟨0, false, z.cells.length, [z]⟩ := fun hK hH j d id z hh hl _ => by
   obtain ⟨b1, b2⟩ := hi.hst j d id z hh hl
   have hlt : id < (tr 0).h.length := (List.getElem?_eq_some_iff.1 (ht.hd0 j d id z hh).2.2).1
   exact ⟨fun hk => b1 (hK id hlt hk), by rw [hH id hlt b1]; exact b2⟩
  have effK1 : go.op.isP = true → ∀ (j : Nat) gj, gl[j]? = some gj → gj.op.isP = false → (listed.getD j false = true ∨ j = i) → j < m := fun hp j gj hgj hpj h => by
   have hne : j ≠ i := fun e => by subst e; rw [hgo] at hgj; cases hgj; rw [hp] at hpj; cases hpj
   exact hi.eff1 j gj hgj hpj (h.resolve_right hne)
  have effK2 : ∀ (j : Nat) gj, gl[j]? = some gj → gj.op.isP = false → j < m → (listed.getD j false = true ∨ j = i) ∨ (mkAt ops j = true ∧ ∀ id, (tr j).h.length ≤ id → id < (tr (j + 1)).h.length → ¬ E.K id ∧ (tr m).h[id]? = (tr (j + 1)).h[id]?) := fun j gj hgj hpj h =>
   (hi.eff2 j gj hgj hpj h).imp (fun h => .inl h) fun h => h
  rcases hcg with ⟨hni, hcg⟩ | ⟨d, id, z, hh, hal2, hcg, hgo2⟩
  case inr =>
   obtain ⟨q1, q2, q3⟩ := ht.hd0 i d id z hh
   rw [hgo] at q1
   cases q1
   have hdst : (some d : Option Nat) = o.dst := compG_dst hcg
   have hwant : Region.wanted o (yielded ops a.tmps) = true := wantM_wanted (E := E) (w := w) (s := List.replicate a.tmps.size .junk) hcg ⟨by simp, fun t mv u hm hu => by
    have := List.mem_replicate.1 (List.mem_of_getElem? hm)
    rw [this.2]; exact .junk _⟩ (t := true) rfl
   rw [hwant]
   simp only [if_true]
   obtain ⟨b1, b2⟩ := hi.hst i d id z hh hunf
   have hvi : vi i = .ptr id 0 0 0 := by
    rcases ht.val i _ hgo with ⟨_, hev⟩ | ⟨hw, _⟩
    ·have hs0 : (tr i).s.getD d (.lit undef) = .ptr id 0 0 0 := by
      have htl : d < (tr 0).s.length := (List.getElem?_eq_some_iff.1 q2).1
      rcases ht.slot hd htl i (by omega) with ⟨j, gj, c1, c2, c3, c4⟩ | ⟨c1, c2⟩
      ·have := hd.ssa j i gj _ d c2 hgo c3 rfl
       omega
      ·rw [List.getD_eq_getElem?_getD, c2, q2]; rfl
     simp only [evO, MX.get, hs0, Option.some.injEq, Prod.mk.injEq] at hev
     exact hev.1.symm
    ·simp [wantM] at hw
   refine late_new (lk := lk) hal2 hcg hi.rel b1 (hi.top i d id z hh) b2 fun u w' E' k1 k2 k3 k4 => ?_
   have hlt : id < (tr 0).h.length := (List.getElem?_eq_some_iff.1 q3).1
   refine ih _ _ _ E' m (hi.step hd hir ho hgo hdst k3 (by rw [hvi]; exact k1) k2 hi.mle (effK1 rfl) (fun j gj hgj hpj hj => (effK2 j gj hgj hpj hj).imp_right fun h => ⟨h.1, fun id' a1 a2 => ⟨fun hk => ?_, (h.2 id' a1 a2).2⟩⟩) fun j d' id' z' hh' hl hne => ?_) hcount
   ·rcases k4 id' hk with h4 | h4
    ·exact (h.2 id' a1 a2).1 h4
    ·have := ht.lenLe hA (i := 0) (j := j) (by omega) (by have := hi.mle; omega)
     omega
   ·obtain ⟨c1, c2⟩ := hi.hst j d' id' z' hh' hl
    refine ⟨fun hk => ?_, c2⟩
    rcases k4 id' hk with h4 | h4
    ·exact c1 h4
    ·exact ht.hinj i j d d' id id' z z' hh hh' (fun e => hne e.symm) h4.symm
  have hs := hi.slots ht hd hir hgo hni
  have hlook : ∀ t ∈ go.looks, (tr i).s.getD t (.lit undef) = (onlyS (tr i).s go.looks).getD t (.lit undef) := fun t h => onlyS_get h
  have hwc : wantM (tr i).s go.guard = wantM (onlyS (tr i).s go.looks) go.guard := wantM_congr fun t h => hlook t (List.mem_append_right _ h)
  have hec : ∀ h, evO lk O (tr i).s h go.op = evO lk O (onlyS (tr i).s go.looks) h go.op := fun h => evO_congr (xslots_get fun t h => hlook t (List.mem_append_left _ h))
  have hdst := hcg.dst
  have effN : go.op.isP = false → m ≤ i → ∀ (j : Nat) gj, m ≤ j → j < i → gl[j]? = some gj → gj.op.isP = true ∨ mkAt ops j = true := fun hp hmi j gj hj1 hj2 hgj => by
   cases hpj : gj.op.isP
   ·cases hkj : mkAt ops j
    ·have := rch_listed hi.closed (hd.effects i j go gj hj2 hgo hgj hp hpj hkj) (.inr hir)
     have := hi.eff1 j gj hgj hpj this
     omega
    ·exact .inr rfl
   ·exact .inl rfl
  have effL1 : m ≤ i → ∀ (j : Nat) gj, gl[j]? = some gj → gj.op.isP = false → (listed.getD j false = true ∨ j = i) → j < i + 1 := fun hmi j gj hgj hpj h => by
   rcases h with h | rfl
   ·have := hi.eff1 j gj hgj hpj h; omega
   ·omega
  have effL2 : go.op.isP = false → m ≤ i → ∀ {E' : Env}, (∀ id, E'.K id → E.K id ∨ (tr i).h.length ≤ id) → (∀ id, id < (tr i).h.length → ¬ E.K id → (tr (i + 1)).h[id]? = (tr i).h[id]?) →
    ∀ (j : Nat) gj, gl[j]? = some gj → gj.op.isP = false → j < i + 1 → (listed.getD j false = true ∨ j = i) ∨ (mkAt ops j = true ∧ ∀ id, (tr j).h.length ≤ id → id < (tr (j + 1)).h.length → ¬ E'.K id ∧ (tr (i + 1)).h[id]? = (tr (j + 1)).h[id]?) := fun hp hmi E' hK hkeep j gj hgj hpj hj => by
   by_cases e : j = i
   ·exact .inl (.inr e)
   ·have hji : j < i := by omega
    have hlen := ht.lenLe hA (i := j + 1) (j := i) (by omega) (by omega)
    have nk : ∀ id, id < (tr (j + 1)).h.length → ¬ E.K id → ¬ E'.K id := fun id h1 h2 h3 => by
     rcases hK id h3 with h | h
     ·exact h2 h
     ·omega
    by_cases e2 : j < m
    ·rcases hi.eff2 j gj hgj hpj e2 with h | ⟨h1, h2⟩
     ·exact .inl (.inl h)
     ·refine .inr ⟨h1, fun id a1 a2 => ?_⟩
      obtain ⟨b1, b2⟩ := h2 id a1 a2
      refine ⟨nk id a2 b1, ?_⟩
      rw [hkeep id (by omega) b1, ← b2]
      obtain ⟨t, et⟩ := ht.preK (i := m) (i - m) (by omega) fun j gj a1 a2 a3 => effN hp hmi j gj a1 (by omega) a3
      rw [show m + (i - m) = i by omega] at et
      rw [et]
      exact List.getElem?_append_left (Nat.lt_of_lt_of_le a2 (ht.lenLe hA (by omega) hi.mle))
    ·cases hl : listed.getD j false
     ·refine .inr ⟨(effN hp hmi j gj (by omega) hji hgj).resolve_left (by rw [hpj]; simp), fun id a1 a2 => ?_⟩
      have hnk : ¬ E.K id := fun hk => by
       have := hi.rel.klt id hk
       have := ht.lenLe hA (i := m) (j := j) (by omega) (by omega)
       omega
      refine ⟨nk id a2 hnk, ?_⟩
      rw [hkeep id (by omega) hnk]
      obtain ⟨t, et⟩ := ht.preK (i := j + 1) (i - (j + 1)) (by omega) fun j' gj a1 a2 a3 => effN hp hmi j' gj (by omega) (by omega) a3
      rw [show j + 1 + (i - (j + 1)) = i by omega] at et
      rw [et]
      exact List.getElem?_append_left a2
     ·exact .inl (.inl rfl)
  have hstL : go.op.isP = false → m ≤ i → ∀ {E' : Env}, (∀ id, E'.K id → E.K id ∨ (tr i).h.length ≤ id) → (∀ id, id < (tr i).h.length → ¬ E.K id → (tr (i + 1)).h[id]? = (tr i).h[id]?) → ∀ (j d id : Nat) (z : MV), hz j = some (d, id, z) → listed.getD j false = false → j ≠ i → ¬ E'.K id ∧ (tr (i + 1)).h[id]? = some ⟨0, false, z.cells.length, [z]⟩ := fun hp hmi E' hK hkeep => by
   have hl0 := ht.lenLe hA (i := 0) (j := i) (by omega) (by omega)
   have hlm := ht.lenLe hA (i := 0) (j := m) (by omega) hi.mle
   refine hstN (fun id hlt hk => (hK id hk).resolve_right (by omega)) fun id hlt hnk => ?_
   rw [hkeep id (by omega) hnk]
   obtain ⟨t, et⟩ := ht.preK (i := m) (i - m) (by omega) fun j gj a1 a2 a3 => effN hp hmi j gj a1 (by omega) a3
   rw [show m + (i - m) = i by omega] at et
   rw [et]
   exact List.getElem?_append_left (by omega)
  have hstE : ∀ (j d id : Nat) (z : MV), hz j = some (d, id, z) → listed.getD j false = false → j ≠ i → ¬ E.K id ∧ (tr m).h[id]? = some ⟨0, false, z.cells.length, [z]⟩ := hstN (fun _ _ h => h) fun _ _ _ => rfl
  have relN : go.op.isP = false → m ≤ i → HRel E (tr i).h w := fun hp hmi => by
   obtain ⟨t, et⟩ := ht.preK (i := m) (i - m) (by omega) fun j gj a1 a2 a3 => effN hp hmi j gj a1 (by omega) a3
   rw [show m + (i - m) = i by omega] at et
   rw [et]
   exact hi.rel.more t
  have htopi : E.top ≤ (tr i).h.length := Nat.le_trans hi.top0 (ht.lenLe hA (Nat.zero_le _) (by omega))
  rcases ht.val i go hgo with ⟨hw, hev⟩ | ⟨hw, hvi, hhh⟩
  ·rw [hwc] at hw
   rw [hcg.wanted hs hw]
   simp only [if_true]
   rw [hec] at hev
   rcases hcg with hcg | ⟨go0, z, n0, len, ps, hcg, hbs, hop0, hgo0⟩
   case inr =>
    have hgop : go.op = .vsl z n0 len ps := by rw [hgo0]
    have hp : go.op.isP = true := by rw [hgop]; rfl
    rw [hgop] at hev
    have hco : compO P o = some (.bsl z n0 len ps) := by
     have h1 := compG_op hcg
     rw [hop0] at h1
     cases hco : compO P o with
     | none => rw [hco] at h1; simp at h1
     | some mo => rw [hco] at h1; simp only [Option.getD_some] at h1; rw [h1]
    refine quiet_ok hco hbs hs hi.rel hev fun u w' E' k1 k2 k3 k4 => ?_
    exact ih _ _ _ E' m (hi.step hd hir ho hgo hdst k3 k1 k2 hi.mle (effK1 hp) (fun j gj hgj hpj hj => (effK2 j gj hgj hpj hj).imp_right fun h => ⟨h.1, fun id a1 a2 => ⟨fun hk => (h.2 id a1 a2).1 (k4 id hk), (h.2 id a1 a2).2⟩⟩) (hstN (fun id _ hk => k4 id hk) fun _ _ _ => rfl)) hcount
   have hop := compG_op hcg
   cases hco : compO P o with
   | none => rw [hco] at hop; rw [hop] at hev; simp [evO] at hev
   | some mo =>
    rw [hco] at hop
    simp only [Option.getD_some] at hop
    cases hp : go.op.isP
    ·rw [hop] at hev
     by_cases hmi : m ≤ i
     ·have hrel : HRel { E with top := (tr i).h.length } (tr i).h w := (relN hp hmi).topE (Nat.le_refl _)
      have hs' : Slots { E with top := (tr i).h.length } w (onlyS (tr i).s go.looks) a := ⟨hs.1, fun t m v h1 h2 => (hs.2 t m v h1 h2).env (EnvLe.topE _ _)⟩
      have hkp : ∀ id, id < (tr i).h.length → ¬ E.K id → (tr (i + 1)).h[id]? = (tr i).h[id]? := fun id h1 h2 => by
       refine evO_keep (E := E) hA hs (fun x hx c e => ?_) hev h1 h2
       have := hd.consts i go hgo x (by rw [hop]; exact hx)
       rw [e] at this
       exact this
      refine (evO_ok hO hco hs' hrel hev).1 r n _ Q fun u w' E' k1 k2 k3 => ?_
      exact ih _ _ _ { E' with top := E.top } (i + 1) (hi.step hd hir ho hgo hdst (k3.topE htopi) (k1.env (EnvLe.topE _ _)) (k2.topE (Nat.le_trans htopi (ht.lenStep hA hil))) (by omega) (effL1 hmi) (effL2 hp hmi (fun id hk => k3.srcK id hk) hkp) (hstL hp hmi (fun id hk => k3.srcK id hk) hkp)) hcount
     ·have hlt : i < m := by omega
      rcases hi.eff2 i go hgo hp hlt with h | ⟨hk, hpend⟩
      ·rw [hunf] at h; cases h
      ·have hk' : isMk o.op = true := by unfold mkAt at hk; rw [ho] at hk; exact hk
       obtain ⟨ob, eob⟩ := mks_app hk' hco hev
       have hl1 : (tr (i + 1)).h.length = (tr i).h.length + 1 := by rw [eob]; simp
       have hl0 := ht.lenLe hA (i := 0) (j := i) (by omega) (by omega)
       obtain ⟨b1, b2⟩ := hpend (tr i).h.length (Nat.le_refl _) (by omega)
       refine late_ok hco hk' hs hi.rel hev b1 htopi b2 fun u w' E' k1 k2 k3 k4 => ?_
       refine ih _ _ _ E' m (hi.step hd hir ho hgo hdst k3 k1 k2 hi.mle (fun j gj hgj hpj h => ?_) (fun j gj hgj hpj hj => ?_) (hstN (fun id hlt hk => (k4 id hk).resolve_right (by omega)) fun _ _ _ => rfl)) hcount
       ·rcases h with h | rfl
        ·exact hi.eff1 j gj hgj hpj h
        ·exact hlt
       ·rcases hi.eff2 j gj hgj hpj hj with h | ⟨h1, h2⟩
        ·exact .inl (.inl h)
        ·by_cases e : j = i
         ·exact .inl (.inr e)
         ·refine .inr ⟨h1, fun id a1 a2 => ⟨fun hk2 => ?_, (h2 id a1 a2).2⟩⟩
          rcases k4 id hk2 with h | h
          ·exact (h2 id a1 a2).1 h
          ·rcases Nat.lt_or_gt_of_ne e with hji | hji
           ·have := ht.lenLe hA (i := j + 1) (j := i) (by omega) (by omega); omega
           ·have := ht.lenLe hA (i := i + 1) (j := j) (by omega) (by have := hi.mle; omega); omega
    ·have hpure : Pure P o a w E (vi i) := by
      have hpm : mo.isP = true := by rw [← hop]; exact hp
      have hml := hi.mle
      have isP_of_M : ∀ {g : GO}, g.op.isM = true → g.op.isP = false := fun {g} hmj => by cases h : g.op <;> simp [h, MO.isM] at hmj <;> simp [MO.isP]
      cases hrd : go.op.isR
      ·have h2 := (evO_any (h2 := (tr m).h) hp hrd hev).2
       rw [hop] at h2
       exact ((evO_ok hO hco hs hi.rel h2).2 hpm).2
      ·-- what alters memory between the two places
       have btwU : ∀ (j : Nat) gj, i ≤ j → j < m → gl[j]? = some gj → gj.op.isM = true → (∃ t, (tr (j + 1)).h = (tr j).h ++ t) ∨ (oldR gl go = true ∧ newM gl j gj = true) ∨ ali i j := fun j gj a1 a2 a3 hmj => by
        have hpj := isP_of_M hmj
        have hne : i ≠ j := fun e => by subst e; rw [hgo] at a3; cases a3; rw [hp] at hpj; cases hpj
        rcases hi.eff2 j gj a3 hpj a2 with hlj | ⟨hkj, -⟩
        ·rcases hd.mr j i gj go (by omega) a3 hgo hrd hmj with h | h
         ·have := rch_listed hi.closed h (.inl hlj)
          rw [hunf] at this; cases this
         ·exact .inr h
        ·exact .inl (ht.heapK (by omega) hkj)
       have btwD : ∀ (j : Nat) gj, m ≤ j → j < i → gl[j]? = some gj → gj.op.isM = true → (oldR gl go = true ∧ newM gl j gj = true) ∨ ali i j := fun j gj a1 a2 a3 hmj => by
        have hpj := isP_of_M hmj
        rcases hd.rm i j go gj a2 hgo a3 hrd hmj with h | h
        ·have hlj := rch_listed hi.closed h (.inr hir)
         have := hi.eff1 j gj a3 hpj hlj
         omega
        ·exact h
       have hidl : ∀ x ∈ go.op.xs, ∀ id, (MX.get (onlyS (tr i).s go.looks) x).id? = some id → id < (tr m).h.length := fun x hx id hid => by
        cases x with
        | s t => exact (hs.tmp t).idlt hi.rel hid
        | c v =>
         have hc := hd.consts i go hgo _ hx
         simp only [MX.cok, MX.get] at hc hid
         rw [hid] at hc
         cases hc
       by_cases hsq : ∃ ag q, go.op = .ld ag (.s q)
       ·obtain ⟨ag, q, hoq⟩ := hsq
        have hop2 := hop
        rw [hoq] at hev
        have hq2 : (onlyS (tr i).s go.looks).getD q (.lit undef) = (tr i).s.getD q (.lit undef) := (hlook q (by simp [GO.looks, hoq, MO.xs, xslots])).symm
        have keep1 : ∀ id, ((tr i).s.getD q (.lit undef)).id? = some id → ∀ (j : Nat) gj, id < (tr j).h.length → gl[j]? = some gj → ((∃ t, (tr (j + 1)).h = (tr j).h ++ t) ∨ (oldR gl go = true ∧ newM gl j gj = true) ∨ ali i j) → (tr (j + 1)).h[id]? = (tr j).h[id]? := fun id hid j gj hidj hgj hcase => by
         rcases hcase with ⟨t, e⟩ | ⟨hold, h⟩ | h
         ·rw [e, List.getElem?_append_left hidj]
         ·unfold oldR at hold
          rw [hoq] at hold
          exact newM_old ht hA hd hgj h (oldSl_id ht hd h0 hold (Nat.le_of_lt hil) hid)
         ·rcases hal i j go gj h hgo hgj with ⟨h1, _⟩ | ⟨ag', q', sz, p, x, e1, e2, e4⟩ | ⟨_, sz, p, x, e2, e4⟩
          ·rw [hoq] at h1; cases h1
          ·rw [hoq] at e1; cases e1
           rcases ht.val j gj hgj with ⟨_, hv⟩ | ⟨_, _, hv⟩
           ·exact (st_shp (by rw [e2]; rfl) hv).2 sz p x e2 id fun hp2 => e4 id hid hp2
           ·rw [hv]
          ·rcases ht.val j gj hgj with ⟨_, hv⟩ | ⟨_, _, hv⟩
           ·rw [e2] at hv
            exact app_keep hv hidj fun hp2 => e4 (.s q) (by rw [hoq]; simp [MO.xs]) id hid hp2
           ·rw [hv]
        have hag : ∀ id, ((tr i).s.getD q (.lit undef)).id? = some id → (tr m).h[id]? = (tr i).h[id]? := fun id hid => by
         by_cases hle : i ≤ m
         ·have hidi : id < (tr i).h.length := by
           simp only [evO, MX.get] at hev
           rw [hq2] at hev
           split at hev
           ·rename_i e; rw [e] at hid; cases hid
           ·rename_i id' _ _ _ e
            rw [e] at hid
            simp only [MV.id?, Option.some.injEq] at hid
            subst hid
            split at hev
            ·rename_i o ho2; exact (List.getElem?_eq_some_iff.1 ho2).1
            ·cases hev
           ·cases hev
          have := ht.sameId (i := i) (id := id) (m - i) (by omega) fun j gj a1 a2 a3 => by
           refine keep1 id hid j gj (Nat.lt_of_lt_of_le hidi (ht.lenLe hA a1 (by omega))) a3 ?_
           cases hmj : gj.op.isM
           ·exact .inl (ht.heapM hA a3 hmj)
           ·exact btwU j gj a1 (by omega) a3 hmj
          rwa [show i + (m - i) = m by omega] at this
         ·have hidm : id < (tr m).h.length := hidl (.s q) (by rw [hoq]; simp [MO.xs]) id (by simp only [MX.get]; rw [hq2]; exact hid)
          have := ht.sameId (i := m) (id := id) (i - m) (by omega) fun j gj a1 a2 a3 => by
           refine keep1 id hid j gj (Nat.lt_of_lt_of_le hidm (ht.lenLe hA a1 (by omega))) a3 ?_
           cases hmj : gj.op.isM
           ·exact .inl (ht.heapM hA a3 hmj)
           ·exact .inr (btwD j gj a1 (by omega) a3 hmj)
          rw [show m + (i - m) = i by omega] at this
          exact this.symm
        have h2 := ld_agree (h2 := (tr m).h) (fun id hid => hag id (by rw [← hq2]; exact hid)) hev
        rw [← hoq, hop] at h2
        exact ((evO_ok hO hco hs hi.rel h2).2 hpm).2
       ·have hold : ¬ oldR gl go = true := fun h => by
         unfold oldR at h
         split at h
         ·rename_i ag q e; exact hsq ⟨ag, q, e⟩
         ·cases h
        have noali : ∀ (j : Nat) gj, gl[j]? = some gj → ali i j → isLd go.op = false ∧ (isSt gj.op = true ∨ ∃ sz p x, gj.op = .app sz (.s p) x ∧ ∀ y ∈ go.op.xs, ∀ id, (MX.get (tr i).s y).id? = some id → ((tr j).s.getD p (.lit undef)).id? = some id → False) := fun j gj hgj h => by
         rcases hal i j go gj h hgo hgj with h | ⟨ag', q', sz, p, x, e1, e2, e4⟩ | ⟨h, e⟩
         ·exact ⟨h.1, .inl h.2⟩
         ·exact absurd ⟨_, _, e1⟩ hsq
         ·exact ⟨h.resolve_right hsq, .inr e⟩
        cases hld : isLd go.op
        ·have hshp : ∀ x ∈ go.op.xs, ∀ id, (MX.get (onlyS (tr i).s go.looks) x).id? = some id → ∀ o, (tr i).h[id]? = some o → ∃ o', (tr m).h[id]? = some o' ∧ o'.g = o.g ∧ o'.nl = o.nl ∧ o'.sz = o.sz ∧ o'.es.length = o.es.length := fun x hx id hid o ho2 => by
          have hid2 : (MX.get (tr i).s x).id? = some id := by
           cases x with
           | s t => simp only [MX.get] at hid ⊢; rw [hlook t (List.mem_append_left _ (mem_xslots hx))]; exact hid
           | c v => exact hid
          have stepN : ∀ (j : Nat) gj, gl[j]? = some gj → ali i j → ShpAt (tr j).h (tr (j + 1)).h id := fun j gj a3 h => by
           rcases (noali j gj a3 h).2 with h | ⟨sz, p, y, e1, e2⟩
           ·exact ht.stAt a3 h id
           ·exact ht.apAt a3 e1 fun hp2 => e2 x hx id hid2 hp2
          by_cases hle : i ≤ m
          ·have := ht.preAt (i := i) (id := id) (m - i) (by omega) fun j gj a1 a2 a3 => by
            cases hmj : gj.op.isM
            ·exact .app (ht.heapM hA a3 hmj)
            ·rcases btwU j gj a1 (by omega) a3 hmj with h | h | h
             ·exact .app h
             ·exact absurd h.1 hold
             ·exact stepN j gj a3 h
           rw [show i + (m - i) = m by omega] at this
           exact this o ho2
          ·have := ht.preAt (i := m) (id := id) (i - m) (by omega) fun j gj a1 a2 a3 => by
            cases hmj : gj.op.isM
            ·exact .app (ht.heapM hA a3 hmj)
            ·rcases btwD j gj a1 (by omega) a3 hmj with h | h
             ·exact absurd h.1 hold
             ·exact stepN j gj a3 h
           rw [show m + (i - m) = i by omega] at this
           have hl := hidl x hx id hid
           obtain ⟨o', c1, c2, c3, c4, c5⟩ := this _ (List.getElem?_eq_getElem hl)
           rw [ho2] at c1; cases c1
           exact ⟨_, List.getElem?_eq_getElem hl, c2.symm, c3.symm, c4.symm, c5.symm⟩
         have h2 := evO_shp hrd hld hshp hev
         rw [hop] at h2
         exact ((evO_ok hO hco hs hi.rel h2).2 hpm).2
        ·by_cases hle : i ≤ m
         ·obtain ⟨t, et⟩ := ht.preX (i := i) (m - i) (by omega) fun j gj a1 a2 a3 => by
           cases hmj : gj.op.isM
           ·exact ht.heapM hA a3 hmj
           ·rcases btwU j gj a1 (by omega) a3 hmj with h | h | h
            ·exact h
            ·exact absurd h.1 hold
            ·have := (noali j gj a3 h).1
             rw [hld] at this; cases this
          rw [show i + (m - i) = m by omega] at et
          have h2 := (evO_mono (t := t) hp hev).2
          rw [← et, hop] at h2
          exact ((evO_ok hO hco hs hi.rel h2).2 hpm).2
         ·obtain ⟨t, et⟩ := ht.preX (i := m) (i - m) (by omega) fun j gj a1 a2 a3 => by
           cases hmj : gj.op.isM
           ·exact ht.heapM hA a3 hmj
           ·rcases btwD j gj a1 (by omega) a3 hmj with h | h
            ·exact absurd h.1 hold
            ·have := (noali j gj a3 h).1
             rw [hld] at this; cases this
          rw [show m + (i - m) = i by omega] at et
          rw [et] at hev
          have h2 := evO_shrink hrd hidl hev
          rw [hop] at h2
          exact ((evO_ok hO hco hs hi.rel h2).2 hpm).2
     obtain ⟨u, hu1, hu2⟩ := hpure
     have hnd : ∀ c, o.op ≠ .defer c := fun c e => by simp [compO, e] at hco
     exact wpIn_val hnd hu1 (ih _ _ _ E m (hi.step hd hir ho hgo hdst (Ext.refl _ _ _) hu2 hi.rel hi.mle (effK1 hp) effK2 hstE) hcount)
  ·rw [hwc] at hw
   rw [hcg.wanted hs hw]
   simp only [Bool.false_eq_true, if_false]
   refine ⟨about_wide o a w, ?_⟩
   have hV : V E w (vi i) undef := by rw [hvi]; exact .lit _
   cases hp : go.op.isP
   ·by_cases hmi : m ≤ i
    ·exact ih _ _ _ E (i + 1) (hi.step hd hir ho hgo hdst (Ext.refl _ _ _) hV (by rw [hhh]; exact relN hp hmi) (by omega) (effL1 hmi) (effL2 hp hmi (fun id hk => .inl hk) fun id h1 h2 => by rw [hhh]) (hstL hp hmi (fun id hk => .inl hk) fun id h1 h2 => by rw [hhh])) hcount
    ·refine ih _ _ _ E m (hi.step hd hir ho hgo hdst (Ext.refl _ _ _) hV hi.rel hi.mle (fun j gj hgj hpj h => ?_) effK2 hstE) hcount
     rcases h with h | rfl
     ·exact hi.eff1 j gj hgj hpj h
     ·omega
   ·exact ih _ _ _ E m (hi.step hd hir ho hgo hdst (Ext.refl _ _ _) hV hi.rel hi.mle (effK1 hp) effK2 hstE) hcount
theorem draw_core (hm : P.follows .mixedOrders = true) (hO : SoundO P O) (hA : AppO O) {id : Nat} (hlen : gl.length ≤ ops.size) (hL : gl.length = ops.size ∨ (gl.length < ops.size ∧ (∀ j, j < gl.length → rch ops ops.size gl.length j = true) ∧ (∀ i, gl.length < i → i < ops.size → rch ops ops.size i gl.length = true) ∧ Region.seqB .any ops (ops.size - (gl.length + 1)) (gl.length + 1) (preA ops.size (gl.length + 1)) = true))
  (hcomp : ∀ (i : Nat) o go, ops[i]? = some o → gl[i]? = some go → (hz i = none ∧ CompV P ops o go) ∨ ∃ d id z, hz i = some (d, id, z) ∧ Ahead P ops o go d z) (hd : DrawOk ops gl ali hz) {st st0 st' : MSt} (he : evR lk O gl st0 = some st')
  (hsl : st0.s.length = st.s.length) (hsh : ∃ t, st0.h = st.h ++ t) (hsame : ∀ t, (∀ j d id z, hz j = some (d, id, z) → d ≠ t) → st0.s[t]? = st.s[t]?)
  (hd0 : ∀ (j d id : Nat) (z : MV), hz j = some (d, id, z) → gl[j]? = some ⟨none, some d, .nilck (.s d)⟩ ∧ st0.s[d]? = some (.ptr id 0 0 0) ∧ st0.h[id]? = some ⟨0, false, z.cells.length, [z]⟩ ∧ st.h.length ≤ id)
  (hinj : ∀ (i j d d' id id' : Nat) (z z' : MV), hz i = some (d, id, z) → hz j = some (d', id', z') → i ≠ j → id ≠ id')
  (hal : ∀ tr vi, TextRun lk P O ops gl tr vi hz → tr gl.length = st' → ∀ (i j : Nat) gi gj, ali i j → gl[i]? = some gi → gl[j]? = some gj → (isLd gi.op = false ∧ isSt gj.op = true) ∨ (∃ ag q sz p x, gi.op = .ld ag (.s q) ∧ gj.op = .st sz (.s p) x ∧ ∀ id, ((tr i).s.getD q (.lit undef)).id? = some id → ((tr j).s.getD p (.lit undef)).id? = some id → False) ∨
   ((isLd gi.op = false ∨ ∃ ag q, gi.op = .ld ag (.s q)) ∧ ∃ sz p x, gj.op = .app sz (.s p) x ∧ ∀ y ∈ gi.op.xs, ∀ id, (MX.get (tr i).s y).id? = some id → ((tr j).s.getD p (.lit undef)).id? = some id → False))
  {a : Act} {w : World} {E : Env} (hs : Slots E w st.s a) (hr : HRel E st.h w)
  {r : Option Nat} {n : Nat} {Q : Exit → Act → World → Prop} (hQ : ∀ a' w' E', Slots E' w' st'.s a' → HRel E' st'.h w' → Ext lk E w E' w' → a'.defers = a.defers → wpOpIn (Fw r) n P ops Q gl.length (wpListIn (Fw r) n P ops Q (ops.toList.drop (gl.length + 1))) a' w') : (Code.region id ops true).wpIn (Fw r) n P Q a w := by
 obtain ⟨tr, t0, tn, ts⟩ := evR_trace he
 have hv : ∀ i, ∃ v, ∀ go, gl[i]? = some go → (tr (i + 1)).s = putM (tr i).s go.dst v ∧ ((wantM (tr i).s go.guard = some true ∧ evO lk O (tr i).s (tr i).h go.op = some (v, (tr (i + 1)).h)) ∨ (wantM (tr i).s go.guard = some false ∧ v = .lit undef ∧ (tr (i + 1)).h = (tr i).h)) := fun i => by
  cases hgi : gl[i]? with
  | none => exact ⟨.junk, fun go h => by cases h⟩
  | some go =>
   obtain ⟨v, h1, h2⟩ := evG_put (ts i go hgi)
   exact ⟨v, fun go' h => by cases h; exact ⟨h1, h2⟩⟩
 have ht : TextRun lk P O ops gl tr (fun i => Classical.choose (hv i)) hz :=
  ⟨hlen, hcomp, fun i go h => (Classical.choose_spec (hv i) go h).1, fun i go h => (Classical.choose_spec (hv i) go h).2, fun j d id z hh => by rw [t0]; exact ⟨(hd0 j d id z hh).1, (hd0 j d id z hh).2.1, (hd0 j d id z hh).2.2.1⟩, hinj⟩
 refine wpIn_region_any hm ?_
 obtain ⟨tl, htl⟩ := hsh
 rw [← tn] at hQ
 have hx : Ext lk E w E { w with drawn := w.drawn + 1 } := ⟨rfl, rfl, rfl, Nat.le_refl _, fun _ _ _ => rfl, fun _ h => h, fun _ h => h, fun _ _ => ⟨Nat.le_refl _, fun _ => ⟨rfl, rfl, rfl, rfl, rfl, rfl⟩⟩, fun _ _ _ => rfl, fun _ hd hc => .inl ⟨hd, hc, rfl⟩, rfl, fun _ h => .inl h, rfl, fun _ h => .inl h⟩
 have hrel : HRel E (tr 0).h { w with drawn := w.drawn + 1 } := by
  rw [t0, htl]
  refine HRel.more ?_ tl
  exact ⟨hr.klt, hr.top, fun id hk => by
   obtain ⟨es, a1, a2, a3, a4, a5⟩ := hr.obj id hk
   refine ⟨es, a1, a2, a3, a4, fun hc => ?_⟩
   obtain ⟨arr, t, b1, b2, b3⟩ := a5 hc
   exact ⟨arr, t, b1, b2, fun k c hk => by obtain ⟨v, c1, c2⟩ := b3 k c hk; exact ⟨v, c1, c2.ext hr hx⟩⟩, hr.inj, hr.sep, hr.slt, fun p hp => (hr.tab p hp).ext hr hx⟩
 have hinv : AnyInv lk ops gl tr (fun i => Classical.choose (hv i)) hz (Array.replicate ops.size false) a E w a { w with drawn := w.drawn + 1 } E 0 := by
  refine ⟨by simp, fun j oj _ hl => (by rw [getD_replicate_false] at hl; cases hl), Nat.zero_le _, fun j go _ _ h => (by rw [getD_replicate_false] at h; cases h), fun j go _ _ h => absurd h (Nat.not_lt_zero _), fun j d id z hh => Nat.le_trans hr.top (hd0 j d id z hh).2.2.2, by rw [t0, htl, List.length_append]; exact Nat.le_trans hr.top (Nat.le_add_right _ _), fun j d id z hh _ => ⟨fun hk => ?_, by rw [t0]; exact (hd0 j d id z hh).2.2.1⟩, fun j _ => getD_replicate_false _ _, hrel, hx, rfl, by rw [t0, hsl]; exact hs.1.symm, fun j go d u hl => (by rw [getD_replicate_false] at hl; cases hl), fun t mv u _ h2 h1 h3 => ?_⟩
  ·have := hr.klt id hk
   have := (hd0 j d id z hh).2.2.2
   omega
  ·rw [t0, hsame t h2] at h1
   exact (hs.2 t mv u h1 h3).ext hr hx
 refine any_sound hO hA ht hd (fun t id hid => ?_) (hal tr _ ht tn) hL hQ _ _ _ _ E 0 hinv (by rw [Array.toList_replicate]; exact Nat.le_trans List.countP_le_length (by simp))
 rw [t0] at hid ⊢
 by_cases hh : ∀ j d id z, hz j = some (d, id, z) → d ≠ t
 ·have h1 := hsame t hh
  rw [List.getD_eq_getElem?_getD, h1, ← List.getD_eq_getElem?_getD] at hid
  have := (hs.tmp t).idlt hr hid
  rw [htl, List.length_append]; omega
 ·apply Classical.byContradiction
  intro hno
  apply hh
  intro j d id2 z hj e
  subst e
  obtain ⟨_, k2, k3, _⟩ := hd0 j d id2 z hj
  rw [List.getD_eq_getElem?_getD, k2] at hid
  simp only [Option.getD_some, MV.id?, Option.some.injEq] at hid
  subst hid
  exact hno (List.getElem?_eq_some_iff.1 k3).1
theorem draw_okV (hm : P.follows .mixedOrders = true) (hO : SoundO P O) (hA : AppO O) {id : Nat} (hlen : gl.length = ops.size) (hcomp : ∀ (i : Nat) o go, ops[i]? = some o → gl[i]? = some go → CompV P ops o go) (hd : drawOk ops gl = true) {st st' : MSt} (he : evR lk O gl st = some st') {a : Act} {w : World} {E : Env} (hs : Slots E w st.s a) (hr : HRel E st.h w)
  {r : Option Nat} {n : Nat} {Q : Exit → Act → World → Prop} (hQ : ∀ a' w' E', Slots E' w' st'.s a' → HRel E' st'.h w' → Ext lk E w E' w' → a'.defers = a.defers → Q .normal a' w') : (Code.region id ops true).wpIn (Fw r) n P Q a w :=
 draw_core (hz := fun _ => none) (ali := fun _ _ => False) hm hO hA (Nat.le_of_eq hlen) (.inl hlen) (fun i o go h1 h2 => .inl ⟨rfl, hcomp i o go h1 h2⟩) (drawOk_spec hlen hd) he rfl ⟨[], by simp⟩ (fun _ _ => rfl) (fun _ _ _ _ h => by cases h) (fun _ _ _ _ _ _ _ _ h => by cases h) (fun _ _ _ _ _ _ _ _ h => h.elim) hs hr fun a' w' E' h1 h2 h3 h4 => by
  unfold wpOpIn
  rw [hlen, Array.getElem?_eq_none (Nat.le_refl _), List.drop_eq_nil_of_le (by simp)]
  exact hQ a' w' E' h1 h2 h3 h4
def isCv : MO → Bool
 | .callv _ _ => true
 | _ => false
theorem notDst_pre {pre rest : List GO} {q : Nat} (h : notDst (pre ++ rest) q = true) : notDst pre q = true := by
 unfold notDst at h ⊢
 rw [List.all_append, Bool.and_eq_true] at h
 exact h.1
def isFa : MO → Bool
 | .fa _ _ => true
 | _ => false
theorem DrawOk.pre {pre rest : List GO} (hg : rest.all (fun g => !isFa g.op) = true) (hd : DrawOk ops (pre ++ rest) (fun _ _ => False) fun _ => none) : DrawOk ops pre (fun _ _ => False) fun _ => none := by
 have up : ∀ {i : Nat} {gi : GO}, pre[i]? = some gi → (pre ++ rest)[i]? = some gi := fun h => by rw [List.getElem?_append_left (List.getElem?_eq_some_iff.1 h).1]; exact h
 have hold : ∀ {gi : GO}, oldR (pre ++ rest) gi = true → oldR pre gi = true := fun {gi} h => by
  unfold oldR at h ⊢
  split at h
  ·rename_i ag q hop
   unfold oldSl at h ⊢
   rw [Bool.or_eq_true] at h ⊢
   rcases h with h | h
   ·exact .inl (notDst_pre h)
   ·refine .inr ?_
    obtain ⟨g', hg', h2⟩ := List.any_eq_true.1 h
    rw [Bool.and_eq_true] at h2
    rw [List.any_eq_true]
    rcases List.mem_append.1 hg' with h3 | h3
    ·refine ⟨g', h3, ?_⟩
     rw [Bool.and_eq_true]
     refine ⟨h2.1, ?_⟩
     have h4 := h2.2
     unfold faOf at h4 ⊢
     split at h4
     ·exact notDst_pre h4
     ·cases h4
    ·have h4 := h2.2
     have h5 := List.all_eq_true.1 hg g' h3
     unfold faOf at h4
     split at h4
     ·simp [isFa] at h5
     ·cases h4
  ·cases h
 have hnew : ∀ {j : Nat} {gj : GO}, j ≤ pre.length → newM (pre ++ rest) j gj = true → newM pre j gj = true := fun {j gj} hj h => by
  unfold newM at h ⊢
  rw [List.take_append_of_le_length hj] at h
  exact h
 refine ⟨fun i gi hi => hd.consts i gi (up hi), hd.back, fun i j gi gj d hi hj => hd.ssa i j gi gj d (up hi) (up hj), fun i j gi gj d h hi hj => hd.reads i j gi gj d h (up hi) (up hj), fun i j gi gj d h hi hj => hd.writes i j gi gj d h (up hi) (up hj), fun i j gi gj h hi hj => hd.effects i j gi gj h (up hi) (up hj), fun i j gi gj h hi hj h1 h2 => ?_, fun i j gi gj h hi hj h1 h2 => ?_, fun _ _ _ _ h => by cases h⟩
 ·rcases hd.rm i j gi gj h (up hi) (up hj) h1 h2 with h | h | h
  ·exact .inl h
  ·exact .inr (.inl ⟨hold h.1, hnew (Nat.le_of_lt (List.getElem?_eq_some_iff.1 hj).1) h.2⟩)
  ·exact h.elim
 ·rcases hd.mr i j gi gj h (up hi) (up hj) h1 h2 with h | h | h
  ·exact .inl h
  ·exact .inr (.inl ⟨hold h.1, hnew (Nat.le_of_lt (List.getElem?_eq_some_iff.1 hi).1) h.2⟩)
  ·exact h.elim
theorem draw_last (hm : P.follows .mixedOrders = true) (hO : SoundO P O) (hA : AppO O) {id : Nat} {pre rest : List GO} (hlen : (pre ++ rest).length = ops.size) (hne : pre.length < ops.size) (hg : rest.all (fun g => !isFa g.op) = true) (hw : ∀ j, j < pre.length → rch ops ops.size pre.length j = true) (hw2 : ∀ i, pre.length < i → i < ops.size → rch ops ops.size i pre.length = true) (hsq : Region.seqB .any ops (ops.size - (pre.length + 1)) (pre.length + 1) (preA ops.size (pre.length + 1)) = true) (hcomp : ∀ (i : Nat) o go, ops[i]? = some o → pre[i]? = some go → compG P ops o = some go) (hd : drawOk ops (pre ++ rest) = true) {st st' : MSt} (he : evR lk O pre st = some st') {a : Act} {w : World} {E : Env} (hs : Slots E w st.s a) (hr : HRel E st.h w)
  {r : Option Nat} {n : Nat} {Q : Exit → Act → World → Prop} (hQ : ∀ a' w' E', Slots E' w' st'.s a' → HRel E' st'.h w' → Ext lk E w E' w' → a'.defers = a.defers → wpOpIn (Fw r) n P ops Q pre.length (wpListIn (Fw r) n P ops Q (ops.toList.drop (pre.length + 1))) a' w') : (Code.region id ops true).wpIn (Fw r) n P Q a w :=
 draw_core (gl := pre) (hz := fun _ => none) (ali := fun _ _ => False) hm hO hA (by omega) (.inr ⟨hne, hw, hw2, hsq⟩) (fun i o go h1 h2 => .inl ⟨rfl, .inl (hcomp i o go h1 h2)⟩) ((drawOk_spec hlen hd).pre hg) he rfl ⟨[], by simp⟩ (fun _ _ => rfl) (fun _ _ _ _ h => by cases h) (fun _ _ _ _ _ _ _ _ h => by cases h) (fun _ _ _ _ _ _ _ _ h => h.elim) hs hr hQ
def virtG (gl : List GO) (o : Oper) (g : GO) : GO :=
 match g.op with
 | .bsl z n len ps => if isBs o.op && gl.any (fun g' => match g'.op, g.dst with | .app _ (.s u) (.s t), some d => t == d || (u == d && len == 0) | .app _ _ (.s t), some d => t == d | .build _ qs, some d => qs.any (fun q => match q.2.2 with | .s t => t == d | _ => false) | _, _ => false) then ⟨g.guard, g.dst, .vsl z n len ps⟩ else g
 | _ => g
def virt (ops : Array Oper) (gl : List GO) : List GO := List.zipWith (virtG gl) ops.toList gl
theorem virt_len (hl : gl.length = ops.size) : (virt ops gl).length = ops.size := by simp [virt, hl]
theorem virt_comp (hg : ops.toList.mapM (compG P ops) = some gl) (i : Nat) (o : Oper) (go : GO) (ho : ops[i]? = some o) (hgo : (virt ops gl)[i]? = some go) : CompV P ops o go := by
 obtain ⟨hl, hcomp⟩ := mapM_some hg
 simp only [virt, List.getElem?_zipWith] at hgo
 rw [show ops.toList[i]? = some o by simpa using ho] at hgo
 cases hgi : gl[i]? with
 | none => rw [hgi] at hgo; cases hgo
 | some g =>
  rw [hgi] at hgo
  simp only [Option.some.injEq] at hgo
  have hc := hcomp i o g (by simpa using ho) hgi
  subst hgo
  unfold virtG
  split
  ·rename_i z n len ps hop
   split
   ·rename_i hh
    rw [Bool.and_eq_true] at hh
    exact .inr ⟨g, z, n, len, ps, hc, hh.1, hop, rfl⟩
   ·exact .inl hc
  ·exact .inl hc
theorem draw_ok (hm : P.follows .mixedOrders = true) (hO : SoundO P O) (hA : AppO O) {id : Nat} (hg : ops.toList.mapM (compG P ops) = some gl) (hd : drawOk ops gl = true) {st st' : MSt} (he : evR lk O gl st = some st') {a : Act} {w : World} {E : Env} (hs : Slots E w st.s a) (hr : HRel E st.h w)
  {r : Option Nat} {n : Nat} {Q : Exit → Act → World → Prop} (hQ : ∀ a' w' E', Slots E' w' st'.s a' → HRel E' st'.h w' → Ext lk E w E' w' → a'.defers = a.defers → Q .normal a' w') : (Code.region id ops true).wpIn (Fw r) n P Q a w := by
 obtain ⟨hl, hcomp⟩ := mapM_some hg
 exact draw_okV hm hO hA (by rw [← hl]; simp) (fun i o go h1 h2 => .inl (hcomp i o go (by simpa using h1) h2)) hd he hs hr hQ
def isH (p : Oper × GO) : Bool := isAl p.1.op && (match p.2 with | ⟨none, some _, .new _⟩ => true | _ => false)
def hoG (o : Oper) (g : GO) : GO := if isH (o, g) then (match g.dst with | some d => ⟨none, some d, .nilck (.s d)⟩ | none => g) else g
def hoist (ops : Array Oper) (gl : List GO) : List GO := List.zipWith hoG ops.toList gl
def newsL (l : List (Oper × GO)) : List GO := (l.filter isH).map (·.2)
def hoAt (ops : Array Oper) (gl : List GO) (i : Nat) : Bool := match ops[i]?, gl[i]? with | some o, some g => isH (o, g) | _, _ => false
def stay (gl : List GO) (i q : Nat) : Bool := (gl.drop i).all fun g => g.dst != some q
def sta (gl : List GO) (i j : Nat) : Bool := match gl[i]?, gl[j]? with | some gi, some gj => !isLd gi.op && isSt gj.op | _, _ => false
def pairB (ops : Array Oper) (gl : List GO) (i j : Nat) : Option (Nat × Nat) :=
 match gl[i]?, gl[j]? with
 | some ⟨_, _, .ld _ (.s q)⟩, some ⟨g, d, .st z (.s p) x⟩ => if stay gl i q && stay gl j p && !(rch ops ops.size (max i j) (min i j)) && !newM gl j ⟨g, d, .st z (.s p) x⟩ then some (q, p) else none
 | _, _ => none
def ldC : MO → Bool
 | .ld _ (.c _) => false
 | _ => true
def pairA (ops : Array Oper) (gl : List GO) (i j : Nat) : Option (List Nat × Nat) :=
 match gl[i]?, gl[j]? with
 | some gi, some ⟨g, d, .app z (.s p) x⟩ => if gi.op.isR && ldC gi.op && (xslots gi.op.xs).all (stay gl i) && stay gl j p && !(rch ops ops.size (max i j) (min i j)) && !(oldR gl gi && newM gl j ⟨g, d, .app z (.s p) x⟩) then some (xslots gi.op.xs, p) else none
 | _, _ => none
def chks (ops : Array Oper) (gl : List GO) : List GO :=
 (List.range gl.length).flatMap fun i => (List.range gl.length).flatMap fun j => (match pairB ops gl i j with | some (q, p) => [⟨none, none, .ne (.s q) (.s p)⟩] | none => []) ++ (match pairA ops gl i j with | some (qs, p) => qs.map fun q => ⟨none, none, .ne (.s q) (.s p)⟩ | none => [])
def aliB (ops : Array Oper) (gl : List GO) (i j : Nat) : Bool := sta gl i j || (pairB ops gl i j).isSome || (pairA ops gl i j).isSome
def drawOk2 (ops : Array Oper) (gl : List GO) (ho : Nat → Bool) : Bool :=
 (List.range ops.size).all fun i => match ops[i]?, gl[i]? with
  | some oi, some gi =>
   ((oi.after.all fun e => !Region.binds .any e || decide (e.on < i)) && gi.op.xs.all MX.cok) &&
   (List.range i).all fun j => match gl[j]? with
    | some gj =>
     (gi.dst == none || gi.dst != gj.dst) &&
     ((match gj.dst with | some d => !gi.looks.contains d | none => true) || rch ops ops.size i j) &&
     ((match gi.dst with | some d => !gj.looks.contains d | none => true) || rch ops ops.size i j) &&
     (gi.op.isP || gj.op.isP || mkAt ops j || rch ops ops.size i j) &&
     (!(gi.op.isR && gj.op.isM) || rch ops ops.size i j || (oldR gl gi && newM gl j gj) || aliB ops gl i j) &&
     (!(gj.op.isR && gi.op.isM) || rch ops ops.size i j || (oldR gl gj && newM gl i gi) || aliB ops gl j i) &&
     (!ho i || (match gi.dst with | some d => !gj.looks.contains d | none => true))
    | none => false
  | _, _ => false
def aliH (ops : Array Oper) (gl : List GO) (i j : Nat) : Prop := aliB ops gl i j = true
theorem or3 : ∀ r o n b : Bool, (!(true && true) || r || (o && n) || b) = true → r = true ∨ (o = true ∧ n = true) ∨ b = true := by decide
theorem drawOk2_spec {ho : Nat → Bool} (hl : gl.length = ops.size) (hho : ∀ (j d id : Nat) (z : MV), hz j = some (d, id, z) → ho j = true ∧ ∃ g, gl[j]? = some g ∧ g.dst = some d) (h : drawOk2 ops gl ho = true) : DrawOk ops gl (aliH ops gl) hz := by
 unfold drawOk2 at h
 rw [List.all_eq_true] at h
 have pair : ∀ (i j : Nat) (gi gj : GO), j < i → gl[i]? = some gi → gl[j]? = some gj →
   (gi.dst == none || gi.dst != gj.dst) = true ∧ ((match gj.dst with | some d => !gi.looks.contains d | none => true) || rch ops ops.size i j) = true ∧ ((match gi.dst with | some d => !gj.looks.contains d | none => true) || rch ops ops.size i j) = true ∧
   (gi.op.isP || gj.op.isP || mkAt ops j || rch ops ops.size i j) = true ∧ (!(gi.op.isR && gj.op.isM) || rch ops ops.size i j || (oldR gl gi && newM gl j gj) || aliB ops gl i j) = true ∧ (!(gj.op.isR && gi.op.isM) || rch ops ops.size i j || (oldR gl gj && newM gl i gi) || aliB ops gl j i) = true ∧ (!ho i || (match gi.dst with | some d => !gj.looks.contains d | none => true)) = true := by
  intro i j gi gj hji hi hj
  have hil : i < ops.size := by have := (List.getElem?_eq_some_iff.1 hi).1; omega
  have h1 := h i (List.mem_range.2 hil)
  rw [Array.getElem?_eq_getElem hil, hi] at h1
  simp only [Bool.and_eq_true] at h1
  have h2 := List.all_eq_true.1 h1.2 j (List.mem_range.2 hji)
  rw [hj] at h2
  simp only [Bool.and_eq_true] at h2
  obtain ⟨⟨⟨⟨⟨⟨a1, a2⟩, a3⟩, a4⟩, a5⟩, a6⟩, a7⟩ := h2
  exact ⟨a1, a2, a3, a4, a5, a6, a7⟩
 refine ⟨fun i gi hi x hx => ?_, fun i o hi e he hb => ?_, fun i j gi gj d hi hj hdi hdj => ?_, fun i j gi gj d hji hi hj hd hm => ?_, fun i j gi gj d hji hi hj hd hm => ?_, fun i j gi gj hji hi hj h1 h2 h3 => ?_, fun i j gi gj hji hi hj h1 h2 => ?_, fun i j gi gj hji hi hj h1 h2 => ?_, fun j d id z hh i gi hij hi hm => ?_⟩
 ·have hil : i < ops.size := by have := (List.getElem?_eq_some_iff.1 hi).1; omega
  have h1 := h i (List.mem_range.2 hil)
  rw [Array.getElem?_eq_getElem hil, hi] at h1
  simp only [Bool.and_eq_true] at h1
  exact List.all_eq_true.1 h1.1.2 x hx
 ·have hil := (Array.getElem?_eq_some_iff.1 hi).1
  have h1 := h i (List.mem_range.2 hil)
  rw [hi, List.getElem?_eq_getElem (by omega)] at h1
  simp only [Bool.and_eq_true] at h1
  have h2 := Array.all_eq_true'.1 h1.1.1 e he
  rw [hb] at h2
  simpa using h2
 ·rcases Nat.lt_trichotomy i j with hlt | rfl | hlt
  ·have := (pair j i gj gi hlt hj hi).1
   rw [hdi, hdj] at this
   simp at this
  ·rfl
  ·have := (pair i j gi gj hlt hi hj).1
   rw [hdi, hdj] at this
   simp at this
 ·have := (pair i j gi gj hji hi hj).2.1
  rw [hd] at this
  simpa [hm] using this
 ·have := (pair i j gi gj hji hi hj).2.2.1
  rw [hd] at this
  simpa [hm] using this
 ·have := (pair i j gi gj hji hi hj).2.2.2.1
  simpa [h1, h2, h3] using this
 ·have := (pair i j gi gj hji hi hj).2.2.2.2.1
  rw [h1, h2] at this
  exact or3 _ _ _ _ this
 ·have := (pair i j gi gj hji hi hj).2.2.2.2.2.1
  rw [h1, h2] at this
  exact or3 _ _ _ _ this
 ·obtain ⟨k1, g, k2, k3⟩ := hho j d id z hh
  have := (pair j i g gi hij k2 hi).2.2.2.2.2.2
  rw [k1, k3] at this
  simp at this
  exact this hm
theorem evR_append : ∀ (a b : List GO) (st : MSt), evR lk O (a ++ b) st = (evR lk O a st).bind (evR lk O b)
 | [], b, st => rfl
 | o :: a, b, st => by
  simp only [List.cons_append, evR]
  cases h : evG lk O o st with
  | none => rfl
  | some st1 => simp only [Option.bind_some]; exact evR_append a b st1
def cntH (l : List (Oper × GO)) (i : Nat) : Nat := (l.take i).countP isH
theorem isH_iff {p : Oper × GO} (h : isH p = true) : isAl p.1.op = true ∧ ∃ d z, p.2 = ⟨none, some d, .new z⟩ := by
 unfold isH at h
 rw [Bool.and_eq_true] at h
 refine ⟨h.1, ?_⟩
 have h2 := h.2
 split at h2
 ·rename_i d z e; exact ⟨d, z, e⟩
 ·cases h2
theorem news_ev : ∀ (l : List (Oper × GO)) (st st0 : MSt), evR lk O (newsL l) st = some st0 → l.Pairwise (fun p q => isH p = true → isH q = true → p.2.dst ≠ q.2.dst) →
  st0.s.length = st.s.length ∧ (∃ t, st0.h = st.h ++ t) ∧ (∀ t, (∀ p ∈ l, isH p = true → p.2.dst ≠ some t) → st0.s[t]? = st.s[t]?) ∧
  ∀ (i : Nat) p d z, l[i]? = some p → isH p = true → p.2 = ⟨none, some d, .new z⟩ → d < st.s.length → st0.s[d]? = some (.ptr (st.h.length + cntH l i) 0 0 0) ∧ st0.h[st.h.length + cntH l i]? = some ⟨0, false, z.cells.length, [z]⟩
 | [], st, st0, he, _ => by
  simp only [newsL, List.filter_nil, List.map_nil, evR, Option.some.injEq] at he
  subst he
  exact ⟨rfl, ⟨[], by simp⟩, fun _ _ => rfl, fun i p d z h => by simp at h⟩
 | p :: l, st, st0, he, hp => by
  rw [List.pairwise_cons] at hp
  by_cases hH : isH p = true
  ·obtain ⟨_, d0, z0, e0⟩ := isH_iff hH
   have e1 : newsL (p :: l) = p.2 :: newsL l := by simp [newsL, hH]
   rw [e1] at he
   simp only [evR, e0, evG, wantM, evO, if_true, putM, Option.bind_some] at he
   obtain ⟨a1, ⟨t, a2⟩, a3, a4⟩ := news_ev l _ st0 he hp.2
   simp only at a1 a2 a3 a4
   refine ⟨by rw [a1]; simp, ⟨[⟨0, false, z0.cells.length, [z0]⟩] ++ t, by rw [a2, List.append_assoc]⟩, fun u hu => ?_, fun i q d z hi hq hqe hd => ?_⟩
   ·rw [a3 u fun q hq hqh => hu q (List.mem_cons_of_mem _ hq) hqh]
    have := hu p List.mem_cons_self hH
    rw [e0] at this
    exact List.getElem?_set_ne fun e => this (by rw [e])
   ·cases i with
    | zero =>
     simp only [List.getElem?_cons_zero, Option.some.injEq] at hi
     subst hi
     rw [e0] at hqe
     cases hqe
     have c0 : cntH (p :: l) 0 = 0 := rfl
     rw [c0, Nat.add_zero]
     refine ⟨?_, by rw [a2]; simp⟩
     rw [a3 d0 fun q hq hqh => ?_]
     ·rw [List.getElem?_set_self hd]
     ·have := hp.1 q hq hH hqh
      rw [e0] at this
      exact fun e => this (by rw [e])
    | succ i =>
     simp only [List.getElem?_cons_succ] at hi
     have c1 : cntH (p :: l) (i + 1) = cntH l i + 1 := by simp [cntH, List.take_succ_cons, hH]
     obtain ⟨b1, b2⟩ := a4 i q d z hi hq hqe (by simpa using hd)
     rw [c1]
     simp only [List.length_append, List.length_cons, List.length_nil] at b1 b2
     rw [show st.h.length + (cntH l i + 1) = st.h.length + (0 + 1) + cntH l i by omega]
     exact ⟨b1, b2⟩
  ·have e1 : newsL (p :: l) = newsL l := by simp [newsL, hH]
   rw [e1] at he
   obtain ⟨a1, a2, a3, a4⟩ := news_ev l st st0 he hp.2
   refine ⟨a1, a2, fun u hu => a3 u fun q hq hqh => hu q (List.mem_cons_of_mem _ hq) hqh, fun i q d z hi hq hqe hd => ?_⟩
   cases i with
   | zero =>
    simp only [List.getElem?_cons_zero, Option.some.injEq] at hi
    subst hi
    exact absurd hq hH
   | succ i =>
    simp only [List.getElem?_cons_succ] at hi
    have c1 : cntH (p :: l) (i + 1) = cntH l i := by simp [cntH, List.take_succ_cons, hH]
    rw [c1]
    exact a4 i q d z hi hq hqe hd
theorem cntH_lt {l : List (Oper × GO)} {i j : Nat} {p : Oper × GO} (hi : l[i]? = some p) (hp : isH p = true) (hij : i < j) : cntH l i < cntH l j := by
 have h1 : l.take (i + 1) = l.take i ++ [p] := by rw [List.take_add_one, hi]; rfl
 have h2 : cntH l (i + 1) = cntH l i + 1 := by unfold cntH; rw [h1, List.countP_append]; simp [hp]
 have h3 : cntH l (i + 1) ≤ cntH l j := by
  unfold cntH
  have : (l.take j).take (i + 1) = l.take (i + 1) := by rw [List.take_take]; congr 1; omega
  rw [← this]
  exact (List.take_sublist _ _).countP_le
 omega
theorem ne_t {s : List MV} {h : MHeap} {x y : MX} (hn : neB (x.get s) (y.get s) = true) : evO lk O s h (.ne x y) = some (.lit undef, h) := by unfold evO; exact if_pos hn
theorem ne_f {s : List MV} {h : MHeap} {x y : MX} (hn : ¬ neB (x.get s) (y.get s) = true) : evO lk O s h (.ne x y) = none := by unfold evO; exact if_neg hn
theorem chk_ev : ∀ (l : List GO) (st st' : MSt), (∀ g ∈ l, ∃ q p, g = ⟨none, none, .ne (.s q) (.s p)⟩) → evR lk O l st = some st' → st' = st ∧ ∀ q p, (⟨none, none, .ne (.s q) (.s p)⟩ : GO) ∈ l → neB (st.s.getD q (.lit undef)) (st.s.getD p (.lit undef)) = true
 | [], st, st', _, he => by
  simp only [evR, Option.some.injEq] at he
  exact ⟨he.symm, fun q p h => by cases h⟩
 | g :: l, st, st', hg, he => by
  obtain ⟨q, p, rfl⟩ := hg g List.mem_cons_self
  simp only [evR, evG, wantM, if_true, putM] at he
  by_cases hn : neB (st.s.getD q (.lit undef)) (st.s.getD p (.lit undef)) = true
  ·rw [ne_t (x := .s q) (y := .s p) hn] at he
   simp only [Option.bind_some] at he
   obtain ⟨a1, a2⟩ := chk_ev l _ st' (fun g h => hg g (List.mem_cons_of_mem _ h)) he
   refine ⟨a1, fun q' p' h => ?_⟩
   rcases List.mem_cons.1 h with h | h
   ·cases h; exact hn
   ·exact a2 q' p' h
  ·rw [ne_f (x := .s q) (y := .s p) hn] at he
   cases he
theorem stay_slot (ht : TextRun lk P O ops gl tr vi hz) {i q : Nat} (hq : stay gl i q = true) : ∀ k, i + k ≤ gl.length → (tr (i + k)).s.getD q (.lit undef) = (tr i).s.getD q (.lit undef)
 | 0, _ => rfl
 | k + 1, h => by
  obtain ⟨o, go, h1, h2, h3⟩ := ht.at_ (i := i + k) (by omega)
  have hne : go.dst ≠ some q := by
   have := List.all_eq_true.1 hq go (List.mem_of_getElem? (l := gl.drop i) (i := k) (by rw [List.getElem?_drop]; exact h2))
   simpa using this
  rw [← stay_slot ht hq k (by omega), ← Nat.add_assoc, ht.put _ go h2]
  cases hd : go.dst with
  | none => rfl
  | some d =>
   simp only [putM, List.getD_eq_getElem?_getD]
   rw [List.getElem?_set_ne fun e => hne (by rw [hd, e])]
theorem draw_okH (hm : P.follows .mixedOrders = true) (hO : SoundO P O) (hA : AppO O) {id : Nat} {g0 : List GO} (hlen : g0.length = ops.size) (hcomp : ∀ (i : Nat) o go, ops[i]? = some o → g0[i]? = some go → CompV P ops o go) (hd : drawOk2 ops (hoist ops g0) (hoAt ops g0) = true) {st st' : MSt}
  (he : evR lk O (newsL (ops.toList.zip g0) ++ (hoist ops g0 ++ chks ops (hoist ops g0))) st = some st') {a : Act} {w : World} {E : Env} (hs : Slots E w st.s a) (hr : HRel E st.h w)
  {r : Option Nat} {n : Nat} {Q : Exit → Act → World → Prop} (hQ : ∀ a' w' E', Slots E' w' st'.s a' → HRel E' st'.h w' → Ext lk E w E' w' → a'.defers = a.defers → Q .normal a' w') : (Code.region id ops true).wpIn (Fw r) n P Q a w := by
 rw [evR_append, Option.bind_eq_some_iff] at he
 obtain ⟨st0, he0, he⟩ := he
 rw [evR_append, Option.bind_eq_some_iff] at he
 obtain ⟨st1, he1, he2⟩ := he
 obtain ⟨rfl, hne⟩ := chk_ev _ _ _ (fun g hg => by
  unfold chks at hg
  simp only [List.mem_flatMap] at hg
  obtain ⟨i, _, j, _, hg⟩ := hg
  rw [List.mem_append] at hg
  rcases hg with hg | hg
  ·split at hg
   ·rw [List.mem_singleton] at hg; exact ⟨_, _, hg⟩
   ·cases hg
  ·split at hg
   ·obtain ⟨q, _, rfl⟩ := List.mem_map.1 hg; exact ⟨_, _, rfl⟩
   ·cases hg) he2
 have hL1 : (hoist ops g0).length = ops.size := by simp [hoist, hlen]
 have hget : ∀ {i : Nat} {go : GO}, (hoist ops g0)[i]? = some go → ∃ o g, ops[i]? = some o ∧ g0[i]? = some g ∧ go = hoG o g := fun {i go} h => by
  simp only [hoist, List.getElem?_zipWith] at h
  cases h1 : ops.toList[i]? with
  | none => rw [h1] at h; cases h
  | some o =>
   cases h2 : g0[i]? with
   | none => rw [h1, h2] at h; cases h
   | some g =>
    rw [h1, h2] at h
    simp only [Option.some.injEq] at h
    exact ⟨o, g, by simpa using h1, rfl, h.symm⟩
 have hget2 : ∀ {i : Nat} {o : Oper} {g : GO}, ops[i]? = some o → g0[i]? = some g → (hoist ops g0)[i]? = some (hoG o g) := fun {i o g} h1 h2 => by
  simp only [hoist, List.getElem?_zipWith]
  rw [show ops.toList[i]? = some o by simpa using h1, h2]
 have hdst : ∀ (o : Oper) (g : GO), (hoG o g).dst = g.dst := fun o g => by
  unfold hoG
  split
  ·split
   ·rename_i d e; rw [e]
   ·rfl
  ·rfl
 obtain ⟨hz, hhz⟩ : ∃ hz : Nat → Option (Nat × Nat × MV), hz = fun i => match ops[i]?, g0[i]? with
  | some o, some g => if isH (o, g) then (match g with | ⟨_, some d, .new z⟩ => some (d, st.h.length + cntH (ops.toList.zip g0) i, z) | _ => none) else none
  | _, _ => none := ⟨_, rfl⟩
 have hz1 : ∀ {j d id : Nat} {z : MV}, hz j = some (d, id, z) → ∃ o, ops[j]? = some o ∧ g0[j]? = some ⟨none, some d, .new z⟩ ∧ isH (o, ⟨none, some d, .new z⟩) = true ∧ id = st.h.length + cntH (ops.toList.zip g0) j := fun {j d id z} h => by
  rw [hhz] at h
  simp only at h
  split at h
  case h_2 => cases h
  rename_i o g h1 h2
  split at h
  case isFalse => cases h
  rename_i hH
  obtain ⟨_, d', z', e⟩ := isH_iff hH
  simp only at e
  subst e
  simp only [Option.some.injEq, Prod.mk.injEq] at h
  obtain ⟨rfl, rfl, rfl⟩ := h
  exact ⟨o, h1, h2, hH, rfl⟩
 have hz2 : ∀ {j : Nat} {o : Oper} {g : GO}, ops[j]? = some o → g0[j]? = some g → isH (o, g) = true → ∃ d z, g = ⟨none, some d, .new z⟩ ∧ hz j = some (d, st.h.length + cntH (ops.toList.zip g0) j, z) := fun {j o g} h1 h2 hH => by
  obtain ⟨_, d', z', e⟩ := isH_iff hH
  simp only at e
  subst e
  refine ⟨d', z', rfl, ?_⟩
  rw [hhz]
  simp only [h1, h2, hH, if_true]
 have hz3 : ∀ {j : Nat} {o : Oper} {g : GO}, ops[j]? = some o → g0[j]? = some g → isH (o, g) = false → hz j = none := fun {j o g} h1 h2 hH => by
  rw [hhz]
  simp only [h1, h2, hH, Bool.false_eq_true, if_false]
 have hzip : ∀ {j : Nat} {o : Oper} {g : GO}, ops[j]? = some o → g0[j]? = some g → (ops.toList.zip g0)[j]? = some (o, g) := fun {j o g} h1 h2 => by
  rw [List.getElem?_zip_eq_some]; exact ⟨by simpa using h1, h2⟩
 have hdo : DrawOk ops (hoist ops g0) (aliH ops (hoist ops g0)) hz := drawOk2_spec hL1 (fun j d id z h => by
  obtain ⟨o, h1, h2, h3, -⟩ := hz1 h
  refine ⟨by simp only [hoAt, h1, h2]; exact h3, _, hget2 h1 h2, by rw [hdst]⟩) hd
 have hpw : (ops.toList.zip g0).Pairwise (fun p q => isH p = true → isH q = true → p.2.dst ≠ q.2.dst) := by
  rw [List.pairwise_iff_getElem]
  intro i j hi hj hij h1 h2 e
  obtain ⟨o1, g1, e1⟩ : ∃ o g, (ops.toList.zip g0)[i] = (o, g) := ⟨_, _, rfl⟩
  obtain ⟨o2, g2, e2⟩ : ∃ o g, (ops.toList.zip g0)[j] = (o, g) := ⟨_, _, rfl⟩
  have k1 := List.getElem?_eq_getElem hi
  have k2 := List.getElem?_eq_getElem hj
  rw [e1, List.getElem?_zip_eq_some] at k1
  rw [e2, List.getElem?_zip_eq_some] at k2
  rw [e1] at h1 e
  rw [e2] at h2 e
  obtain ⟨_, d1, z1, q1⟩ := isH_iff h1
  simp only at q1 e
  have := hdo.ssa i j _ _ d1 (hget2 (by simpa using k1.1) k1.2) (hget2 (by simpa using k2.1) k2.2) (by rw [hdst, q1]) (by rw [hdst, ← e, q1])
  omega
 obtain ⟨n1, n2, n3, n4⟩ := news_ev _ _ _ he0 hpw
 obtain ⟨tr, t0, tn, ts⟩ := evR_trace he1
 have hthere : ∀ {j d id : Nat} {z : MV}, hz j = some (d, id, z) → d < st.s.length := fun {j d id z} h => by
  obtain ⟨o, h1, h2, h3, h4⟩ := hz1 h
  have hgo := hget2 h1 h2
  have e : hoG o ⟨none, some d, .new z⟩ = ⟨none, some d, .nilck (.s d)⟩ := by simp [hoG, h3]
  rw [e] at hgo
  have hev := ts j _ hgo
  simp only [evG, wantM, evO, if_true, MX.get] at hev
  have hlen2 : (tr j).s.length = st0.s.length := by
   have hj := (List.getElem?_eq_some_iff.1 hgo).1
   have key : ∀ i, i ≤ (hoist ops g0).length → (tr i).s.length = st0.s.length := by
    intro i
    induction i with
    | zero => intro _; rw [t0]
    | succ i ih =>
     intro hi
     obtain ⟨v, b1, _⟩ := evG_put (ts i _ (List.getElem?_eq_getElem (by omega)))
     rw [b1, putM_len]
     exact ih (by omega)
   exact key j (by omega)
  by_cases hlt : d < st.s.length
  ·exact hlt
  ·exfalso
   rw [show (tr j).s.getD d (.lit undef) = .lit undef by rw [List.getD_eq_getElem?_getD, List.getElem?_eq_none (by omega)]; rfl] at hev
   simp at hev
 refine draw_core (gl := hoist ops g0) (hz := hz) (ali := aliH ops (hoist ops g0)) (st := st) hm hO hA (Nat.le_of_eq hL1) (.inl hL1) (fun i o go h1 h2 => ?_) hdo he1 n1 n2 (fun t ht => n3 t fun p hp hH e => ?_) (fun j d id z h => ?_) (fun i j d d' id id' z z' h h' hne2 => ?_) (fun tr vi htr htn i j gi gj hali hgi hgj => ?_) hs hr fun a' w' E' h1 h2 h3 h4 => ?_
 ·obtain ⟨o', g, k1, k2, k3⟩ := hget h2
  rw [h1] at k1; cases k1
  cases hH : isH (o, g)
  ·refine .inl ⟨hz3 h1 k2 hH, ?_⟩
   rw [k3]
   simp only [hoG, hH, Bool.false_eq_true, if_false]
   exact hcomp i o g h1 k2
  ·obtain ⟨d, z, e, hzj⟩ := hz2 h1 k2 hH
   refine .inr ⟨d, _, z, hzj, (isH_iff hH).1, ?_, ?_⟩
   ·rcases hcomp i o g h1 k2 with h | ⟨_, _, _, _, _, _, _, _, h⟩
    ·rw [← e]; exact h
    ·rw [e] at h
     have := congrArg GO.op h
     cases this
   ·rw [k3]
    subst e
    simp only [hoG, hH, if_true]
 ·obtain ⟨k, hk⟩ := List.getElem?_of_mem hp
  obtain ⟨o, g⟩ := p
  rw [List.getElem?_zip_eq_some] at hk
  obtain ⟨d, z, e2, hzj⟩ := hz2 (by simpa using hk.1) hk.2 hH
  subst e2
  simp only [Option.some.injEq] at e
  exact ht k d _ z hzj e
 ·obtain ⟨o, h1, h2, h3, h4⟩ := hz1 h
  obtain ⟨b1, b2⟩ := n4 j _ d z (hzip h1 h2) h3 rfl (hthere h)
  rw [← h4] at b1 b2
  refine ⟨?_, b1, b2, by omega⟩
  rw [hget2 h1 h2]
  simp [hoG, h3]
 ·obtain ⟨o, h1, h2, h3, h4⟩ := hz1 h
  obtain ⟨o', h1', h2', h3', h4'⟩ := hz1 h'
  rw [h4, h4']
  rcases Nat.lt_or_gt_of_ne hne2 with hlt | hlt
  ·have := cntH_lt (hzip h1 h2) h3 hlt; omega
  ·have := cntH_lt (hzip h1' h2') h3' hlt; omega
 ·unfold aliH aliB at hali
  rw [Bool.or_eq_true, Bool.or_eq_true] at hali
  rcases hali with (h | h) | h
  ·unfold sta at h
   rw [hgi, hgj] at h
   simp only [Bool.and_eq_true, Bool.not_eq_true'] at h
   exact .inl h
  ·right; left
   rw [Option.isSome_iff_exists] at h
   obtain ⟨⟨q, p⟩, hpq⟩ := h
   have hmem : (⟨none, none, .ne (.s q) (.s p)⟩ : GO) ∈ chks ops (hoist ops g0) := by
    unfold chks
    rw [List.mem_flatMap]
    refine ⟨i, List.mem_range.2 (List.getElem?_eq_some_iff.1 hgi).1, ?_⟩
    rw [List.mem_flatMap]
    refine ⟨j, List.mem_range.2 (List.getElem?_eq_some_iff.1 hgj).1, ?_⟩
    rw [List.mem_append]; left
    rw [hpq]; simp
   have hneq := hne q p hmem
   unfold pairB at hpq
   rw [hgi, hgj] at hpq
   split at hpq
   case h_2 => cases hpq
   rename_i gu ds ag q' gu2 ds2 sz p' x' e1 e2
   cases e1
   cases e2
   split at hpq
   case isFalse => cases hpq
   rename_i hcond
   cases hpq
   simp only [Bool.and_eq_true] at hcond
   obtain ⟨⟨⟨c2, c3⟩, _⟩, _⟩ := hcond
   refine ⟨ag, _, sz, _, x', rfl, rfl, fun id hi1 hi2 => ?_⟩
   have s1 := stay_slot htr c2 ((hoist ops g0).length - i) (by have := (List.getElem?_eq_some_iff.1 hgi).1; omega)
   have s2 := stay_slot htr c3 ((hoist ops g0).length - j) (by have := (List.getElem?_eq_some_iff.1 hgj).1; omega)
   rw [show i + ((hoist ops g0).length - i) = (hoist ops g0).length by have := (List.getElem?_eq_some_iff.1 hgi).1; omega, htn] at s1
   rw [show j + ((hoist ops g0).length - j) = (hoist ops g0).length by have := (List.getElem?_eq_some_iff.1 hgj).1; omega, htn] at s2
   rw [s1, s2] at hneq
   unfold neB at hneq
   rw [hi1, hi2] at hneq
   simp at hneq
  ·right; right
   rw [Option.isSome_iff_exists] at h
   obtain ⟨⟨qs, p⟩, hpq⟩ := h
   have hmem : ∀ q ∈ qs, (⟨none, none, .ne (.s q) (.s p)⟩ : GO) ∈ chks ops (hoist ops g0) := fun q hq => by
    unfold chks
    rw [List.mem_flatMap]
    refine ⟨i, List.mem_range.2 (List.getElem?_eq_some_iff.1 hgi).1, ?_⟩
    rw [List.mem_flatMap]
    refine ⟨j, List.mem_range.2 (List.getElem?_eq_some_iff.1 hgj).1, ?_⟩
    rw [List.mem_append]; right
    rw [hpq]
    exact List.mem_map.2 ⟨q, hq, rfl⟩
   unfold pairA at hpq
   rw [hgi, hgj] at hpq
   split at hpq
   case h_2 => cases hpq
   rename_i gi' gu2 ds2 sz p' x' e1 e2
   cases e1
   cases e2
   split at hpq
   case isFalse => cases hpq
   rename_i hcond
   cases hpq
   simp only [Bool.and_eq_true] at hcond
   obtain ⟨⟨⟨⟨⟨c0, c1⟩, c2⟩, c3⟩, _⟩, _⟩ := hcond
   refine ⟨?_, sz, _, x', rfl, fun y hy id hi1 hi2 => ?_⟩
   ·cases hop : gi.op <;> rw [hop] at c1 <;> simp only [isLd, true_or]
    rename_i ag q
    cases q with
    | s q => exact .inr ⟨_, _, rfl⟩
    | c v => simp [ldC] at c1
   ·cases y with
    | c v =>
     have hc := hdo.consts i gi hgi _ hy
     simp only [MX.cok, MX.get] at hc hi1
     rw [hi1] at hc
     cases hc
    | s q =>
     have hq := mem_xslots hy
     have hneq := hne q p (hmem q hq)
     have c2' := List.all_eq_true.1 c2 q hq
     have s1 := stay_slot htr c2' ((hoist ops g0).length - i) (by have := (List.getElem?_eq_some_iff.1 hgi).1; omega)
     have s2 := stay_slot htr c3 ((hoist ops g0).length - j) (by have := (List.getElem?_eq_some_iff.1 hgj).1; omega)
     rw [show i + ((hoist ops g0).length - i) = (hoist ops g0).length by have := (List.getElem?_eq_some_iff.1 hgi).1; omega, htn] at s1
     rw [show j + ((hoist ops g0).length - j) = (hoist ops g0).length by have := (List.getElem?_eq_some_iff.1 hgj).1; omega, htn] at s2
     rw [s1, s2] at hneq
     simp only [MX.get] at hi1
     unfold neB at hneq
     rw [hi1, hi2] at hneq
     simp at hneq
 ·unfold wpOpIn
  rw [hL1, Array.getElem?_eq_none (Nat.le_refl _), List.drop_eq_nil_of_le (by simp)]
  exact hQ a' w' E' h1 h2 h3 h4
end
end Go.Proofs.YtnmgpbihknjdjaaDoor

/- Control. -/
namespace Go.Proofs.YtnmgpbihknjdjaaDoor
open Go.RowKit
def MkOk (r : Option Nat) (B : Nat) (a : Act) (w : World) : Prop :=
 B ≤ w.heap.size ∧ match r with
 | none => Marks B a.defers w
 | some l => a.defers = [] ∧ ∃ rec, w.heap[l]? = some (.loop rec)
theorem noCells_ext {lk : Nat → Bool} {E E' : Env} {h : MHeap} {w w' : World} (hr : HRel E h w) (hx : Ext lk E w E' w') {k : Nat} {o : Obj} (hk : w.heap[k]? = some o) (ho : dataO o = false) : w'.heap[k]? = some o := by
 have hlt := (Array.getElem?_eq_some_iff.1 hk).1
 refine (hx.keep k hlt fun id hid _ hc e => ?_).trans hk
 obtain ⟨es, -, -, -, -, hb⟩ := hr.obj id hid
 obtain ⟨arr, t, h1, -⟩ := hb hc
 obtain ⟨x, h2, h3⟩ := h1.data
 rw [e, hk] at h2
 cases h2
 rw [ho] at h3
 cases h3
theorem MkOk.ext {lk : Nat → Bool} {r : Option Nat} {B : Nat} {a a' : Act} {E E' : Env} {h : MHeap} {w w' : World} (hm : MkOk r B a w) (hr : HRel E h w) (hx : Ext lk E w E' w') (hd : a'.defers = a.defers) : MkOk r B a' w' := by
 refine ⟨Nat.le_trans hm.1 hx.size, ?_⟩
 have := hm.2
 cases r with
 | none =>
  simp only at this ⊢
  rw [hd]
  exact this.keep fun D _ hD => noCells_ext hr hx hD rfl
 | some l =>
  simp only at this ⊢
  obtain ⟨h1, rec, h2⟩ := this
  exact ⟨hd.trans h1, rec, noCells_ext hr hx h2 rfl⟩
def exitOf : MX2 → Exit
 | .normal => .normal
 | .exit id => .exit id
 | .ret => .ret
structure Rel (r : Option Nat) (B : Nat) (E : Env) (st : MSt) (a : Act) (w : World) : Prop where
 slots : Slots E w st.s a
 heap : HRel E st.h w
 mok : MkOk r B a w
def CodeOK (P : Program) (O : Oracle) (I : Iter) (N : Nat) (c : Code) (mc : MC) : Prop :=
 ∀ (lk : Nat → Bool) (st st' : MSt) (x : MX2), evC O I N mc lk st = some (x, st') → ∀ (r : Option Nat) (B n : Nat) (E : Env) (a : Act) (w : World) (Q : Exit → Act → World → Prop), Rel r B E st a w →
  (∀ a' w' E', Rel r B E' st' a' w' → Ext lk E w E' w' → Q (exitOf x) a' w') → c.wpIn (Fw r) n P Q a w
section
variable {P : Program} {O : Oracle} {I : Iter} {N : Nat}
theorem code_skip : CodeOK P O I N .skip .skip := by
 intro lk st st' x he r B n E a w Q hR hQ
 simp only [evC, Option.some.injEq, Prod.mk.injEq] at he
 obtain ⟨rfl, rfl⟩ := he
 exact wpIn_skip (hQ a w E hR (Ext.refl _ _ _))
theorem code_ret : CodeOK P O I N .ret .ret := by
 intro lk st st' x he r B n E a w Q hR hQ
 simp only [evC, Option.some.injEq, Prod.mk.injEq] at he
 obtain ⟨rfl, rfl⟩ := he
 exact wpIn_ret (hQ a w E hR (Ext.refl _ _ _))
theorem code_exit {id : Nat} : CodeOK P O I N (.exit id) (.exit id) := by
 intro lk st st' x he r B n E a w Q hR hQ
 simp only [evC, Option.some.injEq, Prod.mk.injEq] at he
 obtain ⟨rfl, rfl⟩ := he
 exact wpIn_exit (hQ a w E hR (Ext.refl _ _ _))
theorem code_seq {c d : Code} {mc md : MC} (h1 : CodeOK P O I N c mc) (h2 : CodeOK P O I N d md) : CodeOK P O I N (.seq c d) (.seq mc md) := by
 intro lk st st' x he r B n E a w Q hR hQ
 simp only [evC] at he
 split at he
 ·rename_i st1 he1
  exact wpIn_seq (h1 lk st st1 .normal he1 r B n E a w _ hR fun a1 w1 E1 hR1 hx1 => h2 lk st1 st' x he r B n E1 a1 w1 Q hR1 fun a2 w2 E2 hR2 hx2 => hQ a2 w2 E2 hR2 (hx1.trans hx2))
 ·rename_i y hne
  cases x with
  | normal => exact absurd he (hne st')
  | exit id => exact wpIn_seq (h1 lk st st' (.exit id) he r B n E a w _ hR fun a1 w1 E1 hR1 hx1 => hQ a1 w1 E1 hR1 hx1)
  | ret => exact wpIn_seq (h1 lk st st' .ret he r B n E a w _ hR fun a1 w1 E1 hR1 hx1 => hQ a1 w1 E1 hR1 hx1)
theorem code_cond {x : Operand} {x' : MX} {c d : Code} {mc md : MC} (hx : cX x = some x') (h1 : CodeOK P O I N c mc) (h2 : CodeOK P O I N d md) : CodeOK P O I N (.cond x c d) (.cond x' mc md) := by
 intro lk st st' y he r B n E a w Q hR hQ
 simp only [evC] at he
 have hv := hR.slots.x hx
 split at he
 case h_2 => cases he
 rename_i t ht
 rw [ht] at hv
 refine wpIn_cond hv.lit_eq ?_
 cases t
 ·exact h2 lk st st' y he r B n E a w Q hR hQ
 ·exact h1 lk st st' y he r B n E a w Q hR hQ
theorem code_block {id : Nat} {c : Code} {mc : MC} (h1 : CodeOK P O I N c mc) : CodeOK P O I N (.block id c) (.block id mc) := by
 intro lk st st' y he r B n E a w Q hR hQ
 simp only [evC] at he
 split at he
 ·rename_i k st1 he1
  refine wpIn_block (h1 lk st st1 (.exit k) he1 r B n E a w _ hR fun a1 w1 E1 hR1 hx1 => ?_)
  split at he
  ·rename_i e
   cases he
   have := hQ a1 w1 E1 hR1 hx1
   simpa [exitOf, Exit.inBlock, e] using this
  ·rename_i e
   cases he
   have := hQ a1 w1 E1 hR1 hx1
   simpa [exitOf, Exit.inBlock, e] using this
 ·rename_i hne
  refine wpIn_block (h1 lk st st' y he r B n E a w _ hR fun a1 w1 E1 hR1 hx1 => ?_)
  have := hQ a1 w1 E1 hR1 hx1
  cases y with
  | normal => simpa [exitOf, Exit.inBlock] using this
  | exit k => exact absurd he (hne k st')
  | ret => simpa [exitOf, Exit.inBlock] using this
end
end Go.Proofs.YtnmgpbihknjdjaaDoor
namespace Go.Proofs.YtnmgpbihknjdjaaDoor
open Go.RowKit
def Env.res (E : Env) (n : Nat) : Env := { E with K := fun id => E.K id ∧ id < n }
theorem ltL_at {n : Nat} : ∀ {l : List MV}, ltL n l = true → ∀ (i : Nat) m, l[i]? = some m → m.lt n = true
 | v :: vs, h, 0, m, hi => by simp at hi; subst hi; simp only [ltL, Bool.and_eq_true] at h; exact h.1
 | v :: vs, h, i + 1, m, hi => by simp at hi; simp only [ltL, Bool.and_eq_true] at h; exact ltL_at h.2 i m hi
theorem lt_cells {n : Nat} {m : MV} (h : m.lt n = true) (i : Nat) (c : MV) (hc : m.cells[i]? = some c) : c.lt n = true := by
 have key : ∀ {v : MV}, v.cells = [v] → v.lt n = true → v.cells[i]? = some c → c.lt n = true := fun hv h hc => by
  rw [hv] at hc
  cases i with
  | zero => simp at hc; subst hc; exact h
  | succ i => simp at hc
 cases m with
 | agg cs => simp only [MV.lt] at h; exact ltL_at h i c hc
 | _ => exact key rfl h hc
theorem lt_flat {n : Nat} {l : List MV} (h : ltL n l = true) (k : Nat) (c : MV) (hc : (flat l)[k]? = some c) : c.lt n = true := by
 have hm := List.mem_of_getElem? hc
 unfold flat at hm
 rw [List.mem_flatMap] at hm
 obtain ⟨e, he, hce⟩ := hm
 obtain ⟨i, hi⟩ := List.getElem?_of_mem he
 obtain ⟨j, hj⟩ := List.getElem?_of_mem hce
 exact lt_cells (ltL_at h i e hi) j c hj
theorem TABS_lt (n : Nat) : ∀ p ∈ TABS, p.1.lt n = true := List.all_eq_true.1 (by rfl)
theorem V.resY {E : Env} {w : World} {m : MV} {v : Value} {n : Nat} (l : Nat) (hv : V E w m v) : m.lt n = true → V { E.res n with yl := l } w m v := by
 induction hv with
 | junk v => exact fun _ => .junk v
 | yld => exact fun h => by simp [MV.lt] at h
 | emp a => exact fun h => by simp [MV.lt] at h
 | lit v => exact fun _ => .lit v
 | agg cs vs hl _ ih => exact fun h => .agg cs vs hl fun i c v hc hx => ih i c v hc hx (by simp only [MV.lt] at h; exact ltL_at h i c hc)
 | tup cs vs hl _ ih => exact fun h => .tup cs vs hl fun i c v hc hx => ih i c v hc hx (by simp only [MV.lt] at h; exact ltL_at h i c hc)
 | fn f k cs vs hl _ ih => exact fun h => .fn f k cs vs hl fun i c v hc hx => ih i c v hc hx (by simp only [MV.lt] at h; exact ltL_at h i c hc)
 | sl es vs A cap sz hc hs hl _ hA ih => exact fun h => .sl es vs A cap sz hc hs hl (fun i c v hc' hx => ih i c v hc' hx (by simp only [MV.lt] at h; exact lt_flat h i c hc')) hA
 | rp e off vs b o hl _ hb hcell ih => exact fun h => .rp e off vs b o hl (fun i c v hc' hx => ih i c v hc' hx (by simp only [MV.lt] at h; exact lt_cells h i c hc')) hb hcell
 | ptr id i off g b o hk hg hd => exact fun h => .ptr id i off g b o ⟨hk, by simpa [MV.lt] using h⟩ hg hd
 | arr id i n' g A cap hk hg hd => exact fun h => .arr id i n' g A cap ⟨hk, by simpa [MV.lt] using h⟩ hg hd
 | mp id g b hk hg hd => exact fun h => .mp id g b ⟨hk, by simpa [MV.lt] using h⟩ hg hd
 | rm es b ents ck l hl _ hp hs hb hh ih => exact fun h => .rm es b ents ck l hl (fun i c v hc hx => ih i c v hc hx (by simp only [MV.lt] at h; exact ltL_at h i c hc)) hp hs hb hh
 | itr => exact fun h => by simp [MV.lt] at h
theorem V.res {E : Env} {w : World} {m : MV} {v : Value} {n : Nat} (hv : V E w m v) (h : m.lt n = true) : V (E.res n) w m v := V.resY E.yl hv h
theorem HRel.res {E : Env} {h : MHeap} {w : World} {n : Nat} (hr : HRel E h w) (hn : E.top ≤ n) (hlt : hltL n (h.take n) = true) : HRel (E.res n) (h.take n) w := by
 refine ⟨fun id hk => by have := hr.klt id hk.1; have := hk.2; simp; omega, by have := hr.top; simp [Env.res]; omega, fun id hk => ?_, fun i j hi hj => hr.inj i j hi.1 hj.1, fun id hk => hr.sep id hk.1, hr.slt, fun p hp => (hr.tab p hp).res (TABS_lt n p hp)⟩
 obtain ⟨es, a1, a2, a3, a4, a5⟩ := hr.obj id hk.1
 have hmem : (h.take n)[id]? = some ⟨E.gn id, E.nl id, E.sz id, es⟩ := by rw [List.getElem?_take, if_pos hk.2]; exact a1
 refine ⟨es, hmem, a2, a3, a4, fun hc => ?_⟩
 obtain ⟨arr, t, b1, b2, b3⟩ := a5 hc
 refine ⟨arr, t, b1, b2, fun k c hkc => ?_⟩
 obtain ⟨v, c1, c2⟩ := b3 k c hkc
 exact ⟨v, c1, c2.res (lt_flat (List.all_eq_true.1 hlt _ (List.mem_of_getElem? hmem)) k c hkc)⟩
theorem Ext.res {lk : Nat → Bool} {E0 E : Env} {w0 w : World} {n : Nat} (hx : Ext lk E0 w0 E w) (hn : ∀ id, E0.K id → id < n) : Ext lk E0 w0 (E.res n) w :=
 { hx with K := fun id hk => ⟨hx.K id hk, hn id hk⟩, src := fun id hk hc => hx.src id hk.1 hc, srcK := fun id hk => hx.srcK id hk.1 }
theorem keepS_len {keep : List Nat} : ∀ (s : List MV) (i : Nat), (keepS keep i s).length = s.length
 | [], _ => rfl
 | _ :: s, i => by simp [keepS, keepS_len s]
theorem keepS_at {keep : List Nat} : ∀ (s : List MV) (i t : Nat) (m : MV), (keepS keep i s)[t]? = some m → m = .junk ∨ s[t]? = some m
 | [], i, t, m, h => by simp [keepS] at h
 | v :: s, i, 0, m, h => by
  simp only [keepS, List.getElem?_cons_zero, Option.some.injEq] at h
  split at h
  ·exact .inr (by simp [h])
  ·exact .inl h.symm
 | v :: s, i, t + 1, m, h => by
  simp only [keepS, List.getElem?_cons_succ] at h
  simpa using keepS_at s (i + 1) t m h
theorem Slots.keep {E : Env} {w : World} {s : List MV} {a : Act} (hs : Slots E w s a) (keep : List Nat) (i : Nat) : Slots E w (keepS keep i s) a :=
 ⟨by rw [keepS_len, hs.1], fun t m v hm hv => by
  rcases keepS_at s i t m hm with rfl | h
  ·exact .junk v
  ·exact hs.2 t m v h hv⟩
theorem head_ok {lk : Nat → Bool} {r : Option Nat} {B : Nat} {E0 E : Env} {st : MSt} {a : Act} {w0 w : World} {n : Nat} (hR : Rel r B E st a w) (hx : Ext lk E0 w0 E w) (hn : ∀ id, E0.K id → id < n) (ht : E0.top ≤ n) (keep : List Nat) :
  ∃ E', Rel r B E' (headM keep n st) a w ∧ Ext lk E0 w0 E' w ∧ ∀ id, E'.K id → E.K id ∧ E'.ρ id = E.ρ id ∧ E'.cp id = E.cp id := by
 unfold headM
 dsimp only
 have hk := hR.slots.keep keep 0
 split
 ·exact ⟨E, ⟨hk, hR.heap, hR.mok⟩, hx, fun id h => ⟨h, rfl, rfl⟩⟩
 ·split
  ·rename_i hc
   simp only [Bool.and_eq_true] at hc
   exact ⟨E.res n, ⟨⟨hk.1, fun t m v hm hv => (hk.2 t m v hm hv).res (ltL_at hc.1 t m hm)⟩, hR.heap.res (by rw [hx.top]; exact ht) hc.2, hR.mok⟩, hx.res hn, fun id h => ⟨h.1, rfl, rfl⟩⟩
  ·exact ⟨E, ⟨hk, hR.heap, hR.mok⟩, hx, fun id h => ⟨h, rfl, rfl⟩⟩
section
variable {P : Program} {O : Oracle} {I : Iter} {N : Nat}
theorem code_loop {keep : List Nat} {c : Code} {mc : MC} (h1 : CodeOK P O I N c mc) : CodeOK P O I N (.loop c) (.loop keep mc) := by
 intro lk st st' y he r B n E a w Q hR hQ
 simp only [evC] at he
 refine wpIn_loop_rounds N ?_
 have key : ∀ (M : Nat) (st1 : MSt) (a1 : Act) (w1 : World) (E1 : Env), rounds (fun st' => evC O I N mc lk (headM keep st.h.length st')) M st1 = some (y, st') → Rel r B E1 st1 a1 w1 → Ext lk E w E1 w1 → Code.roundsIn (Fw r) n P c Q M a1 w1 := by
  intro M
  induction M with
  | zero => intro st1 a1 w1 E1 he; simp [rounds] at he
  | succ M ih =>
   intro st1 a1 w1 E1 he hR1 hx1
   simp only [rounds] at he
   obtain ⟨E2, hR2, hx2, -⟩ := head_ok hR1 hx1 (fun id hk => hR.heap.klt id hk) hR.heap.top keep
   rw [roundsIn_succ]
   split at he
   ·rename_i st2 he2
    exact h1 lk _ st2 .normal he2 r B n E2 a1 w1 _ hR2 fun a3 w3 E3 hR3 hx3 => ih st2 a3 w3 E3 he hR3 (hx2.trans hx3)
   ·rename_i hne
    cases y with
    | normal => exact absurd he (hne st')
    | exit id => exact h1 lk _ st' (.exit id) he r B n E2 a1 w1 _ hR2 fun a3 w3 E3 hR3 hx3 => hQ a3 w3 E3 hR3 (hx2.trans hx3)
    | ret => exact h1 lk _ st' .ret he r B n E2 a1 w1 _ hR2 fun a3 w3 E3 hR3 hx3 => hQ a3 w3 E3 hR3 (hx2.trans hx3)
 exact key N st a w E he hR (Ext.refl _ _ _)
theorem code_reg (hm : P.follows .mixedOrders = true) (hO : SoundO P O) (hA : AppO O) {id : Nat} {ops : Array Oper} {draw : Bool} {gl : List GO} (hg : ops.toList.mapM (compG P ops) = some gl) (hd : draw = true → drawOk ops gl = true) : CodeOK P O I N (.region id ops draw) (.reg gl) := by
 intro lk st st' y he r B n E a w Q hR hQ
 simp only [evC, Option.map_eq_some_iff, Prod.mk.injEq] at he
 obtain ⟨st1, he1, rfl, rfl⟩ := he
 have hQ' : ∀ a' w' E', Slots E' w' st1.s a' → HRel E' st1.h w' → Ext lk E w E' w' → a'.defers = a.defers → Q .normal a' w' := fun a' w' E' h1 h2 h3 h4 => hQ a' w' E' ⟨h1, h2, hR.mok.ext hR.heap h3 h4⟩ h3
 cases draw
 ·exact wpIn_region_list (evR_ok hO hg he1 hR.slots hR.heap hQ')
 ·exact draw_ok hm hO hA hg (hd rfl) he1 hR.slots hR.heap hQ'
theorem code_regV (hm : P.follows .mixedOrders = true) (hO : SoundO P O) (hA : AppO O) {id : Nat} {ops : Array Oper} {gl : List GO} (hg : ops.toList.mapM (compG P ops) = some gl) (hd : drawOk ops (virt ops gl) = true) : CodeOK P O I N (.region id ops true) (.reg (virt ops gl)) := by
 intro lk st st' y he r B n E a w Q hR hQ
 simp only [evC, Option.map_eq_some_iff, Prod.mk.injEq] at he
 obtain ⟨st1, he1, rfl, rfl⟩ := he
 have hQ' : ∀ a' w' E', Slots E' w' st1.s a' → HRel E' st1.h w' → Ext lk E w E' w' → a'.defers = a.defers → Q .normal a' w' := fun a' w' E' h1 h2 h3 h4 => hQ a' w' E' ⟨h1, h2, hR.mok.ext hR.heap h3 h4⟩ h3
 exact draw_okV hm hO hA (virt_len (by obtain ⟨hl, _⟩ := mapM_some hg; rw [← hl]; simp)) (virt_comp hg) hd he1 hR.slots hR.heap hQ'
theorem code_regH (hm : P.follows .mixedOrders = true) (hO : SoundO P O) (hA : AppO O) {id : Nat} {ops : Array Oper} {gl : List GO} (hg : ops.toList.mapM (compG P ops) = some gl) (hd : drawOk2 ops (hoist ops (virt ops gl)) (hoAt ops (virt ops gl)) = true) : CodeOK P O I N (.region id ops true) (.reg (newsL (ops.toList.zip (virt ops gl)) ++ (hoist ops (virt ops gl) ++ chks ops (hoist ops (virt ops gl))))) := by
 intro lk st st' y he r B n E a w Q hR hQ
 simp only [evC, Option.map_eq_some_iff, Prod.mk.injEq] at he
 obtain ⟨st1, he1, rfl, rfl⟩ := he
 have hQ' : ∀ a' w' E', Slots E' w' st1.s a' → HRel E' st1.h w' → Ext lk E w E' w' → a'.defers = a.defers → Q .normal a' w' := fun a' w' E' h1 h2 h3 h4 => hQ a' w' E' ⟨h1, h2, hR.mok.ext hR.heap h3 h4⟩ h3
 exact draw_okH hm hO hA (virt_len (by obtain ⟨hl, _⟩ := mapM_some hg; rw [← hl]; simp)) (virt_comp hg) hd he1 hR.slots hR.heap hQ'
end
end Go.Proofs.YtnmgpbihknjdjaaDoor
namespace Go.Proofs.YtnmgpbihknjdjaaDoor
open Go.RowKit
theorem V.ck {E : Env} {B : Nat} {w w' : World} (h : CKd B w w') {m : MV} {v : Value} (hv : V E w m v) : V E w' m v := by
 induction hv with
 | junk v => exact .junk v
 | yld => exact .yld
 | emp a => exact .emp a
 | lit v => exact .lit v
 | agg cs vs hl _ ih => exact .agg cs vs hl ih
 | tup cs vs hl _ ih => exact .tup cs vs hl ih
 | fn f k cs vs hl _ ih => exact .fn f k cs vs hl ih
 | sl es vs A cap sz hc hs hl _ hA ih =>
  refine .sl es vs A cap sz hc hs hl ih fun h0 => ?_
  obtain ⟨b, off, e, hb, hcell⟩ := hA h0
  exact ⟨b, off, e, hb, fun i v hi => h.cell (hcell i v hi)⟩
 | rp e off vs b o hl _ hb hcell ih => exact .rp e off vs b o hl ih hb fun i v hi => h.cell (hcell i v hi)
 | ptr id i off g b o hk hg hd => exact .ptr id i off g b o hk hg hd
 | arr id i n g A cap hk hg hd => exact .arr id i n g A cap hk hg hd
 | mp id g b hk hg hd => exact .mp id g b hk hg hd
 | rm es b ents ck l hl _ hp hs hb hh ih => exact .rm es b ents ck l hl ih hp hs hb (h.data _ _ hh rfl)
 | itr k v b ents ck since seen en _ _ hs hen hb hh hi ihk ihv => exact .itr k v b ents ck since seen en ihk ihv hs hen hb (h.data _ _ hh rfl) (h.data _ _ hi rfl)
theorem HRel.ck {E : Env} {B : Nat} {h : MHeap} {w w' : World} (hr : HRel E h w) (hc : CKd B w w') : HRel E h w' :=
 ⟨hr.klt, hr.top, fun id hk => by
  obtain ⟨es, a1, a2, a3, a4, a5⟩ := hr.obj id hk
  refine ⟨es, a1, a2, a3, a4, fun hcp => ?_⟩
  obtain ⟨arr, t, b1, b2, b3⟩ := a5 hcp
  refine ⟨arr, t, b1.ck hc, b2, fun k c hk => ?_⟩
  obtain ⟨v, c1, c2⟩ := b3 k c hk
  exact ⟨v, c1, c2.ck hc⟩, hr.inj, hr.sep, fun b hb => Nat.lt_of_lt_of_le (hr.slt b hb) hc.size, fun p hp => (hr.tab p hp).ck hc⟩
theorem Ext.ck {lk : Nat → Bool} {E0 E : Env} {w0 w w' : World} (hx : Ext lk E0 w0 E w) (hc : CKd w0.heap.size w w') : Ext lk E0 w0 E w' :=
 { hx with os := hc.os.trans hx.os, tape := hc.tape.trans hx.tape, output := hc.output.trans hx.output, size := Nat.le_trans hx.size hc.size, keep := fun k hk hn => (hc.low k hk (Nat.lt_of_lt_of_le hk hx.size)).trans (hx.keep k hk hn) }
theorem Slots.ck {E : Env} {B : Nat} {s : List MV} {a : Act} {w w' : World} (hs : Slots E w s a) (hc : CKd B w w') : Slots E w' s a := ⟨hs.1, fun i m v hm hv => (hs.2 i m v hm hv).ck hc⟩
theorem MkOk.putLoop {r : Option Nat} {B : Nat} {a : Act} {W : World} {l : Nat} {rec rec' : Loop} (hm : MkOk r B a W) (hl : W.heap[l]? = some (.loop rec)) : MkOk r B a (W.putObj l (.loop rec')) := by
 have hg := grownBy_putObj' W l (.loop rec')
 refine ⟨Nat.le_trans hm.1 hg.size, ?_⟩
 have := hm.2
 cases r with
 | none =>
  refine Marks.keep this fun D _ hD => (World.putObj_heap_other (fun e => ?_)).trans hD
  subst e
  rw [hl] at hD; cases hD
 | some l0 =>
  obtain ⟨h1, rec0, h2⟩ := this
  by_cases e : l0 = l
  ·subst e
   exact ⟨h1, _, World.putObj_heap_same (Array.getElem?_eq_some_iff.1 hl).1⟩
  ·exact ⟨h1, rec0, (World.putObj_heap_other e).trans h2⟩
theorem ck_putLoop {B : Nat} {W : World} {l : Nat} {rec : Loop} (rec' : Loop) (hl : W.heap[l]? = some (.loop rec)) (hB : B ≤ l) : CKd B W (W.putObj l (.loop rec')) := CKd.putObj W l _ _ hl rfl hB
def concV : MV → Value
 | .lit v => v
 | .agg cs => .agg (cs.map fun | .lit v => v | _ => undef).toArray
 | _ => undef
def MV.cl : MV → Bool
 | .lit _ => true
 | .agg cs => cs.all fun | .lit _ => true | _ => false
 | _ => false
theorem V.conc {E : Env} {w : World} {m : MV} (h : m.cl = true) : V E w m (concV m) := by
 cases m with
 | lit v => exact .lit v
 | agg cs =>
  refine .agg cs _ (by simp) fun i c v hc hv => ?_
  rw [List.getElem?_map, hc] at hv
  have := List.all_eq_true.1 h c (List.mem_of_getElem? hc)
  cases c <;> simp at this
  cases hv
  exact .lit _
 | _ => cases h
def IterK (P : Program) (g : Nat) (fst lb : Array Value) (encs : List (Array Value)) (S : Nat → Prop) (w : World) : Prop :=
 ∀ (l : Nat) (J : (Nat → Prop) → Nat → World → Prop) (Jx : World → Prop) (W : World), Below w.heap.size w W → (∀ T T' k A A', J T k A → Below A.heap.size A A' → (∀ b, T' b → T b ∨ A.heap.size ≤ b) → J T' k A') → (∀ A A', Jx A → Below A.heap.size A A' → Jx A') →
  (∀ (T : Nat → Prop) (k : Nat) (x : Array Value) (W1 : World), encs[k]? = some x → (∀ b, T b → b < W1.heap.size) → J T k W1 → YieldAt Fence.wide 0 P l x W1 fun e W' => ((e = .returned (.bool true) ∧ J T (k + 1) W') ∨ (e = .returned (.bool false) ∧ Jx W')) ∧ SameS S W1 W' ∧ SameS T W1 W') →
  J (fun _ => False) 0 W → CallsIn Fence.wide 0 P g (fst ++ #[.func (.yield l) #[] #[]] ++ lb) W fun e W' => (∃ v, e = .returned v) ∧ ((∃ T, J T encs.length W') ∨ Jx W')
def SoundI (P : Program) (I : Iter) : Prop := ∀ g q caps h xs, I g q caps h = some xs → hasBody P g = true ∧ (∀ x ∈ xs, ∀ m ∈ x, m.cl = true) ∧ ∀ E w vs, HRel E h w → Vs E w caps vs →
 ∃ S : Nat → Prop, (∀ k, S k → E.S k ∨ ∃ id, id ∈ caps.flatMap (MV.ids h 6) ∧ E.K id ∧ 0 < E.cp id ∧ E.ρ id = k) ∧ IterK P g (vs.take q).toArray (vs.drop q).toArray (xs.map fun x => (x.map concV).toArray) S w
theorem roundIn_n {P : Program} {l : Nat} {f : FuncId} {tmps : Array Value} {as_ body : Code} {w : World} {R : Ending → World → Prop} (n m : Nat) (h : RoundIn Fence.wide n P l f tmps as_ body w R) : RoundIn Fence.wide m P l f tmps as_ body w R :=
 ⟨h.1, fun c cs _ => h.2 c cs (room_wide _)⟩
theorem callsIn_n {P : Program} {f : FuncId} {args : Array Value} {w : World} {R : Ending → World → Prop} (r : Option Nat) (n m : Nat) (h : CallsIn Fence.wide n P f args w R) : CallsIn (Fw r) m P f args w R :=
 ⟨trivial, fun cs _ => h.2 cs (room_wide _)⟩
def RfSt (T : Nat → Prop) (lk : Nat → Bool) (r : Option Nat) (B : Nat) (E : Env) (w : World) (a1 : Act) (hh : MHeap) (W : World) : Prop := ∃ E', HRel E' hh W ∧ Ext lk E w E' W ∧ MkOk r B a1 W ∧ ∀ id, E'.K id → 0 < E'.cp id → ¬ T (E'.ρ id)
theorem overH_trace {f : List MV → MHeap → Option (MX2 × MHeap)} : ∀ {xs : List (List MV)} {h h' : MHeap} {y : MX2}, overH f xs h = some (y, h') →
  ∃ (m : Nat) (hs : Nat → MHeap), hs 0 = h ∧ m ≤ xs.length ∧ (∀ k x, k < m → xs[k]? = some x → f x (hs k) = some (.normal, hs (k + 1))) ∧ ((m = xs.length ∧ y = .normal ∧ h' = hs m) ∨ (m < xs.length ∧ y ≠ .normal ∧ ∀ x, xs[m]? = some x → f x (hs m) = some (y, h')))
 | [], h, h', y, he => by
  simp only [overH, Option.some.injEq, Prod.mk.injEq] at he
  obtain ⟨rfl, rfl⟩ := he
  exact ⟨0, fun _ => h, rfl, Nat.le_refl _, fun k x hk => absurd hk (by omega), .inl ⟨rfl, rfl, rfl⟩⟩
 | x :: xs, h, h', y, he => by
  simp only [overH] at he
  split at he
  ·rename_i h1 he1
   obtain ⟨m, hs, e0, em, ek, ee⟩ := overH_trace he
   refine ⟨m + 1, fun k => match k with | 0 => h | k + 1 => hs k, rfl, by simpa using em, fun k z hk hz => ?_, ?_⟩
   ·cases k with
    | zero => simp at hz; subst hz; simpa [e0] using he1
    | succ k => simp at hz; exact ek k z (by omega) hz
   ·rcases ee with ⟨e1, e2, e3⟩ | ⟨e1, e2, e3⟩
    ·exact .inl ⟨by simp [e1], e2, e3⟩
    ·exact .inr ⟨by simpa using e1, e2, fun z hz => by simp at hz; exact e3 z hz⟩
  ·rename_i hne
   refine ⟨0, fun _ => h, rfl, Nat.zero_le _, fun k x hk => absurd hk (by omega), .inr ⟨by simp, fun e => ?_, fun z hz => by simp at hz; subst hz; exact he⟩⟩
   subst e
   exact hne h' he
theorem putAll_slots {E : Env} {w : World} : ∀ {ps : List Nat} {s ms : List MV} {vs : List Value} {a : Act}, Slots E w s a → Vs E w ms vs → Slots E w (putAll s ps ms) ⟨(ps.zip vs).foldl (fun t p => t.setIfInBounds p.1 p.2) a.tmps, []⟩
 | [], s, ms, vs, a, hs, _ => by
  have : putAll s [] ms = s := by cases ms <;> rfl
  rw [this]; exact hs
 | p :: ps, s, [], vs, a, hs, hv => by
  have : vs = [] := by have := hv.1; cases vs <;> simp_all
  subst this
  exact hs
 | p :: ps, s, m :: ms, [], a, hs, hv => by have := hv.1; simp at this
 | p :: ps, s, m :: ms, v :: vs, a, hs, hv => by
  simp only [putAll, List.zip_cons_cons, List.foldl_cons]
  have h1 : Slots E w (s.set p m) ⟨a.tmps.setIfInBounds p v, []⟩ := hs.put (hv.2 0 m v rfl rfl) (some p)
  exact putAll_slots h1 ⟨by have := hv.1; simpa using this, fun i c u hc hu => hv.2 (i + 1) c u (by simpa using hc) (by simpa using hu)⟩
end Go.Proofs.YtnmgpbihknjdjaaDoor
namespace Go.Proofs.YtnmgpbihknjdjaaDoor
open Go.RowKit
def jumpOf : MX2 → Code
 | .exit id => .exit id
 | _ => .ret
section
variable {P : Program} {O : Oracle} {I : Iter} {N : Nat}
def AtRec (T : Nat → Prop) (l : Nat) (rec : Loop) (lk : Nat → Bool) (r : Option Nat) (B : Nat) (E : Env) (w : World) (a1 : Act) (hh : MHeap) (W : World) : Prop := W.heap[l]? = some (.loop rec) ∧ ¬ T l ∧ RfSt T lk r B E w a1 hh W
theorem AtRec.below {T T' : Nat → Prop} {l : Nat} {rec : Loop} {lk : Nat → Bool} {r : Option Nat} {B : Nat} {E : Env} {w : World} {a1 : Act} {hh : MHeap} {W W' : World} (h : AtRec T l rec lk r B E w a1 hh W) (hb : Below W.heap.size W W') (hT : ∀ b, T' b → T b ∨ W.heap.size ≤ b) : AtRec T' l rec lk r B E w a1 hh W' := by
 obtain ⟨hl, hTl, E', h1, h2, h3, h4⟩ := h
 have hlt := (Array.getElem?_eq_some_iff.1 hl).1
 have hck : ∀ B, CKd B W W' := fun B => CKd.of_below hb
 refine ⟨(hb.block l hlt).trans hl, fun h => ?_, E', h1.ck (hck 0), h2.ck (hck _), h3.ext h1 ((Ext.refl lk E' W).ck (hck _)) rfl, fun id hk hc h => ?_⟩
 ·rcases hT l h with h | h
  ·exact hTl h
  ·omega
 ·rcases hT _ h with h | h
  ·exact h4 id hk hc h
  ·have := h1.lt hk hc; omega
theorem AtRec.put {T : Nat → Prop} {l : Nat} {rec : Loop} {lk : Nat → Bool} {r : Option Nat} {B : Nat} {E : Env} {w : World} {a1 : Act} {hh : MHeap} {W : World} (h : AtRec T l rec lk r B E w a1 hh W) (hl : w.heap.size ≤ l) (rec' : Loop) : AtRec T l rec' lk r B E w a1 hh (W.putObj l (.loop rec')) := by
 obtain ⟨h0, hT, E', h1, h2, h3, h4⟩ := h
 have hck : CKd w.heap.size W (W.putObj l (.loop rec')) := ck_putLoop rec' h0 hl
 exact ⟨World.putObj_heap_same (Array.getElem?_eq_some_iff.1 h0).1, hT, E', h1.ck hck, h2.ck hck, h3.putLoop h0, h4⟩
theorem sameT_ext {lk : Nat → Bool} {T : Nat → Prop} {E1 E2 : Env} {W W' : World} (hx : Ext lk E1 W E2 W') (hT : ∀ b, T b → b < W.heap.size) (hn : ∀ id, E1.K id → 0 < E1.cp id → ¬ T (E1.ρ id)) : SameS T W W' ∧ ∀ id, E2.K id → 0 < E2.cp id → ¬ T (E2.ρ id) :=
 ⟨⟨hx.os, hx.tape, hx.output, hx.size, fun k hk => hx.keep k (hT k hk) fun id hid _ hc e => hn id hid hc (e ▸ hk)⟩, fun id hid hc h => by
  rcases hx.src id hid hc with ⟨h1, h2, h3⟩ | h1
  ·exact hn id h1 h2 (h3 ▸ h)
  ·have := hT _ h; omega⟩
theorem sameS_ext {lk : Nat → Bool} {S : Nat → Prop} {E E1 E2 : Env} {h0 h1 : MHeap} {w W W' : World} (hr0 : HRel E h0 w) (hr : HRel E1 h1 W) (hx1 : Ext lk E w E1 W) (hx : Ext lk E1 W E2 W') (hS : ∀ k, S k → E.S k ∨ ∃ id, lk id = true ∧ E.K id ∧ 0 < E.cp id ∧ E.ρ id = k) : SameS S W W' :=
 ⟨hx.os, hx.tape, hx.output, hx.size, fun k hk => by
  rcases hS k hk with h | ⟨id, hlk, hid, hc, rfl⟩
  ·exact hr.sblock hx (hx1.S k h)
  ·have hlt := hr0.lt hid hc
   obtain ⟨e1, e2, e3, e4, e5, e6⟩ := (hx1.old id hid).2 (hx1.lock id hid hlk)
   refine hx.keep _ (Nat.lt_of_lt_of_le hlt hx1.size) fun id2 hid2 hl2 hc2 e => ?_
   have : id2 = id := hr.inj id2 id hid2 (hx1.K id hid) hc2 (by rw [e3]; exact hc) (e.trans e1.symm)
   rw [this, hlk] at hl2
   cases hl2⟩
theorem code_rf (hI : SoundI P I) {keep : List Nat} {f : Operand} {f' : MX} {ps : Array Tmp} {ca cb : Code} {ma mb : MC} (hf : cX f = some f') (h1 : CodeOK P O I N ca ma) (h2 : CodeOK P O I N cb mb) :
  CodeOK P O I N (.rangeFunc f ps ca cb) (.rf keep f' ps.toList ma mb) := by
 intro lk st st' y he r B n E a w Q hR hQ
 simp only [evC] at he
 split at he
 case h_2 => cases he
 rename_i g q caps hfv
 split at he
 case h_2 => cases he
 rename_i xs hxs
 split at he
 case isFalse => cases he
 rename_i hlen
 rw [Option.map_eq_some_iff] at he
 obtain ⟨⟨y1, hh1⟩, he, heq⟩ := he
 simp only [Prod.mk.injEq] at heq
 obtain ⟨rfl, rfl⟩ := heq
 obtain ⟨hbody, hcl, hit⟩ := hI g q caps st.h xs hxs
 have hfa := hR.slots.x hf
 rw [hfv] at hfa
 generalize hfe : a.eval f = fv at hfa
 cases hfa with
 | fn _ _ _ vs hvl hvv =>
 obtain ⟨S, hS, hiter⟩ := hit E w vs hR.heap ⟨hvl, hvv⟩
 obtain ⟨m, hs, e0, em, ek, ee⟩ := overH_trace he
 obtain ⟨lk', hlk'⟩ : ∃ lk' : Nat → Bool, lk' = fun id => lk id || (caps.flatMap (MV.ids st.h 6)).contains id := ⟨_, rfl⟩
 rw [← hlk'] at ek ee
 have hlkm : ∀ {E2 : Env} {W : World}, Ext lk' E w E2 W → Ext lk E w E2 W := fun hx => hx.mono fun id _ h => by rw [hlk']; simp [h]
 have hS' : ∀ k, S k → E.S k ∨ ∃ id, lk' id = true ∧ E.K id ∧ 0 < E.cp id ∧ E.ρ id = k := fun k hk => by
  rcases hS k hk with h | ⟨id, h1, h2, h3, h4⟩
  ·exact .inl h
  ·exact .inr ⟨id, by rw [hlk']; show (lk id || _) = true; rw [Bool.or_eq_true]; exact .inr (List.contains_iff_mem.2 h1), h2, h3, h4⟩
 refine wpIn_rangeFunc ?_
 intro fn hfn
 have enter : ∃ (l : Nat) (mark : List Deferred) (W1 : World) (rec : LoopState → Option Code → Loop), (Instr.enterLoop fn a.tmps ps ca cb (Fw r).round).run P w = .ok (l, mark) W1 ∧ w.heap.size ≤ l ∧ l < W1.heap.size ∧ Below w.heap.size w W1 ∧
   (∀ s p, (rec s p).state = s ∧ (rec s p).pending = p ∧ (rec s p).fn = fn ∧ (rec s p).tmps = a.tmps ∧ (rec s p).params = ps ∧ (rec s p).assign = ca ∧ (rec s p).body = cb) ∧ (∀ s p s' p', { rec s p with state := s', pending := p' } = rec s' p') ∧ (∀ s p s', { rec s p with state := s' } = rec s' p) ∧
   W1.heap[l]? = some (.loop (rec .ready none)) ∧ MkOk r B { a with defers := mark ++ a.defers } W1 := by
  have hm := hR.mok
  cases r with
  | none =>
   refine ⟨w.heap.size + 1, [{ target := .collected w.heap.size, args := #[] }], _, fun s p => { state := s, pending := p, fn, tmps := a.tmps, params := ps, assign := ca, body := cb, defers := w.heap.size }, run_enterLoop_outer _ _ _ _ _, by omega, by simp, ((Below.refl _ w).alloc (Nat.le_refl _) _).alloc (by simp) _, fun s p => ⟨rfl, rfl, rfl, rfl, rfl, rfl, rfl⟩, fun _ _ _ _ => rfl, fun _ _ _ => rfl, ?_, ?_⟩
   ·have := World.alloc_heap_new (w.alloc (.deferred (some []))) (.loop { state := .ready, pending := none, fn, tmps := a.tmps, params := ps, assign := ca, body := cb, defers := w.heap.size })
    rwa [World.size_alloc] at this
   ·refine ⟨by have := hm.1; simp; omega, ?_⟩
    have hm2 : Marks B a.defers w := hm.2
    have old : ∀ D, ({ target := .collected D, args := #[] } : Deferred) ∈ a.defers → D < w.heap.size := fun D hD => (Array.getElem?_eq_some_iff.1 (hm2.at_ D hD).1).1
    refine ⟨⟨w.heap.size, rfl, hm.1, ?_, fun d' hd' e => ?_⟩, Marks.keep hm2 fun D hD hh => ?_⟩
    ·exact (Below.heap_alloc _ _ _ (by simp)).trans (World.alloc_heap_new w _)
    ·subst e
     have := old _ hd'
     omega
    ·exact (Below.heap_alloc _ _ _ (by have := old D hD; simp; omega)).trans ((Below.heap_alloc _ _ _ (old D hD)).trans hh)
  | some l0 =>
   obtain ⟨hm1, hm2, rec0, hm3⟩ := hm
   refine ⟨w.heap.size, [], _, fun s p => { state := s, pending := p, fn, tmps := a.tmps, params := ps, assign := ca, body := cb, defers := rec0.defers }, run_enterLoop_inner hm3 _ _ _ _ _, by omega, by simp, (Below.refl _ w).alloc (Nat.le_refl _) _, fun s p => ⟨rfl, rfl, rfl, rfl, rfl, rfl, rfl⟩, fun _ _ _ _ => rfl, fun _ _ _ => rfl, World.alloc_heap_new _ _, by simp; omega, by simpa using hm2, rec0, ?_⟩
   exact (Below.heap_alloc _ _ _ (Array.getElem?_eq_some_iff.1 hm3).1).trans hm3
 obtain ⟨l, mark, W1, rec, hent, hl0, hl1, hb1, hrec, hupd, hupd2, hrl, hmk⟩ := enter
 refine ⟨l, mark, W1, { target := .fn (.func g) (vs.drop q).toArray, args := (vs.take q).toArray ++ #[.func (.yield l) #[] #[]] }, W1, g, (vs.take q).toArray ++ #[.func (.yield l) #[] #[]] ++ (vs.drop q).toArray, W1, hent, ?_, fun _ _ => trivial, ?_, fun h => by simp [Fence.wide] at h, ?_⟩
 ·simp only [resolve, hfe]
  simp [go_sem]
 ·simp [invoke, hasBody_run hbody]
 have hx0 : Ext lk' E w E W1 := (Ext.refl lk' E w).ck (CKd.of_below hb1)
 have st0 : AtRec (fun _ => False) l (rec .ready none) lk' r B E w { a with defers := mark ++ a.defers } (hs 0) W1 := ⟨hrl, fun h => h, E, by rw [e0]; exact hR.heap.ck (B := 0) (CKd.of_below hb1), hx0, hmk, fun _ _ _ h => h⟩
 obtain ⟨a1, ha1⟩ : ∃ a1 : Act, a1 = { a with defers := mark ++ a.defers } := ⟨_, rfl⟩
 rw [← ha1] at st0 ⊢
 obtain ⟨cj, hcj⟩ : ∃ cj : Code, cj = jumpOf y1 := ⟨_, rfl⟩
 have hwW1 : w.heap.size ≤ W1.heap.size := hb1.size
 refine (callsIn_n r 0 (n - 1) (hiter l (fun T k W => k ≤ m ∧ AtRec T l (rec .ready none) lk' r B E w a1 (hs k) W) (fun W => y1 ≠ .normal ∧ AtRec (fun _ => False) l (rec .done (some cj)) lk' r B E w a1 hh1 W) W1 hb1
  (fun T T' k A A' hJ hg hT => ⟨hJ.1, hJ.2.below hg hT⟩) (fun A A' hJ hg => ⟨hJ.1, hJ.2.below hg fun b h => h.elim⟩) ?round ⟨Nat.zero_le _, st0⟩)).mono ?behind
 case behind =>
  rintro e W2 ⟨⟨v, rfl⟩, (⟨T, hm2, hat⟩ | ⟨hne, hat⟩)⟩
  ·-- all rounds
   rw [List.length_map] at hm2
   have hmx : m = xs.length := by omega
   have hfin : y1 = .normal ∧ hh1 = hs m := by
    rcases ee with ⟨_, b, c⟩ | ⟨a, _, _⟩
    ·exact ⟨b, c⟩
    ·omega
   obtain ⟨rfl, rfl⟩ := hfin
   refine ⟨none, W2.putObj l (.loop (rec .exhausted none)), ?_, ?_⟩
   ·have := run_endLoop (P := P) hat.1 (by rw [(hrec _ _).1]; simp)
    rw [hupd2, (hrec _ _).2.1] at this
    exact this
   ·have hat2 := hat.put hl0 (rec .exhausted none)
    obtain ⟨-, -, E', k1, k2, k3, -⟩ := hat2
    rw [List.length_map, ← hmx] at k1
    have hsl : Slots E' (W2.putObj l (.loop (rec .exhausted none))) st.s a1 := by
     rw [ha1]
     exact Slots.defers (ds := a.defers) (hR.slots.ext hR.heap k2)
    exact hQ a1 _ E' ⟨hsl, k1, k3⟩ (hlkm k2)
  ·refine ⟨some cj, W2.putObj l (.loop (rec .exhausted (some cj))), ?_, ?_⟩
   ·have := run_endLoop (P := P) hat.1 (by rw [(hrec _ _).1]; simp)
    rw [hupd2, (hrec _ _).2.1] at this
    exact this
   ·have hat2 := hat.put hl0 (rec .exhausted (some cj))
    obtain ⟨-, -, E', k1, k2, k3, -⟩ := hat2
    have hsl : Slots E' (W2.putObj l (.loop (rec .exhausted (some cj)))) st.s a1 := by
     rw [ha1]
     exact Slots.defers (ds := a.defers) (hR.slots.ext hR.heap k2)
    have hq := hQ a1 _ E' ⟨hsl, k1, k3⟩ (hlkm k2)
    cases y1 with
    | normal => exact absurd rfl hne
    | exit id =>
     obtain rfl : cj = .exit id := hcj
     exact wpIn_exit hq
    | ret =>
     obtain rfl : cj = .ret := hcj
     exact wpIn_ret hq
 case round =>
  rintro T k x W hx hTlt ⟨hkm, hrl, hTl, E1, hr1, hx1, hmk1, hTn⟩
  rw [List.getElem?_map, Option.map_eq_some_iff] at hx
  obtain ⟨ms, hms, rfl⟩ := hx
  have hkl := (List.getElem?_eq_some_iff.1 hms).1
  have hcx : Vs E1 W ms (ms.map concV) := ⟨by simp, fun i c v hc hv => by
   rw [List.getElem?_map, hc] at hv
   cases hv
   exact V.conc (hcl ms (List.mem_of_getElem? hms) c (List.mem_of_getElem? hc))⟩
  have hround : ∃ (y2 : MX2) (h2' : MHeap), (match evC O I N ma lk' ⟨putAll (headM keep st.h.length ⟨st.s, hs k⟩).s ps.toList ms, (headM keep st.h.length ⟨st.s, hs k⟩).h⟩ with
        | some (.normal, st2) => match evC O I N mb lk' st2 with
          | some (y, st3) => some (y, st3.h)
          | none => none
        | _ => none) = some (y2, h2') ∧ ((y2 = .normal ∧ k < m ∧ h2' = hs (k + 1)) ∨ (k = m ∧ y2 = y1 ∧ y1 ≠ .normal ∧ h2' = hh1)) := by
   by_cases hlt : k < m
   ·exact ⟨_, _, ek k ms hlt hms, .inl ⟨rfl, hlt, rfl⟩⟩
   ·have : k = m := by omega
    subst this
    rcases ee with ⟨a, _, _⟩ | ⟨_, b, c⟩
    ·omega
    ·exact ⟨_, _, c ms hms, .inr ⟨rfl, rfl, b, rfl⟩⟩
  obtain ⟨y2, h2', hev, hcase⟩ := hround
  split at hev
  case h_2 => cases hev
  rename_i st2 hea
  split at hev
  case h_2 => cases hev
  rename_i y3 st3 heb
  simp only [Option.some.injEq, Prod.mk.injEq] at hev
  obtain ⟨rfl, rfl⟩ := hev
  have hy := run_yield (P := P) (args := (ms.map concV).toArray) hrl (by
   rw [(hrec _ _).2.2.2.2.1]
   have := List.all_eq_true.1 hlen ms (List.mem_of_getElem? hms)
   simpa using this)
  rw [(hrec _ _).2.2.1, (hrec _ _).2.2.2.1, (hrec _ _).2.2.2.2.1, (hrec _ _).2.2.2.2.2.1, (hrec _ _).2.2.2.2.2.2] at hy
  refine ⟨fn, _, ca, cb, hy, roundIn_of_wpIn trivial ?_⟩
  clear hy
  have hR0 : Rel (some l) B E1 ⟨st.s, hs k⟩ ⟨a.tmps, []⟩ W := ⟨Slots.defers (ds := a.defers) (hR.slots.ext hR.heap hx1), hr1, hmk1.1, rfl, _, hrl⟩
  obtain ⟨E2, hR2, hx2, hsub⟩ := head_ok hR0 hx1 (fun id hk => hR.heap.klt id hk) hR.heap.top keep
  have hTn2 : ∀ id, E2.K id → 0 < E2.cp id → ¬ T (E2.ρ id) := fun id hk hc => by
   obtain ⟨b1, b2, b3⟩ := hsub id hk
   rw [b2]; exact hTn id b1 (b3 ▸ hc)
  have hcx2 : Vs E2 W ms (ms.map concV) := ⟨by simp, fun i c v hc hv => by
   rw [List.getElem?_map, hc] at hv
   cases hv
   exact V.conc (hcl ms (List.mem_of_getElem? hms) c (List.mem_of_getElem? hc))⟩
  have htm : (ps.zip (ms.map concV).toArray).foldl (fun (tmps : Array Value) (x : Tmp × Value) => tmps.setIfInBounds x.1 x.2) a.tmps = (ps.toList.zip (ms.map concV)).foldl (fun t p => t.setIfInBounds p.1 p.2) a.tmps := by
   rw [← Array.foldl_toList, Array.toList_zip]
  have hRa : Rel (some l) B E2 ⟨putAll (headM keep st.h.length ⟨st.s, hs k⟩).s ps.toList ms, (headM keep st.h.length ⟨st.s, hs k⟩).h⟩ ⟨(ps.zip (ms.map concV).toArray).foldl (fun (tmps : Array Value) (x : Tmp × Value) => tmps.setIfInBounds x.1 x.2) a.tmps, []⟩ W := by
   rw [htm]
   exact ⟨putAll_slots hR2.slots hcx2, hR2.heap, hR2.mok⟩
  refine h1 lk' _ st2 .normal hea (some l) B 0 E2 _ W _ hRa fun a3 W3 E3 hR3 hx3 => ?_
  have hl3 : W3.heap[l]? = some (.loop (rec .ready none)) := noCells_ext hR2.heap hx3 hrl rfl
  refine ⟨_, run_beginRound hl3 (hrec _ _).1, ?_⟩
  rw [hupd2]
  have hck3 : CKd w.heap.size W3 (W3.putObj l (.loop (rec .busy none))) := ck_putLoop _ hl3 hl0
  have hR4 : Rel (some l) B E3 st2 a3 (W3.putObj l (.loop (rec .busy none))) := ⟨hR3.slots.ck hck3, hR3.heap.ck hck3, hR3.mok.putLoop hl3⟩
  have hl4 : (W3.putObj l (.loop (rec .busy none))).heap[l]? = some (.loop (rec .busy none)) := World.putObj_heap_same (Array.getElem?_eq_some_iff.1 hl3).1
  refine h2 lk' st2 st3 y3 heb (some l) B 0 E3 a3 _ _ hR4 fun a5 W5 E5 hR5 hx5 => ?_
  have hl5 : W5.heap[l]? = some (.loop (rec .busy none)) := noCells_ext hR4.heap hx5 hl4 rfl
  have hxw3 : Ext lk' E w E3 W3 := hx2.trans hx3
  have hxw4 : Ext lk' E w E3 (W3.putObj l (.loop (rec .busy none))) := hxw3.ck hck3
  have hxw5 : Ext lk' E w E5 W5 := hxw4.trans hx5
  have hmk3 : MkOk r B a1 W3 := hmk1.ext hR2.heap hx3 rfl
  have hmk5 : MkOk r B a1 W5 := (hmk3.putLoop hl3).ext hR4.heap hx5 rfl
  obtain ⟨hT3, hTn3⟩ := sameT_ext hx3 hTlt hTn2
  have hTlt4 : ∀ b, T b → b < (W3.putObj l (.loop (rec .busy none))).heap.size := fun b hb => Nat.lt_of_lt_of_le (hTlt b hb) (Nat.le_trans hx3.size hck3.size)
  obtain ⟨hT5, hTn5⟩ := sameT_ext hx5 hTlt4 hTn3
  have tput : ∀ (W0 : World) (rc rc' : Loop), W0.heap[l]? = some (.loop rc) → SameS T W0 (W0.putObj l (.loop rc')) := fun W0 rc rc' h0 => by
   have hg := grownBy_putObj' W0 l (.loop rc')
   exact ⟨hg.os, hg.tape, hg.output, hg.size, fun k hk => World.putObj_heap_other fun e => hTl (e ▸ hk)⟩
  have hSame : ∀ rc', SameS T W (W5.putObj l (.loop rc')) := fun rc' => ((hT3.trans (tput W3 _ _ hl3)).trans hT5).trans (tput W5 _ _ hl5)
  have fin : ∀ (jump : Option Code), (Instr.endRound l jump).run P W5 = .ok (.bool jump.isNone) (W5.putObj l (.loop (rec (if jump.isNone then .ready else .done) jump))) ∧ AtRec T l (rec (if jump.isNone then .ready else .done) jump) lk' r B E w a1 st3.h (W5.putObj l (.loop (rec (if jump.isNone then .ready else .done) jump))) := fun jump => by
   have := run_endRound (P := P) jump hl5
   rw [hupd] at this
   have hat5 : AtRec T l (rec .busy none) lk' r B E w a1 st3.h W5 := ⟨hl5, hTl, E5, hR5.heap, hxw5, hmk5, hTn5⟩
   exact ⟨this, hat5.put hl0 _⟩
  have hSlt : ∀ q, S q → q < w.heap.size := fun q hq => by
   rcases hS' q hq with h | ⟨id, _, h2, h3, rfl⟩
   ·exact hR.heap.slt q h
   ·exact hR.heap.lt h2 h3
  have sput : ∀ (W0 : World) (rc rc' : Loop), W0.heap[l]? = some (.loop rc) → SameS S W0 (W0.putObj l (.loop rc')) := fun W0 rc rc' h0 =>
   SameS.putObj hSlt W0 l _ _ hl0 h0 rfl rfl
  have hSameS : ∀ rc', SameS S W (W5.putObj l (.loop rc')) := fun rc' => (((sameS_ext hR.heap hR2.heap hx2 hx3 hS').trans (sput W3 _ _ hl3)).trans (sameS_ext hR.heap hR4.heap hxw4 hx5 hS')).trans (sput W5 _ _ hl5)
  rcases hcase with ⟨rfl, hlt, e2⟩ | ⟨rfl, rfl, hne, e2⟩
  ·obtain ⟨f1, f2⟩ := fin none
   exact ⟨_, _, f1, .inl ⟨rfl, by omega, by rw [← e2]; exact f2⟩, hSameS _, hSame _⟩
  ·have hj : y3 ≠ .normal := hne
   have noT : ∀ {rc hh W0}, AtRec T l rc lk' r B E w a1 hh W0 → AtRec (fun _ => False) l rc lk' r B E w a1 hh W0 := fun h => h.below (Below.refl _ _) fun b h => h.elim
   cases y3 with
   | normal => exact absurd rfl hj
   | exit id =>
    obtain ⟨f1, f2⟩ := fin (some (.exit id))
    exact ⟨_, _, f1, .inr ⟨rfl, hne, by rw [hcj, ← e2]; exact noT f2⟩, hSameS _, hSame _⟩
   | ret =>
    obtain ⟨f1, f2⟩ := fin (some .ret)
    exact ⟨_, _, f1, .inr ⟨rfl, hne, by rw [hcj, ← e2]; exact noT f2⟩, hSameS _, hSame _⟩
end
end Go.Proofs.YtnmgpbihknjdjaaDoor

/- Cells that are given up: what is in them is read only. -/
namespace Go.Proofs.YtnmgpbihknjdjaaDoor
open Go.RowKit
set_option linter.unusedVariables false
theorem frz_cells {n : Nat} {imp : List Nat} {h : MHeap} {f : Nat} {e e' : MV} (he : frz n imp h f e = some e') : e'.cells.length = e.cells.length ∧ ∀ (i : Nat) c c', e.cells[i]? = some c → e'.cells[i]? = some c' → ∃ f', f' ≤ f ∧ frz n imp h f' c = some c' := by
 cases f with
 | zero => simp [frz] at he
 | succ f =>
  have one : ∀ {x x' : MV}, frz n imp h (f + 1) x = some x' → x.cells = [x] → x'.cells = [x'] → x'.cells.length = x.cells.length ∧ ∀ (i : Nat) c c', x.cells[i]? = some c → x'.cells[i]? = some c' → ∃ f', f' ≤ f + 1 ∧ frz n imp h f' c = some c' := by
   intro x x' hx h1 h2
   rw [h1, h2]
   refine ⟨rfl, fun i c c' hc hc' => ?_⟩
   cases i with
   | zero => simp at hc hc'; subst hc hc'; exact ⟨_, Nat.le_refl _, hx⟩
   | succ i => simp at hc
  have he0 := he
  simp only [frz] at he
  split at he
  ·rename_i hlt
   cases he
   refine ⟨rfl, fun i c c' hc hc' => ?_⟩
   rw [hc] at hc'; cases hc'
   exact ⟨f + 1, Nat.le_refl _, by simp [frz, lt_cells hlt i c hc]⟩
  ·split at he
   ·rw [Option.map_eq_some_iff] at he
    obtain ⟨cs', h1, rfl⟩ := he
    obtain ⟨h2, h3⟩ := mapM_some h1
    exact ⟨h2.symm, fun i c c' hc hc' => ⟨f, Nat.le_succ _, h3 i c c' hc hc'⟩⟩
   ·rw [Option.map_eq_some_iff] at he
    obtain ⟨cs', h1, rfl⟩ := he
    exact one he0 rfl rfl
   ·rw [Option.map_eq_some_iff] at he
    obtain ⟨cs', h1, rfl⟩ := he
    exact one he0 rfl rfl
   ·rw [Option.map_eq_some_iff] at he
    obtain ⟨cs', h1, rfl⟩ := he
    exact one he0 rfl rfl
   ·rw [Option.map_eq_some_iff] at he
    obtain ⟨cs', h1, rfl⟩ := he
    exact one he0 rfl rfl
   ·split at he
    ·cases he
    ·split at he
     ·split at he
      ·split at he
       ·split at he
        ·cases he; exact one he0 rfl rfl
        ·cases he
       ·cases he
      ·cases he
     ·cases he
   ·split at he
    ·cases he
    ·split at he
     ·split at he
      ·split at he
       ·split at he
        ·cases he; exact one he0 rfl rfl
        ·rw [Option.map_eq_some_iff] at he
         obtain ⟨_, _, rfl⟩ := he
         exact one he0 rfl rfl
       ·cases he
      ·cases he
     ·cases he
   ·split at he
    ·cases he
    ·split at he
     ·split at he
      ·split at he
       ·cases he; exact one he0 rfl rfl
       ·rw [Option.map_eq_some_iff] at he
        obtain ⟨_, _, rfl⟩ := he
        exact one he0 rfl rfl
      ·cases he
     ·cases he
   ·cases he; exact one he0 rfl rfl
   ·cases he
section
variable {E Es : Env} {W : World} {h : MHeap} {n : Nat} {imp : List Nat}
theorem frz_flatG {f : Nat} (ih : ∀ f', f' ≤ f → ∀ m m' v, V E W m v → frz n imp h f' m = some m' → V Es W m' v) {es es' : List MV} {vs : List Value} (hm : es.mapM (frz n imp h f) = some es') {sz : Nat} (hsz : ∀ e ∈ es, e.cells.length = sz) (hv : Vs E W (flat es) vs) :
  es'.length = es.length ∧ (∀ e ∈ es', e.cells.length = sz) ∧ Vs Es W (flat es') vs := by
 obtain ⟨h1, h2⟩ := mapM_some hm
 have hsz' : ∀ e ∈ es', e.cells.length = sz := fun e' he' => by
  obtain ⟨i, hi⟩ := List.getElem?_of_mem he'
  have hil : i < es.length := h1 ▸ (List.getElem?_eq_some_iff.1 hi).1
  have := h2 i es[i] e' (by simp) hi
  rw [(frz_cells this).1]
  exact hsz _ (List.getElem_mem _)
 refine ⟨h1.symm, hsz', by rw [flat_len hsz', ← h1, ← hv.1, flat_len hsz], fun k c' v hk hkv => ?_⟩
 obtain ⟨i, j, e', rfl, hj, he', hcj⟩ := (flat_iff hsz').1 hk
 have hil : i < es.length := h1 ▸ (List.getElem?_eq_some_iff.1 he').1
 have he : es[i]? = some es[i] := by simp
 have hfe := h2 i es[i] e' he he'
 have hjl : j < (es[i]).cells.length := by rw [hsz _ (List.getElem_mem _)]; exact hj
 have hc : (es[i]).cells[j]? = some (es[i]).cells[j] := by simp
 obtain ⟨f', hf', hfc⟩ := (frz_cells hfe).2 j _ c' hc hcj
 exact ih f' hf' _ _ _ (hv.2 _ _ v ((flat_iff hsz).2 ⟨i, j, es[i], rfl, hj, he, hc⟩) hkv) hfc
theorem frz_okG (hr : HRel E h W) (hVs : ∀ m v, V E W m v → m.lt n = true → V Es W m v) (hS1 : ∀ b, E.S b → Es.S b) (hSs : ∀ id, E.K id → n ≤ id → id ∉ imp → 0 < E.cp id → Es.S (E.ρ id)) : ∀ f m m' v, V E W m v → frz n imp h f m = some m' → V Es W m' v := by
 intro f
 induction f using Nat.strongRecOn with
 | _ f ih =>
  intro m m' v hv he
  cases f with
  | zero => simp [frz] at he
  | succ f =>
   have list : ∀ {cs cs' : List MV} {vs : List Value}, cs.mapM (frz n imp h f) = some cs' → cs.length = vs.length → (∀ (i : Nat) c v, cs[i]? = some c → vs[i]? = some v → V E W c v) → cs'.length = vs.length ∧ ∀ (i : Nat) c v, cs'[i]? = some c → vs[i]? = some v → V Es W c v := by
    intro cs cs' vs hm hl hc
    obtain ⟨h1, h2⟩ := mapM_some hm
    refine ⟨h1 ▸ hl, fun i c v hi hiv => ?_⟩
    have hil : i < cs.length := h1 ▸ (List.getElem?_eq_some_iff.1 hi).1
    have hci : cs[i]? = some cs[i] := by simp
    exact ih f (Nat.lt_succ_self _) _ _ _ (hc i _ v hci hiv) (h2 i _ c hci hi)
   simp only [frz] at he
   split at he
   ·rename_i hlt
    cases he
    exact hVs _ _ hv hlt
   ·rename_i hnlt
    split at he
    ·rw [Option.map_eq_some_iff] at he
     obtain ⟨cs', h1, rfl⟩ := he
     cases hv with
     | agg _ vs hl hc =>
      obtain ⟨a, b⟩ := list h1 hl hc
      exact .agg _ _ a b
    ·rw [Option.map_eq_some_iff] at he
     obtain ⟨cs', h1, rfl⟩ := he
     cases hv with
     | tup _ vs hl hc =>
      obtain ⟨a, b⟩ := list h1 hl hc
      exact .tup _ _ a b
    ·rw [Option.map_eq_some_iff] at he
     obtain ⟨cs', h1, rfl⟩ := he
     cases hv with
     | fn _ _ _ vs hl hc =>
      obtain ⟨a, b⟩ := list h1 hl hc
      exact .fn _ _ _ _ a b
    ·rw [Option.map_eq_some_iff] at he
     obtain ⟨e', h1, rfl⟩ := he
     rename_i e off
     cases hv with
     | rp _ _ vs b o hl hc hb hcell =>
      obtain ⟨k1, k2⟩ := frz_cells h1
      refine .rp _ _ vs _ _ (by rw [k1, hl]) (fun i c' v hc' hv' => ?_) (hS1 b hb) hcell
      have hil : i < e.cells.length := k1 ▸ (List.getElem?_eq_some_iff.1 hc').1
      have hci : e.cells[i]? = some e.cells[i] := by simp
      obtain ⟨f', hf', hfc⟩ := k2 i _ c' hci hc'
      exact ih f' (by omega) _ _ _ (hc i _ v hci hv') hfc
    ·rw [Option.map_eq_some_iff] at he
     obtain ⟨es', h1, rfl⟩ := he
     cases hv with
     | sl _ vs A cap sz hc hsz hl hv hA =>
      obtain ⟨k1, k2, k3⟩ := frz_flatG (f := f) (fun f' hf' => ih f' (by omega)) h1 hsz ⟨hl, hv⟩
      have := V.sl (E := Es) (w := W) es' vs A cap sz (by rw [k1]; exact hc) k2 k3.1 k3.2 (fun h0 => by
       obtain ⟨b, off, q1, q2, q3⟩ := hA (by rw [← k1]; exact h0)
       exact ⟨b, off, q1, hS1 b q2, q3⟩)
      rwa [k1] at this
    ·split at he
     ·cases he
     ·rename_i id g himp
      split at he
      case h_2 => cases he
      rename_i ob hob
      split at he
      case isFalse => cases he
      rename_i hog
      split at he
      case h_2 => cases he
      rename_i es hes
      split at he
      case isFalse => cases he
      rename_i hle
      cases he
      have hge : n ≤ id := by simpa [MV.lt] using hnlt
      have hen : (MV.mp id g).ents h = some es := by simp [MV.ents, hob, hog, hes]
      obtain ⟨b, ents, ck, l, rfl, hb, hpm, hst, hE⟩ := hv.mapOf hr hen
      cases hv with
      | mp _ _ _ hk hg hd =>
       obtain ⟨rfl, d2, d3⟩ := hd (hr.gnOf hk hob hog.1).1
       have hS : Es.S (E.ρ id) := hSs id hk hge (by simpa using himp) d3
       exact EntV.rm ⟨hE.1, fun i c e hc he => hVs _ _ (hE.2 i c e hc he) (ltL_at hle i c hc)⟩ hpm hst hS hb
    ·split at he
     ·cases he
     ·rename_i id i off g himp
      split at he
      case h_2 => cases he
      rename_i ob hob
      split at he
      case isFalse => cases he
      rename_i hog
      split at he
      case h_2 => cases he
      rename_i e hel
      have hge : n ≤ id := by simpa [MV.lt] using hnlt
      cases hv with
      | ptr _ _ _ _ b o hk hg hd =>
       obtain ⟨rfl, rfl, _, hnl⟩ := hd (hr.gnOf hk hob hog).1
       obtain ⟨c1, c2, c3, c4, c5, vs, c6, c7⟩ := hr.elem hk hnl hob hog hel
       have hS : Es.S (E.ρ id) := hSs id hk hge (by simpa using himp) c5
       split at he
       ·rename_i hlt
        cases he
        exact .rp _ _ vs _ _ c6.1 (fun i c v hc hv => hVs _ _ (c6.2 i c v hc hv) (lt_cells hlt i c hc)) hS c7
       ·rw [Option.map_eq_some_iff] at he
        obtain ⟨e', h1, rfl⟩ := he
        obtain ⟨k1, k2⟩ := frz_cells h1
        refine .rp _ _ vs _ _ (by rw [k1, c6.1]) (fun i c' v hc hv => ?_) hS c7
        have hil : i < e.cells.length := k1 ▸ (List.getElem?_eq_some_iff.1 hc).1
        have hci : e.cells[i]? = some e.cells[i] := by simp
        obtain ⟨f', hf', hfc⟩ := k2 i _ c' hci hc
        exact ih f' (by omega) _ _ _ (c6.2 i _ v hci hv) hfc
    ·split at he
     ·cases he
     ·rename_i id i k g himp
      split at he
      case h_2 => cases he
      rename_i ob hob
      split at he
      case isFalse => cases he
      rename_i hog
      have hge : n ≤ id := by simpa [MV.lt] using hnlt
      have hel : MV.elems h (.arr id i k g) = some ((ob.es.drop i).take k) := by simp [MV.elems, hob, hog]
      have hv0 := hv
      cases hv with
      | arr _ _ _ _ A cap hk hg hd =>
       obtain ⟨es, a1, a2, a3, a4, a5⟩ := hr.obj id hk
       rw [hob] at a1
       simp only [Option.some.injEq] at a1
       subst a1
       dsimp only at hog hel he
       obtain ⟨d1, d2, d3, d4, d5⟩ := hd hog.1
       have hsub : ∀ e ∈ (es.drop i).take k, e.cells.length = E.sz id := fun e he => a3 e (List.mem_of_mem_drop (List.mem_of_mem_take he))
       obtain ⟨A', cap', vs, e1, e2, e3⟩ := hv0.elems hr hel hsub
       have hlen : ((es.drop i).take k).length = k := by simp; omega
       simp only [Value.slice.injEq] at e1
       obtain ⟨rfl, -, rfl⟩ := e1
       have hA : 0 < k → ∃ b off, A = some ⟨b, off, none⟩ ∧ Es.S b ∧ ∀ (i : Nat) v, vs[i]? = some v → W.cell? ⟨b, off + i, none⟩ = some v := fun h0 => by
        obtain ⟨b, off, rfl, hcell⟩ := e3 (by omega)
        obtain ⟨h1, h2⟩ := d5 (by omega)
        simp only [Option.some.injEq, Addr.mk.injEq, and_true] at h1
        obtain ⟨rfl, rfl⟩ := h1
        exact ⟨_, _, rfl, hSs id hk hge (by simpa using himp) (by omega), hcell⟩
       split at he
       ·rename_i hlt
        cases he
        have hls : ltL n ((es.drop i).take k) = true := by
         have : ∀ l : List MV, (∀ x ∈ l, x.lt n = true) → ltL n l = true := fun l => by
          induction l with
          | nil => simp [ltL]
          | cons x l ihl => intro hx; simp only [ltL, Bool.and_eq_true]; exact ⟨hx x (by simp), ihl fun y hy => hx y (by simp [hy])⟩
         refine this _ fun x hx => ?_
         obtain ⟨j, hj⟩ := List.getElem?_of_mem (List.mem_of_mem_drop (List.mem_of_mem_take hx))
         exact ltL_at hlt j x hj
        have := V.sl (E := Es) (w := W) ((es.drop i).take k) vs A cap (E.sz id) (by rw [hlen]; exact d2) hsub e2.1 (fun j c v hc hv => hVs _ _ (e2.2 j c v hc hv) (lt_flat hls j c hc)) (by rw [hlen]; exact hA)
        rwa [hlen] at this
       ·rw [Option.map_eq_some_iff] at he
        obtain ⟨es', h1, rfl⟩ := he
        obtain ⟨k1, k2, k3⟩ := frz_flatG (f := f) (fun f' hf' => ih f' (by omega)) h1 hsub e2
        rw [hlen] at k1
        have := V.sl (E := Es) (w := W) es' vs A cap (E.sz id) (by rw [k1]; exact d2) k2 k3.1 k3.2 (by rw [k1]; exact hA)
        rwa [k1] at this
    ·cases he
     cases hv with
     | emp ad => exact .sl [] [] (some ad) 0 0 (Nat.le_refl _) (fun e he => by cases he) rfl (fun i c v hc => by simp [flat] at hc) fun h0 => absurd h0 (by simp)
    ·cases he
end
theorem seal_ok {lk : Nat → Bool} {E : Env} {h h' : MHeap} {w : World} {m : MV} {val : Value} (hr : HRel E h w) (hv : V E w m val) (he : sealH lk h m = some h') : ∃ E', HRel E' h' w ∧ Ext lk E w E' w := by
 unfold sealH at he
 split at he
 case h_2 => cases he
 rename_i id i off g
 split at he
 case h_2 => cases he
 rename_i o ho
 split at he
 case h_2 => cases he
 rename_i es' hes
 split at he
 case isFalse => cases he
 rename_i hc
 simp only [Option.some.injEq] at he
 subst he
 generalize hids : o.es.flatMap (MV.ids h 6) = ids at hes hc ⊢
 simp only [Bool.and_eq_true, List.all_eq_true, Bool.not_eq_true', bne_iff_ne, ne_eq] at hc
 obtain ⟨hc1, hc2⟩ := hc
 have hid : id ∉ ids := fun hm => (hc1 id hm).2 rfl
 have hkid : E.K id := by
  cases hv with
  | ptr _ _ _ _ b o hk hg hd => exact hk
 obtain ⟨E', hE'⟩ : ∃ E' : Env, E' = { E with S := fun b => E.S b ∨ ∃ j, j ∈ ids ∧ E.K j ∧ 0 < E.cp j ∧ E.ρ j = b, gn := fun j => if j ∈ ids then E.gn j + 1 else E.gn j, cp := fun j => if j ∈ ids then 0 else E.cp j, bo := fun j => if j ∈ ids then 0 else E.bo j, ln := fun j => if j ∈ ids then 0 else E.ln j } := ⟨_, rfl⟩
 have eS : ∀ b, E'.S b ↔ E.S b ∨ ∃ j, j ∈ ids ∧ E.K j ∧ 0 < E.cp j ∧ E.ρ j = b := fun b => by rw [hE']
 have eK : ∀ j, E'.K j ↔ E.K j := fun j => by rw [hE']
 have eρ : E'.ρ = E.ρ := by rw [hE']
 have esz : E'.sz = E.sz := by rw [hE']
 have enl : E'.nl = E.nl := by rw [hE']
 have ein : ∀ j, j ∈ ids → E'.gn j = E.gn j + 1 ∧ E'.cp j = 0 ∧ E'.bo j = 0 ∧ E'.ln j = 0 := fun j hj => by rw [hE']; simp [hj]
 have eout : ∀ j, j ∉ ids → E'.gn j = E.gn j ∧ E'.cp j = E.cp j ∧ E'.bo j = E.bo j ∧ E'.ln j = E.ln j := fun j hj => by rw [hE']; simp [hj]
 have et : E'.top = E.top := by rw [hE']
 have ey : E'.yl = E.yl := by rw [hE']
 have hx : Ext lk E w E' w := by
  refine ⟨rfl, rfl, rfl, Nat.le_refl _, fun _ _ _ => rfl, fun b hb => (eS b).2 (.inl hb), fun j hj => (eK j).2 hj, fun j hj => ?_, fun j hj hl => ?_, fun j hj hp => ?_, et, fun j hj => .inl ((eK j).1 hj), ey, fun b hb => ?_⟩
  ·by_cases hm : j ∈ ids
   ·obtain ⟨a1, a2, a3, a4⟩ := ein j hm
    exact ⟨by omega, fun e => by omega⟩
   ·obtain ⟨a1, a2, a3, a4⟩ := eout j hm
    exact ⟨by omega, fun _ => ⟨by rw [eρ], a3, a2, by rw [esz], a4, by rw [enl]⟩⟩
  ·by_cases hm : j ∈ ids
   ·have := (hc1 j hm).1
    rw [this] at hl; cases hl
   ·exact (eout j hm).1
  ·by_cases hm : j ∈ ids
   ·rw [(ein j hm).2.1] at hp; omega
   ·exact .inl ⟨(eK j).1 hj, by rw [(eout j hm).2.1] at hp; exact hp, by rw [eρ]⟩
  ·rcases (eS b).1 hb with hb | ⟨j, _, h1, h2, h3⟩
   ·exact .inl hb
   ·exact .inr (.inl ⟨j, h1, h2, h3⟩)
 have hlen : ∀ (f : Nat → MObj → MObj) (p : MObj), ((h.mapIdx f).set id p).length = h.length := fun f p => by simp
 have hat : ∀ (j : Nat) (p q : MObj), j ≠ id → h[j]? = some p → ((h.mapIdx fun i p => if ids.contains i then ⟨p.g + 1, p.nl, p.sz, []⟩ else p).set id q)[j]? = some (if ids.contains j then ⟨p.g + 1, p.nl, p.sz, []⟩ else p) := fun j p q hj hp => by
  rw [List.getElem?_set_ne (by omega), List.getElem?_mapIdx, hp]; rfl
 have hfr : ∀ f c c' v, V E w c v → frz 0 (id :: (List.range h.length).filter fun i => !ids.contains i) h f c = some c' → V E' w c' v := fun f c c' v hcv hf => by
  refine frz_okG (Es := E') hr (fun m v hv _ => V.ext hr hx hv) (fun b hb => (eS b).2 (.inl hb)) (fun j hk _ hni hp => (eS _).2 (.inr ⟨j, ?_, hk, hp, rfl⟩)) f c c' v hcv hf
  simp only [List.mem_cons, List.mem_filter, List.mem_range, not_or, not_and, Bool.not_eq_true', Bool.not_eq_false] at hni
  have := hni.2 (hr.klt j hk)
  simpa using this
 refine ⟨E', ⟨fun j hj => by rw [hlen]; exact hr.klt j ((eK j).1 hj), by rw [hlen, et]; exact hr.top, fun j hj => ?_, fun j j' hj hj' hp hp' e => ?_, fun j hj hp hs => ?_, fun b hb => ?_, fun p hp => (hr.tab p hp).ext hr hx⟩, hx⟩
 ·obtain ⟨es, a1, a2, a3, a4, a5⟩ := hr.obj j ((eK j).1 hj)
  by_cases e : j = id
  ·subst e
   obtain ⟨b1, b2, b3, b4⟩ := eout j hid
   rw [ho] at a1
   simp only [Option.some.injEq] at a1
   subst a1
   dsimp only at hes ⊢
   obtain ⟨m1, m2⟩ := mapM_some hes
   have hsz' : ∀ e ∈ es', e.cells.length = E.sz j := fun e' he' => by
    obtain ⟨q, hq⟩ := List.getElem?_of_mem he'
    have hql : q < es.length := m1 ▸ (List.getElem?_eq_some_iff.1 hq).1
    have := m2 q es[q] e' (by simp) hq
    rw [(frz_cells this).1]
    exact a3 _ (List.getElem_mem _)
   refine ⟨es', ?_, by rw [b4, a2, m1], by rw [esz]; exact hsz', by rw [b3, b2, ← m1]; exact a4, fun hp => ?_⟩
   ·rw [List.getElem?_set_self (by simp; exact hr.klt j hkid), b1, enl, esz]
   ·rw [b2] at hp
    obtain ⟨arr, t, c1, c2, c3⟩ := a5 hp
    rw [eρ, b2, esz, b3, enl]
    refine ⟨arr, t, c1, c2, fun k c' hk => ?_⟩
    obtain ⟨q, r, e', rfl, hj2, he', hcj⟩ := (flat_iff hsz').1 hk
    have hql : q < es.length := m1 ▸ (List.getElem?_eq_some_iff.1 he').1
    have hqe : es[q]? = some es[q] := by simp
    have hfe := m2 q es[q] e' hqe he'
    have hjl : r < (es[q]).cells.length := by rw [a3 _ (List.getElem_mem _)]; exact hj2
    have hcc : (es[q]).cells[r]? = some (es[q]).cells[r] := by simp
    obtain ⟨f', hf', hfc⟩ := (frz_cells hfe).2 r _ c' hcc hcj
    obtain ⟨v, d1, d2⟩ := c3 _ _ ((flat_iff a3).2 ⟨q, r, es[q], rfl, hj2, hqe, hcc⟩)
    exact ⟨v, d1, hfr f' _ _ v d2 hfc⟩
  ·by_cases hm : j ∈ ids
   ·obtain ⟨b1, b2, b3, b4⟩ := ein j hm
    refine ⟨[], ?_, by rw [b4]; rfl, by simp, by rw [b3, b2]; simp, fun hp => by rw [b2] at hp; omega⟩
    rw [hat j _ _ e a1, b1, enl, esz]
    simp [hm]
   ·obtain ⟨b1, b2, b3, b4⟩ := eout j hm
    refine ⟨es, ?_, by rw [b4, a2], by rw [esz]; exact a3, by rw [b3, b2]; exact a4, fun hp => ?_⟩
    ·rw [hat j _ _ e a1, b1, enl, esz]
     simp [hm]
    ·rw [b2] at hp
     obtain ⟨arr, t, c1, c2, c3⟩ := a5 hp
     rw [eρ, b2, esz, b3, enl]
     exact ⟨arr, t, c1, c2, fun k c hk => by obtain ⟨v, d1, d2⟩ := c3 k c hk; exact ⟨v, d1, V.ext hr hx d2⟩⟩
 ·have h1 : j ∉ ids := fun hm => by rw [(ein j hm).2.1] at hp; omega
  have h2 : j' ∉ ids := fun hm => by rw [(ein j' hm).2.1] at hp'; omega
  rw [(eout j h1).2.1] at hp
  rw [(eout j' h2).2.1] at hp'
  rw [eρ] at e
  exact hr.inj j j' ((eK j).1 hj) ((eK j').1 hj') hp hp' e
 ·have h1 : j ∉ ids := fun hm => by rw [(ein j hm).2.1] at hp; omega
  rw [(eout j h1).2.1] at hp
  rw [eρ] at hs
  rcases (eS _).1 hs with hs | ⟨j', hm, hk', hp', e⟩
  ·exact hr.sep j ((eK j).1 hj) hp hs
  ·have := hr.inj j' j hk' ((eK j).1 hj) hp' hp e
   subst this
   exact h1 hm
 ·rcases (eS b).1 hb with hb | ⟨j, hm, hk, hp, rfl⟩
  ·exact hr.slt b hb
  ·obtain ⟨es, a1, a2, a3, a4, a5⟩ := hr.obj j hk
   obtain ⟨arr, t, c1, c2, c3⟩ := a5 hp
   obtain ⟨x, c4⟩ := c1.some
   exact (Array.getElem?_eq_some_iff.1 c4).1
theorem giveV_ok {lk : Nat → Bool} {E : Env} {h : MHeap} {r : MV × MHeap} {w : World} {m : MV} {val : Value} (hr : HRel E h w) (hv : V E w m val) (he : giveV lk h m = some r) : ∃ E', HRel E' r.2 w ∧ Ext lk E w E' w ∧ V E' w r.1 val := by
 unfold giveV at he
 split at he
 case h_2 => cases he
 rename_i m' hes
 split at he
 case isFalse => cases he
 rename_i hc
 simp only [Option.some.injEq] at he
 subst he
 dsimp only
 generalize hids : m.ids h 6 = ids at hes hc ⊢
 simp only [List.all_eq_true, Bool.not_eq_true'] at hc
 obtain ⟨E', hE'⟩ : ∃ E' : Env, E' = { E with S := fun b => E.S b ∨ ∃ j, j ∈ ids ∧ E.K j ∧ 0 < E.cp j ∧ E.ρ j = b, gn := fun j => if j ∈ ids then E.gn j + 1 else E.gn j, cp := fun j => if j ∈ ids then 0 else E.cp j, bo := fun j => if j ∈ ids then 0 else E.bo j, ln := fun j => if j ∈ ids then 0 else E.ln j } := ⟨_, rfl⟩
 have eS : ∀ b, E'.S b ↔ E.S b ∨ ∃ j, j ∈ ids ∧ E.K j ∧ 0 < E.cp j ∧ E.ρ j = b := fun b => by rw [hE']
 have eK : ∀ j, E'.K j ↔ E.K j := fun j => by rw [hE']
 have eρ : E'.ρ = E.ρ := by rw [hE']
 have esz : E'.sz = E.sz := by rw [hE']
 have enl : E'.nl = E.nl := by rw [hE']
 have ein : ∀ j, j ∈ ids → E'.gn j = E.gn j + 1 ∧ E'.cp j = 0 ∧ E'.bo j = 0 ∧ E'.ln j = 0 := fun j hj => by rw [hE']; simp [hj]
 have eout : ∀ j, j ∉ ids → E'.gn j = E.gn j ∧ E'.cp j = E.cp j ∧ E'.bo j = E.bo j ∧ E'.ln j = E.ln j := fun j hj => by rw [hE']; simp [hj]
 have et : E'.top = E.top := by rw [hE']
 have ey : E'.yl = E.yl := by rw [hE']
 have hx : Ext lk E w E' w := by
  refine ⟨rfl, rfl, rfl, Nat.le_refl _, fun _ _ _ => rfl, fun b hb => (eS b).2 (.inl hb), fun j hj => (eK j).2 hj, fun j hj => ?_, fun j hj hl => ?_, fun j hj hp => ?_, et, fun j hj => .inl ((eK j).1 hj), ey, fun b hb => ?_⟩
  ·by_cases hm : j ∈ ids
   ·obtain ⟨a1, a2, a3, a4⟩ := ein j hm
    exact ⟨by omega, fun e => by omega⟩
   ·obtain ⟨a1, a2, a3, a4⟩ := eout j hm
    exact ⟨by omega, fun _ => ⟨by rw [eρ], a3, a2, by rw [esz], a4, by rw [enl]⟩⟩
  ·by_cases hm : j ∈ ids
   ·have := hc j hm
    rw [this] at hl; cases hl
   ·exact (eout j hm).1
  ·by_cases hm : j ∈ ids
   ·rw [(ein j hm).2.1] at hp; omega
   ·exact .inl ⟨(eK j).1 hj, by rw [(eout j hm).2.1] at hp; exact hp, by rw [eρ]⟩
  ·rcases (eS b).1 hb with hb | ⟨j, _, h1, h2, h3⟩
   ·exact .inl hb
   ·exact .inr (.inl ⟨j, h1, h2, h3⟩)
 have hat : ∀ (j : Nat) (p : MObj), h[j]? = some p → (h.mapIdx fun i p => if ids.contains i then (⟨p.g + 1, p.nl, p.sz, []⟩ : MObj) else p)[j]? = some (if ids.contains j then ⟨p.g + 1, p.nl, p.sz, []⟩ else p) := fun j p hp => by
  rw [List.getElem?_mapIdx, hp]; rfl
 have hfr : ∀ f c c' v, V E w c v → frz 0 ((List.range h.length).filter fun i => !ids.contains i) h f c = some c' → V E' w c' v := fun f c c' v hcv hf => by
  refine frz_okG (Es := E') hr (fun m v hv _ => V.ext hr hx hv) (fun b hb => (eS b).2 (.inl hb)) (fun j hk _ hni hp => (eS _).2 (.inr ⟨j, ?_, hk, hp, rfl⟩)) f c c' v hcv hf
  simp only [List.mem_filter, List.mem_range, not_and, Bool.not_eq_true', Bool.not_eq_false] at hni
  have := hni (hr.klt j hk)
  simpa using this
 refine ⟨E', ⟨fun j hj => by rw [List.length_mapIdx]; exact hr.klt j ((eK j).1 hj), by rw [List.length_mapIdx, et]; exact hr.top, fun j hj => ?_, fun j j' hj hj' hp hp' e => ?_, fun j hj hp hs => ?_, fun b hb => ?_, fun p hp => (hr.tab p hp).ext hr hx⟩, hx, hfr 8 _ _ _ hv hes⟩
 ·obtain ⟨es, a1, a2, a3, a4, a5⟩ := hr.obj j ((eK j).1 hj)
  by_cases hm : j ∈ ids
  ·obtain ⟨b1, b2, b3, b4⟩ := ein j hm
   refine ⟨[], ?_, by rw [b4]; rfl, by simp, by rw [b3, b2]; simp, fun hp => by rw [b2] at hp; omega⟩
   rw [hat j _ a1, b1, enl, esz]
   simp [hm]
  ·obtain ⟨b1, b2, b3, b4⟩ := eout j hm
   refine ⟨es, ?_, by rw [b4, a2], by rw [esz]; exact a3, by rw [b3, b2]; exact a4, fun hp => ?_⟩
   ·rw [hat j _ a1, b1, enl, esz]
    simp [hm]
   ·rw [b2] at hp
    obtain ⟨arr, t, c1, c2, c3⟩ := a5 hp
    rw [eρ, b2, esz, b3, enl]
    exact ⟨arr, t, c1, c2, fun k c hk => by obtain ⟨v, d1, d2⟩ := c3 k c hk; exact ⟨v, d1, V.ext hr hx d2⟩⟩
 ·have h1 : j ∉ ids := fun hm => by rw [(ein j hm).2.1] at hp; omega
  have h2 : j' ∉ ids := fun hm => by rw [(ein j' hm).2.1] at hp'; omega
  rw [(eout j h1).2.1] at hp
  rw [(eout j' h2).2.1] at hp'
  rw [eρ] at e
  exact hr.inj j j' ((eK j).1 hj) ((eK j').1 hj') hp hp' e
 ·have h1 : j ∉ ids := fun hm => by rw [(ein j hm).2.1] at hp; omega
  rw [(eout j h1).2.1] at hp
  rw [eρ] at hs
  rcases (eS _).1 hs with hs | ⟨j', hm, hk', hp', e⟩
  ·exact hr.sep j ((eK j).1 hj) hp hs
  ·have := hr.inj j' j hk' ((eK j).1 hj) hp' hp e
   subst this
   exact h1 hm
 ·rcases (eS b).1 hb with hb | ⟨j, hm, hk, hp, rfl⟩
  ·exact hr.slt b hb
  ·obtain ⟨es, a1, a2, a3, a4, a5⟩ := hr.obj j hk
   obtain ⟨arr, t, c1, c2, c3⟩ := a5 hp
   obtain ⟨x, c4⟩ := c1.some
   exact (Array.getElem?_eq_some_iff.1 c4).1
def CodeG (O : Oracle) (I : Iter) (N : Nat) (G : Option Nat → Nat → (Exit → Act → World → Prop) → Act → World → Prop) (mc : MC) : Prop :=
 ∀ (lk : Nat → Bool) (st st' : MSt) (x : MX2), evC O I N mc lk st = some (x, st') → ∀ (r : Option Nat) (B n : Nat) (E : Env) (a : Act) (w : World) (Q : Exit → Act → World → Prop), Rel r B E st a w →
  (∀ a' w' E', Rel r B E' st' a' w' → Ext lk E w E' w' → Q (exitOf x) a' w') → G r n Q a w
theorem code_sealG {G : Option Nat → Nat → (Exit → Act → World → Prop) → Act → World → Prop} {O : Oracle} {I : Iter} {N : Nat} {mc : MC} {t : Nat} (h1 : CodeG O I N G mc) : CodeG O I N G (.give t mc) := by
 intro lk st st' x he r B n E a w Q hR hQ
 simp only [evC] at he
 have hval : ∃ val, V E w (st.s.getD t (.lit undef)) val ∧ (∀ v, a.tmps[t]? = some v → t < st.s.length → v = val) := by
  rw [List.getD_eq_getElem?_getD]
  cases hg : st.s[t]? with
  | none => exact ⟨undef, .lit _, fun v _ hl => by rw [List.getElem?_eq_none_iff] at hg; omega⟩
  | some m =>
   have hl := (List.getElem?_eq_some_iff.1 hg).1
   rw [hR.slots.1] at hl
   refine ⟨a.tmps[t], hR.slots.2 t m _ hg (Array.getElem?_eq_getElem hl), fun v hv _ => ?_⟩
   rw [Array.getElem?_eq_getElem hl] at hv
   exact (Option.some.inj hv).symm
 obtain ⟨val, hval, hsame⟩ := hval
 generalize hm0 : st.s.getD t (.lit undef) = m0 at he hval
 have hV : ∀ r, giveV lk st.h m0 = some r → evC O I N mc lk ⟨st.s.set t r.1, r.2⟩ = some (x, st') → G _ n Q a w := fun r hs he => by
  obtain ⟨E', hr', hx', hv'⟩ := giveV_ok hR.heap hval hs
  refine h1 lk ⟨st.s.set t r.1, r.2⟩ st' x he _ B n E' a w Q ⟨⟨by rw [List.length_set]; exact hR.slots.1, fun i m v q1 q2 => ?_⟩, hr', hR.mok⟩ fun a' w' E2 hR2 hx2 => hQ a' w' E2 hR2 (hx'.trans hx2)
  rw [List.getElem?_set] at q1
  split at q1
  ·rename_i e
   subst e
   split at q1
   ·rename_i hl
    cases q1
    rw [hsame v q2 hl]
    exact hv'
   ·cases q1
  ·exact V.ext hR.heap hx' (hR.slots.2 i m v q1 q2)
 split at he
 ·split at he
  case h_2 => cases he
  rename_i h' hs
  obtain ⟨E', hr', hx'⟩ := seal_ok hR.heap hval hs
  exact h1 lk ⟨st.s, h'⟩ st' x he r B n E' a w Q ⟨⟨hR.slots.1, fun i m v h1 h2 => V.ext hR.heap hx' (hR.slots.2 i m v h1 h2)⟩, hr', hR.mok⟩ fun a' w' E2 hR2 hx2 => hQ a' w' E2 hR2 (hx'.trans hx2)
 ·split at he
  case h_2 => cases he
  rename_i r' hs
  exact hV r' hs he
theorem code_seal {P : Program} {O : Oracle} {I : Iter} {N : Nat} {c : Code} {mc : MC} {t : Nat} (h1 : CodeOK P O I N c mc) : CodeOK P O I N c (.give t mc) := code_sealG (G := fun r n Q a w => c.wpIn (Fw r) n P Q a w) h1
def MC.isSeal : MC → Bool
 | .give _ _ => true
 | _ => false
end Go.Proofs.YtnmgpbihknjdjaaDoor

/- Ranges over maps: in whatever order the entries come. -/
namespace Go.Proofs.YtnmgpbihknjdjaaDoor
open Go.RowKit
set_option linter.unusedVariables false
structure KI (R : Nat) (w w' : World) : Prop where
 os : w'.os = w.os
 tape : w'.tape = w.tape
 output : w'.output = w.output
 size : w'.heap.size = w.heap.size
 same : ∀ k, k ≠ R → w'.heap[k]? = w.heap[k]?
 it : ∃ m a s c, w.heap[R]? = some (.mapIter m a s c)
theorem KI.ne {R : Nat} {w w' : World} (h : KI R w w') {k : Nat} {o : Obj} (hk : w.heap[k]? = some o) (ho : ∀ m a s c, o ≠ .mapIter m a s c) : w'.heap[k]? = some o := by
 refine (h.same k fun e => ?_).trans hk
 subst e
 obtain ⟨m, a, s, c, hi⟩ := h.it
 rw [hi] at hk
 cases hk
 exact ho _ _ _ _ rfl
theorem cell_obj {w : World} {b i : Nat} {v : Value} (h : w.cell? ⟨b, i, none⟩ = some v) : ∃ c t s, w.heap[b]? = some (.cells c t s) := by
 unfold World.cell? at h
 split at h
 ·rename_i c t s hb; exact ⟨c, t, s, hb⟩
 ·cases h
theorem KI.cell {R : Nat} {w w' : World} (h : KI R w w') {b i : Nat} {v : Value} (hc : w.cell? ⟨b, i, none⟩ = some v) : w'.cell? ⟨b, i, none⟩ = some v := by
 obtain ⟨c, t, s, hb⟩ := cell_obj hc
 exact (World.cell?_of_block (w := w) (a := ⟨b, i, none⟩) ((h.ne hb fun _ _ _ _ e => by cases e).trans hb.symm)).trans hc
theorem V.ki {E : Env} {R : Nat} {w w' : World} (h : KI R w w') {m : MV} {v : Value} {n : Nat} (hv : V E w m v) : m.lt n = true → V E w' m v := by
 induction hv with
 | junk v => exact fun _ => .junk v
 | yld => exact fun h => by simp [MV.lt] at h
 | emp a => exact fun h => by simp [MV.lt] at h
 | lit v => exact fun _ => .lit v
 | agg cs vs hl _ ih => exact fun h => .agg cs vs hl fun i c v hc hx => ih i c v hc hx (by simp only [MV.lt] at h; exact ltL_at h i c hc)
 | tup cs vs hl _ ih => exact fun h => .tup cs vs hl fun i c v hc hx => ih i c v hc hx (by simp only [MV.lt] at h; exact ltL_at h i c hc)
 | fn f k cs vs hl _ ih => exact fun h => .fn f k cs vs hl fun i c v hc hx => ih i c v hc hx (by simp only [MV.lt] at h; exact ltL_at h i c hc)
 | sl es vs A cap sz hc hs hl _ hA ih =>
  intro hlt
  refine .sl es vs A cap sz hc hs hl (fun i c v hc' hx => ih i c v hc' hx (by simp only [MV.lt] at hlt; exact lt_flat hlt i c hc')) fun h0 => ?_
  obtain ⟨b, off, e, hb, hcell⟩ := hA h0
  exact ⟨b, off, e, hb, fun i v hi => h.cell (hcell i v hi)⟩
 | rp e off vs b o hl _ hb hcell ih => exact fun hlt => .rp e off vs b o hl (fun i c v hc' hx => ih i c v hc' hx (by simp only [MV.lt] at hlt; exact lt_cells hlt i c hc')) hb fun i v hi => h.cell (hcell i v hi)
 | ptr id i off g b o hk hg hd => exact fun _ => .ptr id i off g b o hk hg hd
 | arr id i n' g A cap hk hg hd => exact fun _ => .arr id i n' g A cap hk hg hd
 | mp id g b hk hg hd => exact fun _ => .mp id g b hk hg hd
 | rm es b ents ck l hl _ hp hs hb hh ih => exact fun hlt => .rm es b ents ck l hl (fun i c v hc hx => ih i c v hc hx (by simp only [MV.lt] at hlt; exact ltL_at hlt i c hc)) hp hs hb (h.ne hh fun _ _ _ _ e => by cases e)
 | itr => exact fun h => by simp [MV.lt] at h
theorem viewO.ki {R : Nat} {w w' : World} (h : KI R w w') {nl : Bool} {k : Nat} {arr : Array Value} {t : TypeId} (hv : viewO nl w.heap[k]? arr t) : viewO nl w'.heap[k]? arr t := by
 cases nl
 ·have : w.heap[k]? = Option.some (Obj.cells arr t (0, 0)) := hv
  exact h.ne this fun _ _ _ _ e => by cases e
 ·obtain ⟨es, ck, l, h1, h2⟩ := hv
  exact ⟨es, ck, l, h.ne h1 (fun _ _ _ _ e => by cases e), h2⟩
theorem V.turn {E : Env} {R : Nat} {w w' : World} (h : KI R w w') {m : MV} {v : Value} {n : Nat} (y : Nat) (hv : V E w m v) (hl : m.lt n = true) : V { E.res n with yl := y } w' m v := (hv.resY y hl).ki h hl
theorem HRel.turn {E : Env} {R : Nat} {h : MHeap} {w w' : World} (hr : HRel E h w) (hk : KI R w w') (y : Nat) (hc : hltL h.length h = true) : HRel { E.res h.length with yl := y } h w' := by
 have h1 := hr.res (n := h.length) hr.top (by rw [List.take_length]; exact hc)
 rw [List.take_length] at h1
 refine ⟨h1.klt, h1.top, fun id hid => ?_, h1.inj, h1.sep, fun b hb => by rw [hk.size]; exact h1.slt b hb, fun p hp => (hr.tab p hp).turn hk y (TABS_lt h.length p hp)⟩
 obtain ⟨es, a1, a2, a3, a4, a5⟩ := hr.obj id hid.1
 refine ⟨es, a1, a2, a3, a4, fun hcp => ?_⟩
 obtain ⟨arr, t, b1, b2, b3⟩ := a5 hcp
 refine ⟨arr, t, b1.ki hk, b2, fun k c hkc => ?_⟩
 obtain ⟨v, c1, c2⟩ := b3 k c hkc
 exact ⟨v, c1, c2.turn hk y (lt_flat (List.all_eq_true.1 hc _ (List.mem_of_getElem? a1)) k c hkc)⟩
theorem Ext.turn {lk : Nat → Bool} {E0 E : Env} {w0 w w' : World} {R n : Nat} (hx : Ext lk { E0 with yl := E.yl } w0 E w) (hk : KI R w w') (hR : w0.heap.size ≤ R) (y : Nat) (hn : ∀ id, E0.K id → id < n) : Ext lk { E0 with yl := y } w0 { E.res n with yl := y } w' where
 os := hk.os.trans hx.os
 tape := hk.tape.trans hx.tape
 output := hk.output.trans hx.output
 size := by rw [hk.size]; exact hx.size
 keep := fun k hlt hn => (hk.same k (by omega)).trans (hx.keep k hlt hn)
 S := hx.S
 K := fun id hid => ⟨hx.K id hid, hn id hid⟩
 old := hx.old
 lock := hx.lock
 src := fun id hid hc => hx.src id hid.1 hc
 top := hx.top
 srcK := fun id hid => hx.srcK id hid.1
 yl := rfl
 srcS := hx.srcS
theorem MkOk.turn {r : Option Nat} {B R : Nat} {a a' : Act} {w w' : World} (hm : MkOk r B a w) (hk : KI R w w') (hd : a'.defers = a.defers) : MkOk r B a' w' := by
 refine ⟨by rw [hk.size]; exact hm.1, ?_⟩
 have := hm.2
 cases r with
 | none =>
  simp only at this ⊢
  rw [hd]
  exact this.keep fun D _ hD => hk.ne hD fun _ _ _ _ e => by cases e
 | some l =>
  simp only at this ⊢
  obtain ⟨h1, rec, h2⟩ := this
  exact ⟨hd.trans h1, rec, hk.ne h2 fun _ _ _ _ e => by cases e⟩
theorem run_nextG {P : Program} (w : World) (ty : TypeId) (R bm since : Nat) (seen : Array Nat) (es : Array MapEntry) (clock : Nat) (hR : w.heap[R]? = some (.mapIter (some bm) since seen clock)) (hb : w.heap[bm]? = some (.map es clock)) (hold : ∀ x ∈ es.toList, x.born < since) (hsc : since ≤ clock) :
  ((leftOf es seen).size = 0 ∧ (Instr.next (.pointer (some ⟨R, 0, none⟩)) false ty).run P w = .ok (.tuple #[.bool false]) w) ∨
  ∃ en ∈ (leftOf es seen).toList, ∃ w', KI R w w' ∧ w'.heap[R]? = some (.mapIter (some bm) since (seen.push en.born) clock) ∧ (Instr.next (.pointer (some ⟨R, 0, none⟩)) false ty).run P w = .ok (.tuple #[.bool true, en.key, en.val]) w' := by
 have hlt := (Array.getElem?_eq_some_iff.1 hR).1
 simp only [Instr.next, getObj, Sem.run_bind, Sem.run, hR, hb, Result.andThen, next_test_false seen es since clock hold hsc, Bool.false_eq_true, if_false]
 unfold leftOf
 have hmem : ∀ x ∈ (Array.filter (fun e => !seen.contains e.born) es).toList, x.born < since := fun x hx => hold x (by simp at hx ⊢; exact hx.1)
 generalize Array.filter (fun e => !seen.contains e.born) es = L at hmem ⊢
 have e1 : L.filter (fun x => decide (x.born < since)) = L := Array.filter_eq_self.2 (fun x hx => by simpa using hmem x (by simpa using hx))
 have e2 : L.filter (fun x => decide (x.born ≥ since)) = #[] := by
  rw [Array.filter_eq_empty_iff]
  intro x hx
  have := hmem x (by simpa using hx)
  simp
  omega
 simp only [e1, e2, Array.append_empty]
 by_cases h0 : L.size = 0
 ·left
  have : L = #[] := Array.eq_empty_of_size_eq_zero h0
  subst this
  refine ⟨rfl, ?_⟩
  simp [choose, Sem.run, Question.forced]
 ·right
  have hne : L.isEmpty = false := by simp [Array.isEmpty, h0]
  simp only [hne, Bool.false_eq_true, if_false, Array.empty_append, Array.size_map]
  have hch : ∃ (j : Nat) (w1 : World), j < L.size ∧ (w1 = w ∨ w1 = w.drew) ∧ (choose (Question.mapNext L.size)).run P w = .ok j w1 := by
   by_cases hf : L.size ≤ 1
   ·exact ⟨0, w, by omega, .inl rfl, by simp [choose, Sem.run, Question.forced, hf]⟩
   ·exact ⟨_, w.drew, Nat.mod_lt _ (by omega), .inr rfl, by
     simp only [choose, Sem.run, Question.forced, decide_eq_true_eq, hf, if_false, Question.cut]
     rfl⟩
  obtain ⟨j, w1, hj, hal, hrun⟩ := hch
  have hw1 : w1.heap = w.heap ∧ w1.os = w.os ∧ w1.tape = w.tape ∧ w1.output = w.output := by rcases hal with rfl | rfl <;> exact ⟨rfl, rfl, rfl, rfl⟩
  obtain ⟨q1, q2, q3, q4⟩ := hw1
  refine ⟨L[j], by simp, { w1 with heap := w1.heap.setIfInBounds R (.mapIter (some bm) since (seen.push L[j].born) clock) }, ⟨q2, q3, q4, by simp [q1], fun k hk => ?_, _, _, _, _, hR⟩, ?_, ?_⟩
  ·simp only [q1]
   rw [Array.getElem?_setIfInBounds_ne (by omega)]
  ·simp only [q1]
   rw [Array.getElem?_setIfInBounds_self_of_lt hlt]
  ·have hset : ∀ o', (setObj R o').run P w1 = .ok () { w1 with heap := w1.heap.setIfInBounds R o' } := fun o' => by
    simp [setObj, Sem.run, q1, hR]
   simp only [hrun, Array.getElem?_map, Array.getElem?_eq_getElem hj, Option.map_some, Sem.run_bind, hset, Result.andThen]
   rfl
theorem V.plainAny {E E2 : Env} {w w2 : World} {m : MV} {v : Value} (hp : m.plain = true) (h : V E w m v) : V E2 w2 m v := by
 cases h with
 | lit v => exact .lit v
 | agg cs vs hl hv =>
  refine .agg cs vs hl fun i c x hc hx => ?_
  have h1 := hv i c x hc hx
  have h2 := List.all_eq_true.1 hp c (List.mem_of_getElem? hc)
  cases c <;> first | (cases h2; done) | skip
  rw [h1.lit_eq]
  exact .lit _
 | _ => cases hp
theorem overS_append {f : MV → MSt → Option (MX2 × MSt)} : ∀ (xs ys : List MV) (st st1 : MSt), overS f xs st = some (.normal, st1) → overS f (xs ++ ys) st = overS f ys st1
 | [], ys, st, st1, h => by simp only [overS, Option.some.injEq, Prod.mk.injEq] at h; rw [← h.2]; rfl
 | c :: xs, ys, st, st1, h => by
  simp only [overS, List.cons_append] at h ⊢
  split at h
  ·rename_i st2 h2
   exact overS_append xs ys st2 st1 h
  ·rename_i hne
   exact absurd h (hne st1)
theorem evR_okA {P : Program} {O : Oracle} {lk : Nat → Bool} {ops : Array Oper} (hO : SoundO P O) {r : Option Nat} {n : Nat} {Q : Exit → Act → World → Prop} {l2 : List Oper} : ∀ {l : List Oper} {gl : List GO} {st st' : MSt} {a : Act} {w : World} {E : Env}, l.mapM (compG P ops) = some gl → evR lk O gl st = some st' → Slots E w st.s a → HRel E st.h w →
  (∀ a' w' E', Slots E' w' st'.s a' → HRel E' st'.h w' → Ext lk E w E' w' → a'.defers = a.defers → wpListIn (Fw r) n P ops Q l2 a' w') → wpListIn (Fw r) n P ops Q (l ++ l2) a w
 | [], gl, st, st', a, w, E, hm, he, hs, hr, hQ => by
  simp at hm; subst hm
  simp [evR] at he; subst he
  exact hQ a w E hs hr (Ext.refl _ _ _) rfl
 | o :: l, gl, st, st', a, w, E, hm, he, hs, hr, hQ => by
  simp only [List.mapM_cons, Option.pure_def, Option.bind_eq_bind, Option.bind_eq_some_iff, Option.some.injEq] at hm
  obtain ⟨go, hgo, gl', hgl, rfl⟩ := hm
  simp only [evR, Option.bind_eq_some_iff] at he
  obtain ⟨st1, he1, he2⟩ := he
  show wpListIn (Fw r) n P ops Q (o :: (l ++ l2)) a w
  unfold wpListIn
  exact evG_ok hO hgo hs hr he1 fun a' w' E' h1 h2 h3 h4 => evR_okA hO hgl he2 h1 h2 fun a'' w'' E'' k1 k2 k3 k4 => hQ a'' w'' E'' k1 k2 (h3.trans k3) (k4.trans h4)
theorem nodup_len {p : List Nat} {n : Nat} (hn : p.Nodup) (hp : ∀ i ∈ p, i < n) : p.length ≤ n := by
 have h1 : p.Perm ((List.range n).filter fun i => decide (i ∈ p)) := by
  refine (List.perm_ext_iff_of_nodup hn (List.nodup_range.filter _)).2 fun i => ?_
  rw [List.mem_filter, List.mem_range, decide_eq_true_eq]
  exact ⟨fun h => ⟨hp i h, h⟩, fun h => h.2⟩
 have := List.length_filter_le (fun i => decide (i ∈ p)) (List.range n)
 rw [← h1.length_eq, List.length_range] at this
 exact this
theorem map_range {es : List MV} : (List.range es.length).map (fun i => es.getD i (.lit undef)) = es := by
 refine List.ext_getElem (by simp) fun i h1 h2 => ?_
 simp [List.getD_eq_getElem?_getD, h2]
theorem perm_idx {es : List MV} {p : List Nat} (hn : p.Nodup) (hp : ∀ i ∈ p, i < es.length) (hall : ∀ j, j < es.length → j ∈ p) : (p.map fun i => es.getD i (.lit undef)).Perm es := by
 have h1 : p.Perm (List.range es.length) := (List.perm_ext_iff_of_nodup hn List.nodup_range).2 fun i => by rw [List.mem_range]; exact ⟨hp i, hall i⟩
 have := h1.map fun i => es.getD i (.lit undef)
 rwa [map_range] at this
theorem idx_rest {es : List MV} {p : List Nat} (hn : p.Nodup) (hp : ∀ i ∈ p, i < es.length) : ∃ rest : List Nat, ((p ++ rest).map fun i => es.getD i (.lit undef)).Perm es := by
 refine ⟨(List.range es.length).filter fun i => decide (i ∉ p), ?_⟩
 have h1 : (p ++ (List.range es.length).filter fun i => decide (i ∉ p)).Perm (List.range es.length) := by
  refine (List.perm_ext_iff_of_nodup (List.nodup_append.2 ⟨hn, List.nodup_range.filter _, fun x hx z hz e => ?_⟩) List.nodup_range).2 fun i => ?_
  ·subst e
   rw [List.mem_filter, decide_eq_true_eq] at hz
   exact hz.2 hx
  ·rw [List.mem_append, List.mem_filter, List.mem_range, decide_eq_true_eq]
   constructor
   ·rintro (h | h)
    ·exact hp i h
    ·exact h.1
   ·intro h
    by_cases hi : i ∈ p
    ·exact .inl hi
    ·exact .inr ⟨h, hi⟩
 have := h1.map fun i => es.getD i (.lit undef)
 rwa [map_range] at this
theorem born_idx {l : List MapEntry} {ents : Array MapEntry} {ck : Nat} (hp : l.Perm ents.toList) (hs : MapKept.Stamped ents ck) {i j : Nat} (hi : i < l.length) (hj : j < l.length) (h : l[i].born = l[j].born) : i = j := by
 have hn : (l.map (·.born)).Nodup := (hp.map _).nodup_iff.2 hs.2.1
 have := (List.getElem_inj (i := i) (j := j) (h₀ := by simpa using hi) (h₁ := by simpa using hj) hn).1 (by simpa using h)
 exact this
theorem slots_fin {E : Env} {R y : Nat} {w w' : World} {s : List MV} {a : Act} {L r d e : Nat} {v u : Value} (hs : Slots E w s a) (hk : KI R w w') (hcl : ltL L (((s.set r .junk).set d .junk).set e .junk) = true) (hrd : r ≠ d) (hre : r ≠ e) (hde : d ≠ e) :
  Slots { E.res L with yl := y } w' (((s.set r .junk).set d .junk).set e .junk) ((a.put (some d) v).put (some e) u) := by
 refine ⟨by simp [Act.put, hs.1], fun i m x hm hx => ?_⟩
 have hlt := ltL_at hcl i m hm
 simp only [Act.put, Array.getElem?_setIfInBounds] at hx
 rw [List.getElem?_set, List.getElem?_set, List.getElem?_set] at hm
 by_cases h1 : e = i
 ·rw [if_pos h1] at hm
  split at hm
  ·cases hm; exact .junk _
  ·cases hm
 ·rw [if_neg h1] at hm hx
  by_cases h2 : d = i
  ·rw [if_pos h2] at hm
   split at hm
   ·cases hm; exact .junk _
   ·cases hm
  ·rw [if_neg h2] at hm hx
   by_cases h3 : r = i
   ·rw [if_pos h3] at hm
    split at hm
    ·cases hm; exact .junk _
    ·cases hm
   ·rw [if_neg h3] at hm
    exact (hs.2 i m x hm hx).turn hk y hlt
theorem slots_end {E : Env} {R y : Nat} {w w' : World} {s : List MV} {a : Act} {L r d e : Nat} (hs : Slots E w s a) (hk : KI R w w') (hcl : ltL L (((s.set r .junk).set d .junk).set e .junk) = true) :
  Slots { E.res L with yl := y } w' (((s.set r .junk).set d .junk).set e .junk) a := by
 refine ⟨by simp [hs.1], fun i m x hm hx => ?_⟩
 have hlt := ltL_at hcl i m hm
 rw [List.getElem?_set, List.getElem?_set, List.getElem?_set] at hm
 split at hm
 ·split at hm
  ·cases hm; exact .junk _
  ·cases hm
 ·split at hm
  ·split at hm
   ·cases hm; exact .junk _
   ·cases hm
  ·split at hm
   ·split at hm
    ·cases hm; exact .junk _
    ·cases hm
   ·exact (hs.2 i m x hm hx).turn hk y hlt
theorem slots_round {E : Env} {R y : Nat} {w w' : World} {s : List MV} {a : Act} {L r d e : Nat} {v u : Value} {k x : MV} (hs : Slots E w s a) (hk : KI R w w') (hcl : ltL L s = true) (hi : V { E.res L with yl := y } w' (.itr k x) (.pointer (some ⟨R, 0, none⟩))) (hp : a.tmps.getD r undef = .pointer (some ⟨R, 0, none⟩)) (hrd : r ≠ d) (hre : r ≠ e) (hde : d ≠ e) :
  Slots { E.res L with yl := y } w' (((s.set r (.itr k x)).set d .junk).set e .junk) ((a.put (some d) v).put (some e) u) := by
 refine ⟨by simp [Act.put, hs.1], fun i m z hm hz => ?_⟩
 simp only [Act.put, Array.getElem?_setIfInBounds] at hz
 rw [List.getElem?_set, List.getElem?_set, List.getElem?_set] at hm
 by_cases h1 : e = i
 ·rw [if_pos h1] at hm
  split at hm
  ·cases hm; exact .junk _
  ·cases hm
 ·rw [if_neg h1] at hm hz
  by_cases h2 : d = i
  ·rw [if_pos h2] at hm
   split at hm
   ·cases hm; exact .junk _
   ·cases hm
  ·rw [if_neg h2] at hm hz
   by_cases h3 : r = i
   ·rw [if_pos h3] at hm
    split at hm
    ·cases hm
     subst h3
     have : a.tmps.getD r undef = z := by rw [Array.getD_eq_getD_getElem?, hz]; rfl
     rw [hp] at this
     rw [← this]
     exact hi
    ·cases hm
   ·rw [if_neg h3] at hm
    exact (hs.2 i m z hm hz).turn hk y (ltL_at hcl i m hm)
theorem op_value {P : Program} {r : Option Nat} {n : Nat} {ops : Array Oper} {Q : Exit → Act → World → Prop} {o : Oper} {l : List Oper} {a : Act} {w w' : World} {v : Value} (hg : o.guard = none) (hnd : ∀ c, o.op ≠ .defer c) (hrun : (execOp a.eval o).run P w = .ok (.value v) w') (h : wpListIn (Fw r) n P ops Q l (a.put o.dst v) w') : wpListIn (Fw r) n P ops Q (o :: l) a w := by
 unfold wpListIn
 rw [if_pos (by simp [Region.wanted, hg])]
 refine ⟨about_wide o a w, ?_⟩
 rw [Oper.semAt_eq _ _ _ hnd, hrun]
 exact h
theorem eval_put {a : Act} {d t : Nat} {v : Value} : (a.put (some d) v).eval (.tmp t) = if d = t ∧ t < a.tmps.size then v else a.eval (.tmp t) := by
 simp only [Act.put, Act.eval, Array.getD_eq_getD_getElem?, Array.getElem?_setIfInBounds]
 by_cases h1 : d = t
 ·subst h1
  by_cases h2 : d < a.tmps.size
  ·simp [h2]
  ·simp [h2]
 ·simp [h1]
section
variable {P : Program} {O : Oracle} {I : Iter} {N : Nat}
theorem mr_rounds {keep ke : List Nat} {id r d e i2 : Nat} {ops2 : Array Oper} {o1 o2 : Oper} {body : Code} {mb : MC} (hops : ops2.toList = [o1, o2]) (ho1 : o1.op = .next (.tmp r) false) (q1 : o1.dst = some d) (q3 : o1.guard = none) (ho2 : o2.op = .extract (.tmp d) 0) (q2 : o2.dst = some e) (q4 : o2.guard = none) (hb : CodeOK P O I N body mb) (hrd : r ≠ d) (hre : r ≠ e) (hde : d ≠ e)
  {lk : Nat → Bool} {st : MSt} {G : MX2 → MSt → Prop} {es : List MV} (hpl : es.all entP = true)
  (hF : ∀ es', es'.Perm es → ∃ y st', (overS (roundS (evC O I N mb lk) keep st.h.length r d e) es' st).bind (finS ke id st.h.length r d e) = some (y, st') ∧ G y st')
  {rr : Option Nat} {B n : Nat} {E : Env} {w : World} {Q : Exit → Act → World → Prop} (hK : ∀ id, E.K id → id < st.h.length) (ht : E.top ≤ st.h.length)
  {R b ck : Nat} {ents : Array MapEntry} {l : List MapEntry} (hR : w.heap.size ≤ R) (hel : es.length = l.length) (hev : ∀ (i : Nat) m en, es[i]? = some m → l[i]? = some en → V E w m (.tuple #[en.key, en.val])) (hp : l.Perm ents.toList) (hst : MapKept.Stamped ents ck) (hS : E.S b)
  (hQ : ∀ y st' a' w' E', G y st' → Rel rr B E' st' a' w' → Ext lk E w E' w' → Q (exitOf y) a' w') :
  ∀ (m : Nat) (p : List Nat) (st1 : MSt) (a1 : Act) (w1 : World) (E1 : Env) (seen : Array Nat), es.length < p.length + m → p.Nodup → (∀ i ∈ p, i < es.length) → overS (roundS (evC O I N mb lk) keep st.h.length r d e) (p.map fun i => es.getD i (.lit undef)) st = some (.normal, st1) →
   Rel rr B E1 st1 a1 w1 → Ext lk { E with yl := E1.yl } w E1 w1 → w1.heap[b]? = some (.map ents ck) → w1.heap[R]? = some (.mapIter (some b) ck seen ck) → (∀ j (hj : j < l.length), seen.contains l[j].born = true ↔ j ∈ p) → a1.eval (.tmp r) = .pointer (some ⟨R, 0, none⟩) →
   Code.roundsIn (Fw rr) n P (.seq (.region i2 ops2 false) (.seq (.cond (.tmp e) .skip (.exit id)) body)) (Exit.inBlock id Q) m a1 w1 := by
 intro m
 induction m with
 | zero =>
  intro p st1 a1 w1 E1 seen hm hnd hin
  have := nodup_len hnd hin
  omega
 | succ m ih =>
  intro p st1 a1 w1 E1 seen hm hnd hin hov hR1 hx1 hb1 hi1 hsn hptr
  have hts : a1.tmps.size = st1.s.length := hR1.slots.1.symm
  rw [roundsIn_succ]
  refine wpIn_seq (wpIn_region_list ?_)
  rw [hops]
  have hnx := run_nextG (P := P) w1 o1.type R b ck seen ents ck hi1 hb1 (fun x hx => hst.1 x hx) (Nat.le_refl _)
  rcases hnx with ⟨h0, hrun⟩ | ⟨en, hen, w2, hki, hi2, hrun⟩
  ·-- nothing is left
   have hall : ∀ j, j < es.length → j ∈ p := fun j hj => by
    rw [← hsn j (by omega)]
    have hmem : l[j]'(by omega) ∈ ents.toList := hp.mem_iff.1 (List.getElem_mem _)
    apply Classical.byContradiction
    intro hn
    have : l[j]'(by omega) ∈ leftOf ents seen := by
     unfold leftOf
     rw [Array.mem_filter]
     exact ⟨by simpa using hmem, by simpa using hn⟩
    have hne := Array.size_pos_of_mem this
    omega
   have hperm : (p.map fun i => es.getD i (.lit undef)).Perm es := perm_idx hnd hin hall
   obtain ⟨y, st', hfin, hG⟩ := hF _ hperm
   rw [hov] at hfin
   simp only [Option.bind_some] at hfin
   unfold finS at hfin
   split at hfin
   case isFalse => cases hfin
   rename_i hcl
   simp only [Option.some.injEq, Prod.mk.injEq] at hfin
   obtain ⟨rfl, rfl⟩ := hfin
   rw [Bool.and_eq_true] at hcl
   obtain ⟨hcl, hol⟩ := hcl
   unfold okLen at hol
   simp only [Bool.and_eq_true, decide_eq_true_eq] at hol
   obtain ⟨hr2, hd2, he2⟩ := hol
   refine op_value q3 (fun c h => by rw [ho1] at h; cases h) (v := .tuple #[.bool false]) (w' := w1) (by simp [execOp, ho1, hptr, hrun]) ?_
   refine op_value q4 (fun c h => by rw [ho2] at h; cases h) (v := .bool false) (w' := w1) (by rw [q1]; simp [execOp, ho2, eval_put, hts, hd2, Instr.extract]) ?_
   rw [q1, q2]
   show Exit.then _ _ .normal _ _
   refine wpIn_seq (wpIn_cond (t := false) (by rw [eval_put, if_pos ⟨rfl, by simp [Act.put, hts, he2]⟩]) ?_)
   refine wpIn_exit ?_
   have e1 : ∀ a w, Q .normal a w → Exit.inBlock id Q (.exit id) a w := fun a w h => by simpa [Exit.inBlock] using h
   refine e1 _ _ ?_
   have e2 : exitOf (if MX2.normal = .exit id then MX2.normal else MX2.normal) = .normal := by simp [exitOf]
   obtain ⟨E2, hR2, hx2, -⟩ := head_ok (E0 := { E with yl := E1.yl }) hR1 hx1 hK ht ke
   have hki : KI R w1 w1 := ⟨rfl, rfl, rfl, rfl, fun _ _ => rfl, _, _, _, _, hi1⟩
   have hy2 : E2.yl = E1.yl := hx2.yl
   rw [← hy2] at hx2
   unfold clean at hcl
   rw [Bool.and_eq_true] at hcl
   have := hQ _ _ ((a1.put (some d) (.tuple #[.bool false])).put (some e) (.bool false)) w1 { E2.res (headM ke st.h.length st1).h.length with yl := E.yl } hG ⟨?_, hR2.heap.turn hki E.yl hcl.2, hR2.mok.turn hki (by simp [Act.put])⟩ ?_
   ·rw [e2] at this
    simpa using this
   ·exact slots_fin hR2.slots hki hcl.1 hrd hre hde
   ·have := hx2.turn hki hR E.yl (n := (headM ke st.h.length st1).h.length) (fun q hq => hR2.heap.klt q (hx2.K q hq))
    exact this
  ·-- one entry
   obtain ⟨hen1, hen2⟩ : en ∈ ents.toList ∧ seen.contains en.born = false := by
    unfold leftOf at hen
    simp only [Array.toList_filter, List.mem_filter, Bool.not_eq_true'] at hen
    exact hen
   obtain ⟨j, hj⟩ := List.getElem?_of_mem (hp.mem_iff.2 hen1)
   have hjl := (List.getElem?_eq_some_iff.1 hj).1
   have hje : l[j] = en := (List.getElem?_eq_some_iff.1 hj).2
   have hjp : j ∉ p := fun h => by
    rw [← hsn j hjl, hje, hen2] at h; cases h
   have hnd2 : (p ++ [j]).Nodup := List.nodup_append.2 ⟨hnd, by simp, fun x hx z hz => by rw [List.mem_singleton] at hz; subst hz; exact fun e => hjp (e ▸ hx)⟩
   have hin2 : ∀ i ∈ p ++ [j], i < es.length := fun i hi => by
    rcases List.mem_append.1 hi with hi | hi
    ·exact hin i hi
    ·rw [List.mem_singleton] at hi; omega
   obtain ⟨rest, hrest⟩ := idx_rest hnd2 hin2
   obtain ⟨y, st', hfin, hG⟩ := hF _ hrest
   rw [List.append_assoc, List.map_append, overS_append _ _ _ _ hov] at hfin
   simp only [List.map_append, List.map_cons, List.map_nil, List.cons_append, List.nil_append, overS] at hfin
   have hej : es.getD j (.lit undef) = es[j]'(by omega) := by rw [List.getD_eq_getElem?_getD, List.getElem?_eq_getElem (by omega)]; rfl
   generalize hro : roundS (evC O I N mb lk) keep st.h.length r d e (es.getD j (.lit undef)) st1 = ro at hfin
   have hov2 : ∀ st2, ro = some (.normal, st2) → overS (roundS (evC O I N mb lk) keep st.h.length r d e) ((p ++ [j]).map fun i => es.getD i (.lit undef)) st = some (.normal, st2) := fun st2 h2 => by
    rw [List.map_append, overS_append _ _ _ _ hov]
    simp only [List.map_cons, List.map_nil, overS, hro, h2]
   unfold roundS at hro
   split at hro
   case isFalse => subst hro; simp at hfin
   rename_i hcl
   rw [Bool.and_eq_true] at hcl
   obtain ⟨hcl, hol⟩ := hcl
   unfold okLen at hol
   simp only [Bool.and_eq_true, decide_eq_true_eq] at hol
   obtain ⟨hr2, hd2, he2⟩ := hol
   split at hro
   case h_2 => subst hro; simp at hfin
   rename_i kx vx hkv
   refine op_value q3 (fun c h => by rw [ho1] at h; cases h) (v := .tuple #[.bool true, en.key, en.val]) (w' := w2) (by simp [execOp, ho1, hptr, hrun]) ?_
   refine op_value q4 (fun c h => by rw [ho2] at h; cases h) (v := .bool true) (w' := w2) (by rw [q1]; simp [execOp, ho2, eval_put, hts, hd2, Instr.extract]) ?_
   rw [q1, q2]
   show Exit.then _ _ .normal _ _
   refine wpIn_seq (wpIn_cond (t := true) (by rw [eval_put, if_pos ⟨rfl, by simp [Act.put, hts, he2]⟩]) (wpIn_skip ?_))
   show Code.wpIn _ _ _ _ _ _ _
   obtain ⟨E2, hR2, hx2, -⟩ := head_ok (E0 := { E with yl := E1.yl }) hR1 hx1 hK ht keep
   have hy2 : E2.yl = E1.yl := hx2.yl
   rw [← hy2] at hx2
   unfold clean at hcl
   rw [Bool.and_eq_true] at hcl
   have hpj : entP (es[j]'(by omega)) = true := List.all_eq_true.1 hpl _ (List.getElem_mem _)
   rw [hej] at hkv
   rw [hkv] at hpj
   simp only [entP, Bool.and_eq_true] at hpj
   have hvj := hev j (es[j]'(by omega)) en (List.getElem?_eq_getElem (by omega)) hj
   rw [hkv] at hvj
   obtain ⟨hk1, hv1⟩ := hvj.pair
   have hxE := hx2.turn hki hR R (n := (headM keep st.h.length st1).h.length) (fun q hq => hR2.heap.klt q (hx2.K q hq))
   have hbR : b ≠ R := fun h => by rw [h, hi1] at hb1; cases hb1
   have hb2 : w2.heap[b]? = some (.map ents ck) := (hki.same b hbR).trans hb1
   have hitr : V { E2.res (headM keep st.h.length st1).h.length with yl := R } w2 (.itr kx vx) (.pointer (some ⟨R, 0, none⟩)) :=
    V.itr (E := { E2.res (headM keep st.h.length st1).h.length with yl := R }) kx vx b ents ck ck seen en (hk1.plainAny hpj.1) (hv1.plainAny hpj.2) hst hen1 (hxE.S b hS) hb2 hi2
   have hRel : Rel rr B { E2.res (headM keep st.h.length st1).h.length with yl := R } ⟨(((headM keep st.h.length st1).s.set r (.itr kx vx)).set d .junk).set e .junk, (headM keep st.h.length st1).h⟩ ((a1.put (some d) (.tuple #[.bool true, en.key, en.val])).put (some e) (.bool true)) w2 :=
    ⟨slots_round hR2.slots hki hcl.1 hitr (by rw [Act.eval] at hptr; exact hptr) hrd hre hde, hR2.heap.turn hki R hcl.2, hR2.mok.turn hki (by simp [Act.put])⟩
   split at hro
   ·rename_i st2 hev2
    split at hro
    case isFalse => subst hro; simp at hfin
    rename_i hisI
    refine hb lk _ st2 .normal hev2 rr B n _ _ w2 _ hRel fun a3 w3 E3 hR3 hx3 => ?_
    show Exit.then _ _ .normal _ _
    have hyl3 : E3.yl = R := hx3.yl
    have hX : Ext lk { E with yl := E3.yl } w E3 w3 := by rw [hyl3]; exact hxE.trans hx3
    have hi3 : w3.heap[R]? = some (.mapIter (some b) ck (seen.push en.born) ck) := (hRel.heap.iterK hx3 hi2).trans hi2
    have hb3 : w3.heap[b]? = some (.map ents ck) := (hRel.heap.sblock hx3 (hxE.S b hS)).trans hb2
    refine ih (p ++ [j]) st2 a3 w3 E3 (seen.push en.born) (by simp; omega) hnd2 hin2 (hov2 st2 hro.symm) hR3 hX hb3 hi3 (fun q hq => ?_) ?_
    ·rw [List.mem_append, List.mem_singleton]
     have h5 := hsn q hq
     have h6 : (seen.push en.born).contains l[q].born = (seen.contains l[q].born || l[q].born == en.born) := by rw [Bool.eq_iff_iff]; simp
     rw [h6, Bool.or_eq_true, h5, beq_iff_eq]
     constructor
     ·rintro (h | h)
      ·exact .inl h
      ·exact .inr (born_idx hp hst hq hjl (by rw [hje]; exact h))
     ·rintro (h | rfl)
      ·exact .inl h
      ·exact .inr (by rw [hje])
    ·unfold isItr at hisI
     split at hisI
     case h_2 => cases hisI
     rename_i k3 v3 hg3
     have h7 : V E3 w3 (.itr k3 v3) (a3.eval (.tmp r)) := by
      have := hR3.slots.tmp r
      rw [hg3] at this
      exact this
     generalize a3.eval (.tmp r) = u at h7 ⊢
     cases h7 with
     | itr => rw [hyl3]
   ·rename_i hne
    have hne2 : ∀ st2, ro ≠ some (.normal, st2) := fun st2 h => hne st2 (hro.trans h)
    cases hro3 : ro with
    | none => rw [hro3] at hfin; simp at hfin
    | some pr =>
     obtain ⟨x, st2⟩ := pr
     rw [hro3] at hro
     have hxn : x ≠ .normal := fun h => by subst h; exact hne2 st2 hro3
     have hfin2 : finS ke id st.h.length r d e (x, st2) = some (y, st') := by
      rw [hro3] at hfin
      cases x with
      | normal => exact absurd rfl hxn
      | exit k => simpa using hfin
      | ret => simpa using hfin
     refine hb lk _ st2 x hro rr B n _ _ w2 _ hRel fun a3 w3 E3 hR3 hx3 => ?_
     unfold finS at hfin2
     split at hfin2
     case isFalse => cases hfin2
     rename_i hcl3
     simp only [Option.some.injEq, Prod.mk.injEq] at hfin2
     obtain ⟨rfl, rfl⟩ := hfin2
     rw [Bool.and_eq_true] at hcl3
     have hcl3 := hcl3.1
     have hyl3 : E3.yl = R := hx3.yl
     have hX : Ext lk { E with yl := E3.yl } w E3 w3 := by rw [hyl3]; exact hxE.trans hx3
     have hi3 : w3.heap[R]? = some (.mapIter (some b) ck (seen.push en.born) ck) := (hRel.heap.iterK hx3 hi2).trans hi2
     obtain ⟨E4, hR4, hx4, -⟩ := head_ok (E0 := { E with yl := E3.yl }) hR3 hX hK ht ke
     have hki4 : KI R w3 w3 := ⟨rfl, rfl, rfl, rfl, fun _ _ => rfl, _, _, _, _, hi3⟩
     have hy4 : E4.yl = E3.yl := hx4.yl
     rw [← hy4] at hx4
     unfold clean at hcl3
     rw [Bool.and_eq_true] at hcl3
     have := hQ _ _ a3 w3 { E4.res (headM ke st.h.length st2).h.length with yl := E.yl } hG ⟨slots_end hR4.slots hki4 hcl3.1, hR4.heap.turn hki4 E.yl hcl3.2, hR4.mok.turn hki4 rfl⟩ (hx4.turn hki4 hR E.yl (n := (headM ke st.h.length st2).h.length) (fun q hq => hR4.heap.klt q (hx4.K q hq)))
     cases x with
     | normal => exact absurd rfl hxn
     | exit k =>
      show Exit.inBlock id Q (.exit k) a3 w3
      by_cases hk : k = id
      ·subst hk; simpa [exitOf, Exit.inBlock] using this
      ·simpa [exitOf, Exit.inBlock, hk] using this
     | ret =>
      show Exit.inBlock id Q .ret a3 w3
      simpa [exitOf, Exit.inBlock] using this
theorem mr_main {keep ke : List Nat} {id r d e i2 : Nat} {ops1 ops2 : Array Oper} {o o1 o2 : Oper} {t kt et : TypeId} {x : Operand} {m : MX} {body : Code} {mb : MC} (ho : o.op = .range t x) (hod : o.dst = some r) (hog : o.guard = none) (hmt : P.underlying t = some (.map kt et)) (hx : cX x = some m)
  (hops : ops2.toList = [o1, o2]) (ho1 : o1.op = .next (.tmp r) false) (q1 : o1.dst = some d) (q3 : o1.guard = none) (ho2 : o2.op = .extract (.tmp d) 0) (q2 : o2.dst = some e) (q4 : o2.guard = none) (hb : CodeOK P O I N body mb) (hrd : r ≠ d) (hre : r ≠ e) (hde : d ≠ e) :
  CodeG O I N (fun rr n Q a w => wpListIn (Fw rr) n P ops1 (Exit.then (fun a w => (Code.block id (.loop (.seq (.region i2 ops2 false) (.seq (.cond (.tmp e) .skip (.exit id)) body)))).wpIn (Fw rr) n P Q a w) Q) [o] a w) (.mr keep ke id m r d e mb) := by
 intro lk st st' y he rr B n E a w Q hR hQ
 simp only [evC] at he
 split at he
 case h_2 => cases he
 rename_i es hmv
 split at he
 case isFalse => cases he
 rename_i hcond
 obtain ⟨hrl, hpl⟩ := hcond
 have hF := mrP_some he
 have hv := hR.slots.x hx
 rw [hmv] at hv
 generalize hxv : a.eval x = xv at hv
 cases hv with
 | rm _ b ents ck l hel hev hp hst hS hbk =>
  have hrun := run_range_map (P := P) w t kt et b ents ck hmt hbk
  refine op_value hog (fun c h => by rw [ho] at h; cases h) (v := .pointer (some ⟨w.heap.size, 0, none⟩)) (w' := w.alloc (.mapIter (some b) ck #[] ck)) (by simp [execOp, ho, hxv, hrun]) ?_
  have hbel : Below w.heap.size w (w.alloc (.mapIter (some b) ck #[] ck)) := (Below.refl _ w).alloc (Nat.le_refl _) _
  have hck : ∀ B, CKd B w (w.alloc (.mapIter (some b) ck #[] ck)) := fun B => CKd.of_below hbel
  have hx0 : Ext lk E w E (w.alloc (.mapIter (some b) ck #[] ck)) := (Ext.refl lk E w).ck (hck _)
  rw [hod]
  show Exit.then _ _ .normal _ _
  refine wpIn_block (wpIn_loop_rounds (es.length + 1) ?_)
  refine mr_rounds (st := ⟨st.s.set r .junk, st.h⟩) (keep := keep) (ke := ke) (G := fun y1 st1 => y1 = y ∧ st1 = st') hops ho1 q1 q3 ho2 q2 q4 hb hrd hre hde hpl (fun es' hp' => ⟨y, st', hF es' hp', rfl, rfl⟩) (fun id hk => hR.heap.klt id hk) hR.heap.top (R := w.heap.size) (Nat.le_refl _) hel hev hp hst hS (by rintro _ _ a' w' E' ⟨rfl, rfl⟩ h1 h2; exact hQ a' w' E' h1 h2) (es.length + 1) [] ⟨st.s.set r .junk, st.h⟩ (a.put (some r) (.pointer (some ⟨w.heap.size, 0, none⟩))) _ E #[] (by simp) List.nodup_nil (fun i hi => by cases hi) rfl ⟨?_, hR.heap.ck (hck 0), hR.mok.ext hR.heap hx0 (by simp [Act.put])⟩ hx0 ((hbel.block b (Array.getElem?_eq_some_iff.1 hbk).1).trans hbk) (World.alloc_heap_new w _) (fun j hj => by simp) ?_
  ·exact (hR.slots.ck (hck 0)).put (m := .junk) (.junk _) (some r)
  ·rw [eval_put, if_pos ⟨rfl, by rw [← hR.slots.1]; exact hrl⟩]
theorem code_mrk (hO : SoundO P O) {keep ke k2 : List Nat} {id r d e i1 i2 : Nat} {ops1 ops2 : Array Oper} {o o1 o2 : Oper} {l : List Oper} {gl : List GO} {t kt et : TypeId} {x : Operand} {m : MX} {body rest : Code} {mb mc : MC} (hl : ops1.toList = l ++ [o]) (hg : l.mapM (compG P ops1) = some gl)
  (ho : o.op = .range t x) (hod : o.dst = some r) (hog : o.guard = none) (hmt : P.underlying t = some (.map kt et)) (hx : cX x = some m)
  (hops : ops2.toList = [o1, o2]) (ho1 : o1.op = .next (.tmp r) false) (q1 : o1.dst = some d) (q3 : o1.guard = none) (ho2 : o2.op = .extract (.tmp d) 0) (q2 : o2.dst = some e) (q4 : o2.guard = none) (hb : CodeOK P O I N body mb) (hc : CodeOK P O I N rest mc) (hrd : r ≠ d) (hre : r ≠ e) (hde : d ≠ e) :
  CodeOK P O I N (.seq (.seq (.region i1 ops1 false) (.block id (.loop (.seq (.region i2 ops2 false) (.seq (.cond (.tmp e) .skip (.exit id)) body))))) rest) (.mrk gl keep ke id m r d e mb k2 mc) := by
 intro lk st0 st' y he rr B n E0 a0 w0 Q hR0 hQ0
 refine wpIn_seq (wpIn_seq (wpIn_region_list ?_))
 rw [hl]
 simp only [evC] at he
 split at he
 case h_2 => cases he
 rename_i st he1
 refine evR_okA hO hg he1 hR0.slots hR0.heap fun a w E g1 g2 g3 g4 => ?_
 have hR : Rel rr B E st a w := ⟨g1, g2, hR0.mok.ext hR0.heap g3 g4⟩
 split at he
 case h_2 => cases he
 rename_i es hmv
 split at he
 case isFalse => cases he
 rename_i hcond
 obtain ⟨hrl, hpl⟩ := hcond
 have hF := mrP_some he
 have hv := hR.slots.x hx
 rw [hmv] at hv
 generalize hxv : a.eval x = xv at hv
 cases hv with
 | rm _ b ents ck l2 hel hev hp hst hS hbk =>
  have hrun := run_range_map (P := P) w t kt et b ents ck hmt hbk
  refine op_value hog (fun c h => by rw [ho] at h; cases h) (v := .pointer (some ⟨w.heap.size, 0, none⟩)) (w' := w.alloc (.mapIter (some b) ck #[] ck)) (by simp [execOp, ho, hxv, hrun]) ?_
  have hbel : Below w.heap.size w (w.alloc (.mapIter (some b) ck #[] ck)) := (Below.refl _ w).alloc (Nat.le_refl _) _
  have hck : ∀ B, CKd B w (w.alloc (.mapIter (some b) ck #[] ck)) := fun B => CKd.of_below hbel
  have hx0 : Ext lk E w E (w.alloc (.mapIter (some b) ck #[] ck)) := (Ext.refl lk E w).ck (hck _)
  rw [hod]
  show Exit.then _ _ .normal _ _
  refine wpIn_block (wpIn_loop_rounds (es.length + 1) ?_)
  refine mr_rounds (st := ⟨st.s.set r .junk, st.h⟩) (keep := keep) (ke := ke) (G := fun y1 st1 => ((match ((y1, st1) : MX2 × MSt) with
          | (.normal, st') => evC O I N mc lk st'
          | p => some p).map fun p : MX2 × MSt => (p.1, headM k2 st.h.length p.2)) = some (y, st')) hops ho1 q1 q3 ho2 q2 q4 hb hrd hre hde hpl (fun es' hp' => ?_) (fun id hk => hR.heap.klt id hk) hR.heap.top (R := w.heap.size) (Nat.le_refl _) hel hev hp hst hS ?_ (es.length + 1) [] ⟨st.s.set r .junk, st.h⟩ (a.put (some r) (.pointer (some ⟨w.heap.size, 0, none⟩))) _ E #[] (by simp) List.nodup_nil (fun i hi => by cases hi) rfl ⟨?_, hR.heap.ck (hck 0), hR.mok.ext hR.heap hx0 (by simp [Act.put])⟩ hx0 ((hbel.block b (Array.getElem?_eq_some_iff.1 hbk).1).trans hbk) (World.alloc_heap_new w _) (fun j hj => by simp) ?_
  ·have h1 := hF es' hp'
   rw [Option.map_eq_some_iff] at h1
   obtain ⟨p2, h2, h3⟩ := h1
   rw [Option.bind_eq_some_iff] at h2
   obtain ⟨⟨y1, st1⟩, h4, h5⟩ := h2
   exact ⟨y1, st1, h4, by rw [Option.map_eq_some_iff]; exact ⟨p2, h5, h3⟩⟩
  ·intro y1 st1 a2 w2 E2 hG hR2 hx2
   rw [Option.map_eq_some_iff] at hG
   obtain ⟨⟨y2, st2⟩, h5, h6⟩ := hG
   simp only [Prod.mk.injEq] at h6
   obtain ⟨rfl, rfl⟩ := h6
   have fin : ∀ (x3 : Exit) a3 w3 E3, x3 = exitOf y2 → Rel rr B E3 st2 a3 w3 → Ext lk E w E3 w3 → Q x3 a3 w3 := fun x3 a3 w3 E3 e3 hR3 hx3 => by
    subst e3
    obtain ⟨E4, hR4, hx4, -⟩ := head_ok hR3 hx3 (fun id hk => hR.heap.klt id hk) hR.heap.top k2
    exact hQ0 a3 w3 E4 hR4 (g3.trans hx4)
   cases y1 with
   | normal =>
    show Exit.then _ _ .normal _ _
    exact hc lk st1 st2 y2 h5 rr B n E2 a2 w2 Q hR2 fun a3 w3 E3 hR3 hx3 => fin _ a3 w3 E3 rfl hR3 (hx2.trans hx3)
   | exit k =>
    simp only [Option.some.injEq, Prod.mk.injEq] at h5
    obtain ⟨rfl, rfl⟩ := h5
    exact fin _ a2 w2 E2 rfl hR2 hx2
   | ret =>
    simp only [Option.some.injEq, Prod.mk.injEq] at h5
    obtain ⟨rfl, rfl⟩ := h5
    exact fin _ a2 w2 E2 rfl hR2 hx2
  ·exact (hR.slots.ck (hck 0)).put (m := .junk) (.junk _) (some r)
  ·rw [eval_put, if_pos ⟨rfl, by rw [← hR.slots.1]; exact hrl⟩]
theorem code_mr (hO : SoundO P O) {id e i1 i2 : Nat} {ops1 ops2 : Array Oper} {o : Oper} {l : List Oper} {gl : List GO} {body : Code} (hl : ops1.toList = l ++ [o]) (hg : l.mapM (compG P ops1) = some gl)
  {ma mb : MC} (h1 : ∀ G, (CodeG O I N G (.reg gl) → CodeG O I N G ma)) (h3 : ∀ lk st x st1, evC O I N ma lk st = some (x, st1) → x = .normal)
  (h2 : CodeG O I N (fun rr n Q a w => wpListIn (Fw rr) n P ops1 (Exit.then (fun a w => (Code.block id (.loop (.seq (.region i2 ops2 false) (.seq (.cond (.tmp e) .skip (.exit id)) body)))).wpIn (Fw rr) n P Q a w) Q) [o] a w) mb) :
  CodeOK P O I N (.seq (.region i1 ops1 false) (.block id (.loop (.seq (.region i2 ops2 false) (.seq (.cond (.tmp e) .skip (.exit id)) body))))) (.seq ma mb) := by
 intro lk st st' y he rr B n E a w Q hR hQ
 refine wpIn_seq (wpIn_region_list ?_)
 rw [hl]
 simp only [evC] at he
 have hreg : CodeG O I N (fun rr n Q' a w => ∀ K : Act → World → Prop, (∀ a w, Q' .normal a w → K a w) → ∀ QQ, (∀ a w, K a w → wpListIn (Fw rr) n P ops1 QQ [o] a w) → wpListIn (Fw rr) n P ops1 QQ (l ++ [o]) a w) (.reg gl) := by
  intro lk st st' y he rr B n E a w Q' hR hQ' K hK QQ hQQ
  simp only [evC, Option.map_eq_some_iff, Prod.mk.injEq] at he
  obtain ⟨st1, he1, rfl, rfl⟩ := he
  exact evR_okA hO hg he1 hR.slots hR.heap fun a' w' E' k1 k2 k3 k4 => hQQ _ _ (hK _ _ (hQ' a' w' E' ⟨k1, k2, hR.mok.ext hR.heap k3 k4⟩ k3))
 have hma := h1 _ hreg
 split at he
 ·rename_i st1 he1
  refine hma lk st st1 .normal he1 rr B n E a w (fun _ a' w' => ∃ E', Rel rr B E' st1 a' w' ∧ Ext lk E w E' w') hR (fun a' w' E' k1 k2 => ⟨E', k1, k2⟩) (fun a' w' => ∃ E', Rel rr B E' st1 a' w' ∧ Ext lk E w E' w') (fun _ _ h => h) _ ?_
  rintro a' w' ⟨E', k1, k2⟩
  exact h2 lk st1 st' y he rr B n E' a' w' Q k1 fun a2 w2 E2 hR2 hx2 => hQ a2 w2 E2 hR2 (k2.trans hx2)
 ·rename_i hne
  have := h3 _ _ _ _ he
  subst this
  exact absurd he (hne st')
end
end Go.Proofs.YtnmgpbihknjdjaaDoor
