/- Regions in the order of the text. -/
import Derived.Test.YtgjpdjihjphbdaaLT
/- Regions in the order of the text. -/
namespace Go.Proofs.Ytgjpdjihjphbdaa
open Go.RowKit

section
variable {lk : Nat → Bool} {P : Program} {O : Oracle} {ops : Array Oper} {w : World} {E : Env} {o : Oper} {go : GO} {a : Act} {s : List MV} {h : MHeap}

theorem compG_dst (hc : compG P ops o = some go) : go.dst = o.dst := by
  unfold compG at hc
  rw [Option.map_eq_some_iff] at hc
  obtain ⟨g, -, rfl⟩ := hc
  rfl
theorem compG_op (hc : compG P ops o = some go) : go.op = (compO P o).getD .bad := by
  unfold compG at hc
  rw [Option.map_eq_some_iff] at hc
  obtain ⟨g, -, rfl⟩ := hc
  rfl
theorem compG_guard (hc : compG P ops o = some go) : (o.guard = none ∧ go.guard = none) ∨ ∃ j b oj d, o.guard = some (j, b) ∧ ops[j]? = some oj ∧ oj.dst = some d ∧ go.guard = some (d, b) := by
  unfold compG at hc
  rw [Option.map_eq_some_iff] at hc
  obtain ⟨g, hg, rfl⟩ := hc
  unfold gM at hg
  split at hg
  · rename_i e
    cases hg
    exact .inl ⟨e, rfl⟩
  · rename_i j b e
    simp only [Option.bind_eq_some_iff, Option.map_eq_some_iff] at hg
    obtain ⟨oj, h1, d, h2, rfl⟩ := hg
    exact .inr ⟨j, b, oj, d, e, h1, h2, rfl⟩

theorem wantM_wanted (hc : compG P ops o = some go) (hs : Slots E w s a) {t : Bool} (ht : wantM s go.guard = some t) : Region.wanted o (yielded ops a.tmps) = t := by
  rcases compG_guard hc with ⟨e1, e2⟩ | ⟨j, b, oj, d, e1, e2, e3, e4⟩
  · rw [e2] at ht
    simp [wantM] at ht
    subst ht
    simp [Region.wanted, e1]
  · rw [e4] at ht
    have hd := hs.tmp d
    simp only [wantM] at ht
    have hy : yielded ops a.tmps j = match a.tmps[d]? with | some (.bool b) => some b | _ => none := by
      unfold yielded
      simp only [e2, e3, Option.bind_some]
      generalize a.tmps[d]? = x
      rcases x with _ | u
      · rfl
      · cases u <;> rfl
    have hgd : ∀ v, a.tmps.getD d undef = v → (∀ b, v = .bool b → a.tmps[d]? = some (.bool b)) := fun v hv b hb => by
      subst hb
      cases hx : a.tmps[d]? with
      | none => simp [hx, undef] at hv
      | some u => simp [hx] at hv; rw [hv]
    simp only [Region.wanted, e1, hy]
    split at ht
    · rename_i x hx
      cases ht
      rw [hx] at hd
      rw [hgd _ rfl x hd.lit_eq]
      cases x <;> cases b <;> rfl
    · rename_i x hx
      cases ht
      rw [hx] at hd
      have h2 := hd.lit_eq
      cases hxd : a.tmps[d]? with
      | none => rfl
      | some u =>
        simp [hxd] at h2
        rw [h2]
        rfl
    · cases ht

/-- One operation of a region. -/
theorem evG_ok (hO : SoundO P O) (hc : compG P ops o = some go) (hs : Slots E w s a) (hr : HRel E h w) {st' : MSt} (he : evG lk O go ⟨s, h⟩ = some st') {r : Option Nat} {n : Nat} {K : Act → World → Prop} {Q : Exit → Act → World → Prop}
    (hK : ∀ a' w' E', Slots E' w' st'.s a' → HRel E' st'.h w' → Ext lk E w E' w' → a'.defers = a.defers → K a' w') :
    if Region.wanted o (yielded ops a.tmps) then o.wpIn (Fw r) n P a w K Q else (∀ f, o.about P w a.eval = some f → (Fw r).fn f) ∧ K (a.put o.dst undef) w := by
  have hputd : ∀ (v : Value), (a.put o.dst v).defers = a.defers := fun v => by cases o.dst <;> rfl
  unfold evG at he
  split at he
  · cases he
  · rename_i t ht
    rw [wantM_wanted hc hs ht]
    cases t
    · simp only [Bool.false_eq_true, if_false, Option.some.injEq] at he ⊢
      subst he
      refine ⟨about_wide o a w, hK _ _ E ?_ hr (Ext.refl _ _ _) (hputd _)⟩
      rw [compG_dst hc]
      exact hs.put (.lit _) _
    · simp only [if_true] at he ⊢
      split at he
      case h_2 => cases he
      rename_i v h' hev
      cases he
      rw [compG_op hc] at hev
      cases hco : compO P o with
      | none => rw [hco] at hev; simp [evO] at hev
      | some mo =>
        rw [hco] at hev
        refine (evO_ok hO hco hs hr hev).1 r n K Q fun u w' E' h1 h2 h3 => hK _ _ E' ?_ h2 h3 (hputd _)
        rw [compG_dst hc]
        exact (hs.ext hr h3).put h1 _

theorem evR_ok (hO : SoundO P O) {r : Option Nat} {n : Nat} {Q : Exit → Act → World → Prop} : ∀ {l : List Oper} {gl : List GO} {st st' : MSt} {a : Act} {w : World} {E : Env}, l.mapM (compG P ops) = some gl → evR lk O gl st = some st' → Slots E w st.s a → HRel E st.h w →
    (∀ a' w' E', Slots E' w' st'.s a' → HRel E' st'.h w' → Ext lk E w E' w' → a'.defers = a.defers → Q .normal a' w') → wpListIn (Fw r) n P ops Q l a w
  | [], gl, st, st', a, w, E, hm, he, hs, hr, hQ => by
    simp at hm; subst hm
    simp [evR] at he; subst he
    exact hQ a w E hs hr (Ext.refl _ _ _) rfl
  | o :: l, gl, st, st', a, w, E, hm, he, hs, hr, hQ => by
    simp only [List.mapM_cons, Option.pure_def, Option.bind_eq_bind, Option.bind_eq_some_iff, Option.some.injEq] at hm
    obtain ⟨go, hgo, gl', hgl, rfl⟩ := hm
    simp only [evR, Option.bind_eq_some_iff] at he
    obtain ⟨st1, he1, he2⟩ := he
    unfold wpListIn
    exact evG_ok hO hgo hs hr he1 fun a' w' E' h1 h2 h3 h4 => evR_ok hO hgl he2 h1 h2 fun a'' w'' E'' k1 k2 k3 k4 => hQ a'' w'' E'' k1 k2 (h3.trans k3) (k4.trans h4)
end

end Go.Proofs.Ytgjpdjihjphbdaa

/- Regions that draw their order. -/
namespace Go.Proofs.Ytgjpdjihjphbdaa
open Go.RowKit

/-- Operation j waits for operation i. -/
def rch (ops : Array Oper) : Nat → Nat → Nat → Bool
  | 0, _, _ => false
  | f + 1, j, i => match ops[j]? with
    | some o => o.after.any fun e => Region.binds .any e && (e.on == i || (decide (i < e.on) && rch ops f e.on i))
    | none => false

theorem xslots_get {l : List MX} {s s' : List MV} (h : ∀ t ∈ xslots l, s.getD t (.lit undef) = s'.getD t (.lit undef)) : ∀ x ∈ l, MX.get s x = MX.get s' x := by
  intro x hx
  cases x with
  | c v => rfl
  | s t => exact h t (List.mem_filterMap.2 ⟨.s t, hx, rfl⟩)

theorem evO_congr {lk : Nat → Bool} {O : Oracle} {s s' : List MV} {h : MHeap} {mo : MO} (hx : ∀ x ∈ mo.xs, MX.get s x = MX.get s' x) : evO lk O s h mo = evO lk O s' h mo := by
  cases mo <;> simp only [MO.xs] at hx
  case build z ps =>
    have e1 : (ps.map fun p => (p.1, (p.2.2.get s).cells)) = ps.map fun p => (p.1, (p.2.2.get s').cells) := List.map_congr_left fun p hp => by rw [hx p.2.2 (List.mem_map.2 ⟨p, hp, rfl⟩)]
    have e2 : (ps.all fun p => (p.2.2.get s).cells.length == p.2.1 && (p.2.2.get s).cOk) = ps.all fun p => (p.2.2.get s').cells.length == p.2.1 && (p.2.2.get s').cOk := by
      rw [Bool.eq_iff_iff, List.all_eq_true, List.all_eq_true]
      constructor <;> intro h p hp <;> have := h p hp <;> have e := hx p.2.2 (List.mem_map.2 ⟨p, hp, rfl⟩)
      · rw [← e]; exact this
      · rw [e]; exact this
    simp only [evO, e1, e2]
  case bsl z sz len ps =>
    have e1 : (ps.map fun p => (p.1, p.2.get s)) = ps.map fun p => (p.1, p.2.get s') := List.map_congr_left fun p hp => by rw [hx p.2 (List.mem_map.2 ⟨p, hp, rfl⟩)]
    simp only [evO, e1]
  case vsl z sz len ps =>
    have e1 : (ps.map fun p => (p.1, p.2.get s)) = ps.map fun p => (p.1, p.2.get s') := List.map_congr_left fun p hp => by rw [hx p.2 (List.mem_map.2 ⟨p, hp, rfl⟩)]
    simp only [evO, e1]
  case mf f cs =>
    have e1 : cs.map (MX.get s) = cs.map (MX.get s') := List.map_congr_left fun p hp => hx p hp
    simp only [evO, e1]
  case call f as_ =>
    have e1 : as_.map (MX.get s) = as_.map (MX.get s') := List.map_congr_left fun p hp => hx p hp
    simp only [evO, e1]
  case callv x as_ =>
    have e1 : as_.map (MX.get s) = as_.map (MX.get s') := List.map_congr_left fun p hp => hx p (List.mem_cons_of_mem _ hp)
    have e2 := hx x List.mem_cons_self
    simp only [evO, e1, e2]
  case slc sz x lo hi =>
    have e1 := hx x List.mem_cons_self
    have e2 : lo.map (MX.get s) = lo.map (MX.get s') := by
      cases lo with
      | none => rfl
      | some y => simp [hx y (by simp)]
    have e3 : hi.map (MX.get s) = hi.map (MX.get s') := by
      cases hi with
      | none => rfl
      | some y => simp [hx y (by simp)]
    simp only [evO, e1, e2, e3]
  all_goals (first | rfl | (simp only [List.mem_cons, List.not_mem_nil, or_false, forall_eq_or_imp, forall_eq] at hx; simp only [evO, hx]))

theorem elems_mono {h t : MHeap} {m : MV} {es : List MV} (he : m.elems h = some es) : m.elems (h ++ t) = some es := by
  unfold MV.elems at he ⊢
  split at he <;> try (first | exact he | cases he; done)
  rename_i id i n g
  split at he
  · rename_i o ho
    have := (List.getElem?_eq_some_iff.1 ho).1
    simp only [List.getElem?_append_left this, ho]
    exact he
  · cases he
theorem ok_mono {h t : MHeap} {id g sz : Nat} (he : MHeap.ok h id g sz = true) : MHeap.ok (h ++ t) id g sz = true := by
  unfold MHeap.ok at he ⊢
  split at he
  · rename_i o ho
    have := (List.getElem?_eq_some_iff.1 ho).1
    simp only [List.getElem?_append_left this, ho]
    exact he
  · cases he

theorem evO_mono {lk : Nat → Bool} {O : Oracle} {s : List MV} {h h' t : MHeap} {mo : MO} {v : MV} (hp : mo.isP = true) (he : evO lk O s h mo = some (v, h')) : h' = h ∧ evO lk O s (h ++ t) mo = some (v, h ++ t) := by
  cases mo <;> simp only [MO.isP, Bool.false_eq_true] at hp <;> simp only [evO] at he ⊢
  case ld ag x =>
    split at he
    · simp only [Option.map_eq_some_iff, Prod.mk.injEq] at he ⊢
      obtain ⟨m, h1, rfl, rfl⟩ := he
      simp [h1]
    · split at he
      · rename_i o ho
        have hl := (List.getElem?_eq_some_iff.1 ho).1
        simp only [List.getElem?_append_left hl, ho]
        split at he
        · rename_i hg
          simp only [if_pos hg]
          split at he
          · simp only [Option.map_eq_some_iff, Prod.mk.injEq] at he ⊢
            obtain ⟨m, h1, rfl, rfl⟩ := he
            simp [h1]
          · cases he
        · cases he
      · cases he
    · cases he
  case eqn neg x =>
    split at he
    · split at he
      · rename_i o ho
        have hl := (List.getElem?_eq_some_iff.1 ho).1
        simp only [List.getElem?_append_left hl, ho]
        split at he
        · rename_i hg
          simp only [if_pos hg]
          simp only [Option.some.injEq, Prod.mk.injEq] at he ⊢
          exact ⟨he.2.symm, he.1, trivial⟩
        · cases he
      · cases he
    · simp only [Option.some.injEq, Prod.mk.injEq] at he ⊢
      exact ⟨he.2.symm, he.1, trivial⟩
    · simp only [Option.some.injEq, Prod.mk.injEq] at he ⊢
      exact ⟨he.2.symm, he.1, trivial⟩
    · cases he
  case slc sz x lo hi =>
    split at he
    · split at he
      · rename_i hc
        simp only [if_pos hc, Option.some.injEq, Prod.mk.injEq] at he ⊢
        exact ⟨he.2.symm, he.1, trivial⟩
      · cases he
    · split at he
      · rename_i hc
        simp only [if_pos hc, Option.some.injEq, Prod.mk.injEq] at he ⊢
        exact ⟨he.2.symm, he.1, trivial⟩
      · cases he
    · split at he
      · rename_i hc
        rw [if_pos ⟨hc.1, hc.2.1, hc.2.2.1, ok_mono hc.2.2.2⟩]
        simp only [Option.some.injEq, Prod.mk.injEq] at he ⊢
        exact ⟨he.2.symm, he.1, trivial⟩
      · cases he
    · split at he
      · rename_i hc
        rw [if_pos ⟨hc.1, hc.2.1, ok_mono hc.2.2⟩]
        simp only [Option.some.injEq, Prod.mk.injEq] at he ⊢
        exact ⟨he.2.symm, he.1, trivial⟩
      · cases he
    · cases he
  case ia sz x i =>
    split at he
    · split at he
      · rename_i hc
        simp only [if_pos hc]
        obtain ⟨e, h1, h2⟩ := Option.bind_eq_some_iff.1 he
        rw [h1]
        simp only [Option.bind_some]
        split at h2
        · rename_i hcl
          simp only [if_pos hcl, Option.some.injEq, Prod.mk.injEq] at h2 ⊢
          exact ⟨h2.2.symm, h2.1, trivial⟩
        · cases h2
      · cases he
    · split at he
      · rename_i hc
        rw [if_pos ⟨hc.1, hc.2.1, ok_mono hc.2.2⟩]
        simp only [Option.some.injEq, Prod.mk.injEq] at he ⊢
        exact ⟨he.2.symm, he.1, trivial⟩
      · cases he
    · cases he
  case build z ps =>
    split at he
    case h_2 => cases he
    split at he
    case isFalse => cases he
    rename_i hall
    simp only [if_pos hall, Option.some.injEq, Prod.mk.injEq] at he ⊢
    exact ⟨he.2.symm, he.1, trivial⟩
  case mx x y =>
    split at he
    case h_2 => cases he
    simp only [Option.some.injEq, Prod.mk.injEq] at he ⊢
    exact ⟨he.2.symm, he.1, trivial⟩
  case mn x y =>
    split at he
    case h_2 => cases he
    simp only [Option.some.injEq, Prod.mk.injEq] at he ⊢
    exact ⟨he.2.symm, he.1, trivial⟩
  all_goals
    repeat' (split at he)
    all_goals (first | (cases he; done) | (obtain ⟨m, h1, e⟩ := Option.map_eq_some_iff.1 he; simp only [Prod.mk.injEq] at e; obtain ⟨rfl, rfl⟩ := e; simp_all; done) | (simp only [Option.some.injEq, Prod.mk.injEq] at he; obtain ⟨rfl, rfl⟩ := he; simp_all; done) | (simp_all; done))

theorem evO_any {lk : Nat → Bool} {O : Oracle} {s : List MV} {h h' h2 : MHeap} {mo : MO} {v : MV} (hp : mo.isP = true) (hr : mo.isR = false) (he : evO lk O s h mo = some (v, h')) : h' = h ∧ evO lk O s h2 mo = some (v, h2) := by
  cases mo <;> simp only [MO.isP, Bool.false_eq_true] at hp <;> simp only [MO.isR, Bool.true_eq_false] at hr <;> simp only [evO] at he ⊢
  case build z ps =>
    split at he
    case h_2 => cases he
    split at he
    case isFalse => cases he
    rename_i hall
    simp only [if_pos hall, Option.some.injEq, Prod.mk.injEq] at he ⊢
    exact ⟨he.2.symm, he.1, trivial⟩
  case mx x y =>
    split at he
    case h_2 => cases he
    simp only [Option.some.injEq, Prod.mk.injEq] at he ⊢
    exact ⟨he.2.symm, he.1, trivial⟩
  case mn x y =>
    split at he
    case h_2 => cases he
    simp only [Option.some.injEq, Prod.mk.injEq] at he ⊢
    exact ⟨he.2.symm, he.1, trivial⟩
  all_goals
    repeat' (split at he)
    all_goals (first | (cases he; done) | (obtain ⟨m, h1, e⟩ := Option.map_eq_some_iff.1 he; simp only [Prod.mk.injEq] at e; obtain ⟨rfl, rfl⟩ := e; simp_all; done) | (simp only [Option.some.injEq, Prod.mk.injEq] at he; obtain ⟨rfl, rfl⟩ := he; simp_all; done) | (simp_all; done))

end Go.Proofs.Ytgjpdjihjphbdaa

/- Regions that draw their order: every order comes to what the text's order comes to. -/
namespace Go.Proofs.Ytgjpdjihjphbdaa
open Go.RowKit

/-- Calls only add objects. -/
def AppO (O : Oracle) : Prop := ∀ f args h m h', O f args h = some (m, h') → ∃ t, h' = h ++ t

theorem evO_app {lk : Nat → Bool} {O : Oracle} (hA : AppO O) {s : List MV} {h h' : MHeap} {mo : MO} {v : MV} (hm : mo.isM = false) (he : evO lk O s h mo = some (v, h')) : ∃ t, h' = h ++ t := by
  by_cases hp : mo.isP = true
  · exact ⟨[], by rw [(evO_mono (t := []) hp he).1]; simp⟩
  · cases mo <;> simp only [MO.isP, not_true_eq_false] at hp <;> simp only [MO.isM, Bool.true_eq_false] at hm <;> simp only [evO] at he
    case call => exact hA _ _ _ _ _ he
    case callv =>
      split at he
      · exact hA _ _ _ _ _ he
      · cases he
    all_goals
      repeat' (split at he)
      all_goals (first | (cases he; done) | (simp only [Option.some.injEq, Prod.mk.injEq] at he; exact ⟨_, he.2.symm⟩))

theorem evG_put {lk : Nat → Bool} {O : Oracle} {go : GO} {st st' : MSt} (he : evG lk O go st = some st') : ∃ v, st'.s = putM st.s go.dst v ∧ ((wantM st.s go.guard = some true ∧ evO lk O st.s st.h go.op = some (v, st'.h)) ∨ (wantM st.s go.guard = some false ∧ v = .lit undef ∧ st'.h = st.h)) := by
  unfold evG at he
  split at he
  · cases he
  · rename_i t ht
    cases t
    · simp only [Bool.false_eq_true, if_false, Option.some.injEq] at he
      subst he
      exact ⟨_, rfl, .inr ⟨ht, rfl, rfl⟩⟩
    · simp only [if_true] at he
      split at he
      case h_2 => cases he
      rename_i v h' hev
      cases he
      exact ⟨v, rfl, .inl ⟨ht, hev⟩⟩

theorem evR_trace {lk : Nat → Bool} {O : Oracle} : ∀ {l : List GO} {st st' : MSt}, evR lk O l st = some st' → ∃ tr : Nat → MSt, tr 0 = st ∧ tr l.length = st' ∧ ∀ (i : Nat) go, l[i]? = some go → evG lk O go (tr i) = some (tr (i + 1))
  | [], st, st', h => by
    simp [evR] at h; subst h
    exact ⟨fun _ => st, rfl, rfl, fun i go hi => by simp at hi⟩
  | g :: l, st, st', h => by
    simp only [evR, Option.bind_eq_some_iff] at h
    obtain ⟨st1, h1, h2⟩ := h
    obtain ⟨tr, t0, tn, ts⟩ := evR_trace h2
    refine ⟨fun i => match i with | 0 => st | i + 1 => tr i, rfl, by simpa using tn, fun i go hi => ?_⟩
    cases i with
    | zero => simp at hi; subst hi; simpa [t0] using h1
    | succ i => simp at hi; exact ts i go hi

/-- The object that a value speaks of at once. -/
def MV.id? : MV → Option Nat
  | .ptr id _ _ _ => some id
  | .arr id _ _ _ => some id
  | _ => none
/-- A slice that is made: it may be laid late. -/
def isMk : Op → Bool
  | .makeSlice _ _ _ => true
  | _ => false

theorem HRel.more {E : Env} {h : MHeap} {w : World} (hr : HRel E h w) (t : MHeap) : HRel E (h ++ t) w :=
  ⟨fun id hk => by have := hr.klt id hk; simp; omega, by have := hr.top; simp; omega, fun id hk => by
    obtain ⟨es, a1, a2⟩ := hr.obj id hk
    exact ⟨es, by rw [List.getElem?_append_left (hr.klt id hk)]; exact a1, a2⟩, hr.inj, hr.sep, hr.slt⟩
theorem EnvLe.topE (E : Env) (n : Nat) : EnvLe E { E with top := n } := ⟨fun _ h => h, fun _ h => ⟨h, rfl, rfl, rfl, rfl, rfl, rfl, rfl⟩, rfl⟩
theorem HRel.topE {E : Env} {h : MHeap} {w : World} (hr : HRel E h w) {n : Nat} (hn : n ≤ h.length) : HRel { E with top := n } h w :=
  ⟨hr.klt, hn, fun id hk => by
    obtain ⟨es, a1, a2, a3, a4, a5⟩ := hr.obj id hk
    refine ⟨es, a1, a2, a3, a4, fun hc => ?_⟩
    obtain ⟨arr, t, b1, b2, b3⟩ := a5 hc
    exact ⟨arr, t, b1, b2, fun k c hk => by obtain ⟨v, c1, c2⟩ := b3 k c hk; exact ⟨v, c1, c2.env (EnvLe.topE _ _)⟩⟩, hr.inj, hr.sep, hr.slt⟩
theorem Ext.topE {lk : Nat → Bool} {E E' : Env} {w w' : World} {n : Nat} (hx : Ext lk { E with top := n } w E' w') (hn : E.top ≤ n) : Ext lk E w { E' with top := E.top } w' :=
  { os := hx.os, tape := hx.tape, output := hx.output, size := hx.size, keep := hx.keep, S := hx.S, K := hx.K, old := hx.old, lock := hx.lock, src := hx.src, top := rfl, yl := hx.yl, srcS := hx.srcS, srcK := fun id hk => (hx.srcK id hk).imp (fun h => h) fun h => Nat.le_trans hn h }

/-- An operation, done when its object has been spoken of for long. -/
theorem late_ok {P : Program} {lk : Nat → Bool} {O : Oracle} {o : Oper} {mo : MO} {a : Act} {w : World} {E : Env} {s : List MV} {h0 h1 H : MHeap} {m : MV} (hc : compO P o = some mo) (hk : isMk o.op = true) (hs : Slots E w s a) (hr : HRel E H w) (he : evO lk O s h0 mo = some (m, h1))
    (hnk : ¬ E.K h0.length) (ht : E.top ≤ h0.length) (hid : H[h0.length]? = h1[h0.length]?) {r : Option Nat} {n : Nat} {K : Act → World → Prop} {Q : Exit → Act → World → Prop}
    (hK : ∀ v w' E', V E' w' m v → HRel E' H w' → Ext lk E w E' w' → (∀ id, E'.K id → E.K id ∨ id = h0.length) → K (a.put o.dst v) w') : o.wpIn (Fw r) n P a w K Q := by
  have hnd : ∀ c, o.op ≠ .defer c := fun c e => by simp [compO, e] at hc
  obtain ⟨dst, op, type, pos, after, guard⟩ := o
  cases op <;> simp only [isMk, Bool.false_eq_true] at hk
  rename_i t l c
  simp only [compO, Option.bind_eq_bind, Option.bind_eq_some_iff] at hc
  obtain ⟨e, ht1, ie, hie, z1, hz, hc⟩ := hc
  split at hc
  case isFalse => cases hc
  rename_i hcond
  simp only [Option.bind_eq_some_iff, Option.some.injEq] at hc
  obtain ⟨l', hl, rfl⟩ := hc
  obtain ⟨hlc, hby, hpos, hzl, hok⟩ := hcond
  have h1 := hs.x hl
  simp only [evO] at he
  split at he
  case h_2 => cases he
  rename_i k hn
  split at he
  case isFalse => cases he
  rename_i hb
  simp only [Option.some.injEq, Prod.mk.injEq] at he
  obtain ⟨rfl, rfl⟩ := he
  rw [hn] at h1
  have hv := h1.lit_eq
  have hcc : a.eval c = a.eval l := by
    unfold sameX at hlc
    split at hlc
    · simp at hlc; subst hlc; rfl
    · simp at hlc; subst hlc; rfl
    · cases hlc
  unfold telem at ht1
  split at ht1
  case h_2 => cases ht1
  rename_i e' hu
  cases ht1
  unfold tzero at hz
  rw [Option.map_eq_some_iff] at hz
  obtain ⟨zv, hzv, rfl⟩ := hz
  obtain ⟨ie', hie', hzero⟩ := Option.bind_eq_some_iff.1 hzv
  rw [hie] at hie'
  cases hie'
  have hbytes : (ie.bytes : Int) * k ≤ 281474976710656 := by
    have : (ie.bytes : Int) * k ≤ 100000 * 1000000 := Int.mul_le_mul (by omega) hb.2 hb.1 (by omega)
    omega
  have hrun := run_make (P := P) w t e ie zv hu hie hzero .i64 .i64 k k hb.1 (Int.le_refl _) hbytes (by omega)
  have hrep : ∀ x ∈ List.replicate k.toNat (ofV zv), x.cells.length = ie.size := fun x hx => by rw [(List.mem_replicate.1 hx).2]; exact hzl
  have hidv : H[h0.length]? = some ⟨0, false, ie.size, List.replicate k.toNat (ofV zv)⟩ := by rw [hid, hzl]; simp
  have hcells := made_rep (n := k.toNat) (ofV_ok (E := E) (w := w) hok) hzl
  obtain ⟨r1, r2⟩ := hr.put (lk := lk) (w' := w.alloc (.cells (madeCells zv.cells (k.toNat * ie.size)) e)) (h' := H) (id := h0.length) (b := w.heap.size) (bo := 0) (cp := k.toNat) (sz := ie.size) (g := 0) (nl := false) (es := List.replicate k.toNat (ofV zv))
    (OnlyObj.of_below ((Below.refl _ w).alloc (Nat.le_refl _) _)) (fun hk => absurd hk hnk) (fun _ => .inl (Nat.le_refl _)) (fun j _ _ => rfl) hidv hrep (by simp)
    (fun _ => ⟨_, _, World.alloc_heap_new w _, by have := hcells.1; rw [flat_len hrep] at this; simpa using this.symm, fun q m hq => by
      have hql := (List.getElem?_eq_some_iff.1 hq).1
      have hql' : q < (madeCells zv.cells (k.toNat * ie.size)).toList.length := hcells.1 ▸ hql
      refine ⟨(madeCells zv.cells (k.toNat * ie.size)).toList[q], by simp at hql' ⊢, ?_⟩
      have hV := hcells.2 q m _ hq (List.getElem?_eq_getElem hql')
      exact hV.ext hr (Ext.put (OnlyObj.of_below (lk := lk) ((Below.refl _ w).alloc (Nat.le_refl _) _)) (fun hk => absurd hk hnk) (fun _ => .inl (Nat.le_refl _)) (.inr ht))⟩) (Nat.le_refl _) (.inr ht)
  refine wpIn_val hnd (v := .slice (some ⟨w.heap.size, 0, none⟩) k.toNat k.toNat) (by simp [execOp, hv, hcc, hrun]) (hK _ _ _ ?_ r1 r2 fun id hk => hk)
  rw [List.length_replicate]
  exact arr_put (Nat.le_refl _)

def isBs : Op → Bool
  | .buildSlice _ _ _ => true
  | _ => false
/-- A slice that only the region itself reads: done in whatever order. -/
theorem quiet_ok {P : Program} {lk : Nat → Bool} {O : Oracle} {o : Oper} {a : Act} {w : World} {E : Env} {s : List MV} {h0 h1 H : MHeap} {m z : MV} {sz len : Nat} {ps : List (Nat × MX)} (hc : compO P o = some (.bsl z sz len ps)) (hb : isBs o.op = true) (hs : Slots E w s a) (hr : HRel E H w) (he : evO lk O s h0 (.vsl z sz len ps) = some (m, h1))
    {r : Option Nat} {n : Nat} {K : Act → World → Prop} {Q : Exit → Act → World → Prop}
    (hK : ∀ v w' E', V E' w' m v → HRel E' H w' → Ext lk E w E' w' → (∀ id, E'.K id → E.K id) → K (a.put o.dst v) w') : o.wpIn (Fw r) n P a w K Q := by
  have hnd : ∀ c, o.op ≠ .defer c := fun c e => by simp [compO, e] at hc
  obtain ⟨dst, op, type, pos, after, guard⟩ := o
  cases op <;> simp only [isBs, Bool.false_eq_true] at hb
  rename_i t len' parts
  simp only [compO, Option.bind_eq_bind, Option.bind_eq_some_iff] at hc
  obtain ⟨e, ht, sz', hsz, z', hz, hc⟩ := hc
  split at hc
  case isFalse => cases hc
  rename_i hcond
  simp only [Option.bind_eq_some_iff, Option.some.injEq] at hc
  obtain ⟨parts', hp, hbe⟩ := hc
  cases hbe
  obtain ⟨hsmall, hpos, hzl, hok⟩ := hcond
  simp only [evO] at he
  split at he
  case h_2 => cases he
  rename_i es hf
  simp only [Option.some.injEq, Prod.mk.injEq] at he
  obtain ⟨rfl, rfl⟩ := he
  unfold telem at ht
  split at ht
  case h_2 => cases ht
  rename_i e' hu
  cases ht
  unfold tsz at hsz
  rw [Option.map_eq_some_iff] at hsz
  obtain ⟨ie, hie, rfl⟩ := hsz
  unfold tzero at hz
  rw [Option.map_eq_some_iff] at hz
  obtain ⟨zv, hzv, rfl⟩ := hz
  obtain ⟨ie', hie', hzero⟩ := Option.bind_eq_some_iff.1 hzv
  rw [hie] at hie'
  cases hie'
  obtain ⟨hl, -⟩ := mapM_some hp
  have hrep : ∀ x ∈ List.replicate len (ofV zv), x.cells.length = ie.size := fun x hx => by rw [(List.mem_replicate.1 hx).2]; exact hzl
  obtain ⟨cs', k1, k2, k3, k4⟩ := fill_e (E := E) (w := w) (parts := (parts.map fun p => (p.1, a.eval p.2)).toList) hrep (made_rep (n := len) (ofV_ok hok) hzl) (by simpa using hl) (fun i p m hp' hm => by
    rw [Array.toList_map, List.getElem?_map, Option.map_eq_some_iff] at hp'
    obtain ⟨q, hq, rfl⟩ := hp'
    rw [List.getElem?_map, Option.map_eq_some_iff] at hm
    obtain ⟨q', hq', rfl⟩ := hm
    obtain ⟨y, hy, hfy⟩ := mapM_all hp hq
    rw [hq'] at hy
    cases hy
    simp only [Option.bind_eq_some_iff, Option.some.injEq] at hfy
    obtain ⟨x', h2, rfl⟩ := hfy
    exact ⟨rfl, hs.x h2⟩) hf
  rw [List.length_replicate] at k4
  have hbel : Below w.heap.size w (w.alloc (.cells cs' e)) := (Below.refl _ w).alloc (Nat.le_refl _) _
  have hnew := World.alloc_heap_new w (.cells cs' e)
  have hsize : w.heap.size < (w.alloc (.cells cs' e)).heap.size := (Array.getElem?_eq_some_iff.1 hnew).1
  obtain ⟨E', hE'⟩ : ∃ E' : Env, E' = { E with S := fun b => E.S b ∨ b = w.heap.size } := ⟨_, rfl⟩
  have hx : Ext lk E w E' (w.alloc (.cells cs' e)) := by
    subst hE'
    exact { os := hbel.os, tape := hbel.tape, output := hbel.output, size := hbel.size, keep := fun k hk _ => hbel.block k hk, S := fun b h => .inl h, K := fun id h => h, old := fun id _ => ⟨Nat.le_refl _, fun _ => ⟨rfl, rfl, rfl, rfl, rfl, rfl⟩⟩, lock := fun _ _ _ => rfl, src := fun id hk hc => .inl ⟨hk, hc, rfl⟩, top := rfl, srcK := fun id h => .inl h, yl := rfl, srcS := fun b h => h.imp_right fun e => .inr (Nat.le_of_eq e.symm) }
  have hr' : HRel E' H (w.alloc (.cells cs' e)) := by
    have hobj : ∀ id, E.K id → 0 < E.cp id → (w.alloc (.cells cs' e)).heap[E.ρ id]? = w.heap[E.ρ id]? := fun id hk hc => hbel.block _ (hr.lt hk hc)
    refine ⟨by subst hE'; exact hr.klt, by subst hE'; exact hr.top, fun id hk => ?_, by subst hE'; exact hr.inj, fun id hk hc hS => ?_, fun b hb => ?_⟩
    · have hk2 : E.K id := by subst hE'; exact hk
      obtain ⟨es, a1, a2, a3, a4, a5⟩ := hr.obj id hk2
      have e1 : E'.gn = E.gn ∧ E'.nl = E.nl ∧ E'.sz = E.sz ∧ E'.ln = E.ln ∧ E'.bo = E.bo ∧ E'.cp = E.cp ∧ E'.ρ = E.ρ := by subst hE'; exact ⟨rfl, rfl, rfl, rfl, rfl, rfl, rfl⟩
      obtain ⟨e1, e2, e3, e4, e5, e6, e7⟩ := e1
      rw [e1, e2, e3, e4, e5, e6, e7]
      refine ⟨es, a1, a2, a3, a4, fun hc => ?_⟩
      obtain ⟨arr, t, b1, b2, b3⟩ := a5 hc
      exact ⟨arr, t, by rw [hobj id hk2 hc]; exact b1, b2, fun k c hk => by obtain ⟨v, c1, c2⟩ := b3 k c hk; exact ⟨v, c1, c2.ext hr hx⟩⟩
    · subst hE'
      rcases hS with hS | hS
      · exact hr.sep id hk hc hS
      · have h1 := hr.lt (id := id) hk hc
        have h2 : E.ρ id = w.heap.size := hS
        omega
    · subst hE'
      rcases hb with hb | hb
      · exact Nat.lt_of_lt_of_le (hr.slt b hb) hbel.size
      · rw [hb]; exact hsize
  have hV : V E' (w.alloc (.cells cs' e)) (.sl es) (.slice (some ⟨w.heap.size, 0, none⟩) len len) := by
    have := V.sl (E := E') (w := w.alloc (.cells cs' e)) es cs'.toList (some ⟨w.heap.size, 0, none⟩) len ie.size (by rw [k4]; exact Nat.le_refl _) k3 k2.1 (fun i c v h1 h2 => (k2.2 i c v h1 h2).ext hr hx)
      (fun _ => ⟨w.heap.size, 0, rfl, by subst hE'; exact .inr rfl, fun i v hv => by simp only [World.cell?, hnew]; simpa using hv⟩)
    rwa [k4] at this
  refine wpIn_val hnd (v := .slice (some ⟨w.heap.size, 0, none⟩) len len) ?_ (hK _ _ _ hV hr' hx fun id hk => by subst hE'; exact hk)
  by_cases h0 : len * ie.size = 0
  · obtain rfl : len = 0 := by
      rcases Nat.mul_eq_zero.1 h0 with h | h
      · exact h
      · omega
    have hr0 : Array.range 0 = #[] := rfl
    simp [madeCells, hr0] at k1
    simp [execOp, Instr.buildSlice, run_underlying hu, sizeOf, typeInfo, hie, newRow, hr0, k1]
  · have := run_buildSlice (P := P) w t e len (parts.map fun (p : Nat × Operand) => (p.1, a.eval p.2)) cs' ie zv hu hie hzero (by omega) h0 (by unfold madeCells at k1; exact k1)
    simp [execOp, this]

/-- Objects that an operation does not speak of stay. -/
theorem evO_keep {lk : Nat → Bool} {O : Oracle} (hA : AppO O) {E : Env} {w : World} {s : List MV} {a : Act} {h h' : MHeap} {mo : MO} {v : MV} (hs : Slots E w s a) (hc : ∀ x ∈ mo.xs, ∀ c, x = .c c → c.id?.isNone) (he : evO lk O s h mo = some (v, h')) {id : Nat} (hl : id < h.length) (hk : ¬ E.K id) : h'[id]? = h[id]? := by
  cases hm : mo.isM
  · obtain ⟨t, rfl⟩ := evO_app hA hm he
    exact List.getElem?_append_left hl
  · have tgt : ∀ {x : MX}, x ∈ mo.xs → ∀ {i g : Nat}, (∃ j off, x.get s = .ptr i j off g) ∨ (∃ j n, x.get s = .arr i j n g) → i ≠ id := fun {x} hx {i g} h => by
      rintro rfl
      cases x with
      | c c => exact absurd (hc _ hx c rfl) (by rcases h with ⟨j, off, h⟩ | ⟨j, n, h⟩ <;> (simp only [MX.get] at h; rw [h]; simp [MV.id?]))
      | s t =>
        have hv := hs.tmp t
        rcases h with ⟨j, off, h⟩ | ⟨j, n, h⟩ <;> (simp only [MX.get] at h; rw [h] at hv; generalize a.tmps.getD t undef = y at hv; cases hv; exact hk (by assumption))
    cases mo <;> simp only [MO.isM, Bool.false_eq_true] at hm <;> simp only [evO] at he
    case bad => cases he
    case st sz a' x =>
      repeat' (split at he)
      all_goals (first | (cases he; done) | skip)
      simp only [Option.some.injEq, Prod.mk.injEq] at he
      obtain ⟨rfl, rfl⟩ := he
      exact List.getElem?_set_ne (tgt (x := a') (by simp [MO.xs]) (.inl ⟨_, _, by assumption⟩))
    case app sz d x =>
      repeat' (split at he)
      all_goals (first | (cases he; done) | skip)
      all_goals (simp only [Option.some.injEq, Prod.mk.injEq] at he; obtain ⟨rfl, rfl⟩ := he)
      · rfl
      · exact List.getElem?_set_ne (tgt (x := d) (by simp [MO.xs]) (.inr ⟨_, _, by assumption⟩))
      · rfl
      · exact List.getElem?_append_left hl

def MX.cok : MX → Bool
  | .s _ => true
  | .c v => v.id?.isNone

def mkAt (ops : Array Oper) (j : Nat) : Bool :=
  match ops[j]? with
  | some o => isMk o.op
  | none => false
/-- Slots that point to memory as it was ahead of the region; appends to what the region has made itself. -/
def notDst (gl : List GO) (q : Nat) : Bool := gl.all fun g => g.dst != some q
def faOf (gl : List GO) : GO → Bool
  | ⟨none, _, .fa _ (.s q)⟩ => notDst gl q
  | _ => false
def oldSl (gl : List GO) (q : Nat) : Bool := notDst gl q || gl.any fun g => g.dst == some q && faOf gl g
def oldR (gl : List GO) (g : GO) : Bool :=
  match g.op with
  | .ld _ (.s q) => oldSl gl q
  | _ => false
def mksArr : GO → Bool
  | ⟨none, _, .bsl _ _ _ _⟩ => true
  | ⟨none, _, .nil0 _⟩ => true
  | ⟨none, _, .mks _ _⟩ => true
  | _ => false
def newM (gl : List GO) (j : Nat) (g : GO) : Bool :=
  match g.op with
  | .app _ (.s p) _ => (gl.take j).any fun g' => g'.dst == some p && mksArr g'
  | _ => false
def drawOk (ops : Array Oper) (gl : List GO) : Bool :=
  (List.range ops.size).all fun i => match ops[i]?, gl[i]? with
    | some oi, some gi =>
      ((oi.after.all fun e => !Region.binds .any e || decide (e.on < i)) && gi.op.xs.all MX.cok) &&
      (List.range i).all fun j => match gl[j]? with
        | some gj =>
          (gi.dst == none || gi.dst != gj.dst) &&
          ((match gj.dst with | some d => !gi.looks.contains d | none => true) || rch ops ops.size i j) &&
          ((match gi.dst with | some d => !gj.looks.contains d | none => true) || rch ops ops.size i j) &&
          (gi.op.isP || gj.op.isP || mkAt ops j || rch ops ops.size i j) &&
          (!(gi.op.isR && gj.op.isM) || rch ops ops.size i j || (oldR gl gi && newM gl j gj)) &&
          (!(gj.op.isR && gi.op.isM) || rch ops ops.size i j || (oldR gl gj && newM gl i gi))
        | none => false
    | _, _ => false

structure DrawOk (ops : Array Oper) (gl : List GO) : Prop where
  consts : ∀ (i : Nat) (gi : GO), gl[i]? = some gi → ∀ x ∈ gi.op.xs, x.cok = true
  back : ∀ (i : Nat) (o : Oper), ops[i]? = some o → ∀ e ∈ o.after, Region.binds .any e = true → e.on < i
  ssa : ∀ (i j : Nat) (gi gj : GO) (d : Nat), gl[i]? = some gi → gl[j]? = some gj → gi.dst = some d → gj.dst = some d → i = j
  reads : ∀ (i j : Nat) (gi gj : GO) (d : Nat), j < i → gl[i]? = some gi → gl[j]? = some gj → gj.dst = some d → d ∈ gi.looks → rch ops ops.size i j = true
  writes : ∀ (i j : Nat) (gi gj : GO) (d : Nat), j < i → gl[i]? = some gi → gl[j]? = some gj → gi.dst = some d → d ∈ gj.looks → rch ops ops.size i j = true
  effects : ∀ (i j : Nat) (gi gj : GO), j < i → gl[i]? = some gi → gl[j]? = some gj → gi.op.isP = false → gj.op.isP = false → mkAt ops j = false → rch ops ops.size i j = true
  rm : ∀ (i j : Nat) (gi gj : GO), j < i → gl[i]? = some gi → gl[j]? = some gj → gi.op.isR = true → gj.op.isM = true → rch ops ops.size i j = true ∨ (oldR gl gi = true ∧ newM gl j gj = true)
  mr : ∀ (i j : Nat) (gi gj : GO), j < i → gl[i]? = some gi → gl[j]? = some gj → gj.op.isR = true → gi.op.isM = true → rch ops ops.size i j = true ∨ (oldR gl gj = true ∧ newM gl i gi = true)

theorem drawOk_spec {ops : Array Oper} {gl : List GO} (hl : gl.length = ops.size) (h : drawOk ops gl = true) : DrawOk ops gl := by
  unfold drawOk at h
  rw [List.all_eq_true] at h
  have pair : ∀ (i j : Nat) (gi gj : GO), j < i → gl[i]? = some gi → gl[j]? = some gj →
      (gi.dst == none || gi.dst != gj.dst) = true ∧ ((match gj.dst with | some d => !gi.looks.contains d | none => true) || rch ops ops.size i j) = true ∧ ((match gi.dst with | some d => !gj.looks.contains d | none => true) || rch ops ops.size i j) = true ∧
      (gi.op.isP || gj.op.isP || mkAt ops j || rch ops ops.size i j) = true ∧ (!(gi.op.isR && gj.op.isM) || rch ops ops.size i j || (oldR gl gi && newM gl j gj)) = true ∧ (!(gj.op.isR && gi.op.isM) || rch ops ops.size i j || (oldR gl gj && newM gl i gi)) = true := by
    intro i j gi gj hji hi hj
    have hil : i < ops.size := by have := (List.getElem?_eq_some_iff.1 hi).1; omega
    have h1 := h i (List.mem_range.2 hil)
    rw [Array.getElem?_eq_getElem hil, hi] at h1
    simp only [Bool.and_eq_true] at h1
    have h2 := List.all_eq_true.1 h1.2 j (List.mem_range.2 hji)
    rw [hj] at h2
    simp only [Bool.and_eq_true] at h2
    obtain ⟨⟨⟨⟨⟨a1, a2⟩, a3⟩, a4⟩, a5⟩, a6⟩ := h2
    exact ⟨a1, a2, a3, a4, a5, a6⟩
  refine ⟨fun i gi hi x hx => ?_, fun i o hi e he hb => ?_, fun i j gi gj d hi hj hdi hdj => ?_, fun i j gi gj d hji hi hj hd hm => ?_, fun i j gi gj d hji hi hj hd hm => ?_, fun i j gi gj hji hi hj h1 h2 h3 => ?_, fun i j gi gj hji hi hj h1 h2 => ?_, fun i j gi gj hji hi hj h1 h2 => ?_⟩
  · have hil : i < ops.size := by have := (List.getElem?_eq_some_iff.1 hi).1; omega
    have h1 := h i (List.mem_range.2 hil)
    rw [Array.getElem?_eq_getElem hil, hi] at h1
    simp only [Bool.and_eq_true] at h1
    exact List.all_eq_true.1 h1.1.2 x hx
  · have hil := (Array.getElem?_eq_some_iff.1 hi).1
    have h1 := h i (List.mem_range.2 hil)
    rw [hi, List.getElem?_eq_getElem (by omega)] at h1
    simp only [Bool.and_eq_true] at h1
    have h2 := Array.all_eq_true'.1 h1.1.1 e he
    rw [hb] at h2
    simpa using h2
  · rcases Nat.lt_trichotomy i j with hlt | rfl | hlt
    · have := (pair j i gj gi hlt hj hi).1
      rw [hdi, hdj] at this
      simp at this
    · rfl
    · have := (pair i j gi gj hlt hi hj).1
      rw [hdi, hdj] at this
      simp at this
  · have := (pair i j gi gj hji hi hj).2.1
    rw [hd] at this
    simpa [hm] using this
  · have := (pair i j gi gj hji hi hj).2.2.1
    rw [hd] at this
    simpa [hm] using this
  · have := (pair i j gi gj hji hi hj).2.2.2.1
    simpa [h1, h2, h3] using this
  · have := (pair i j gi gj hji hi hj).2.2.2.2.1
    simpa [h1, h2] using this
  · have := (pair i j gi gj hji hi hj).2.2.2.2.2
    simpa [h1, h2] using this

/-- What has been listed is closed under what it waits for. -/
def Closed (ops : Array Oper) (listed : Array Bool) : Prop := ∀ j o, ops[j]? = some o → listed.getD j false = true → ∀ e ∈ o.after, Region.binds .any e = true → listed.getD e.on false = true

theorem rch_listed {ops : Array Oper} {listed : Array Bool} (hc : Closed ops listed) : ∀ {f j i : Nat}, rch ops f j i = true → (listed.getD j false = true ∨ j ∈ Region.ready .any ops listed) → listed.getD i false = true
  | 0, _, _, h, _ => by simp [rch] at h
  | f + 1, j, i, h, hj => by
    simp only [rch] at h
    split at h
    case h_2 => cases h
    rename_i o ho
    obtain ⟨e, he, h1⟩ := Array.any_eq_true'.1 h
    simp only [Bool.and_eq_true, Bool.or_eq_true, beq_iff_eq, decide_eq_true_eq] at h1
    obtain ⟨hb, h2⟩ := h1
    have hon : listed.getD e.on false = true := by
      rcases hj with hj | hj
      · exact hc j o ho hj e he hb
      · obtain ⟨_, o', ho', hall⟩ := mem_ready.1 hj
        rw [ho] at ho'
        cases ho'
        exact hall e he hb
    rcases h2 with h2 | ⟨_, h2⟩
    · rw [← h2]; exact hon
    · exact rch_listed hc h2 (.inl hon)

theorem Closed.set {ops : Array Oper} {listed : Array Bool} (hc : Closed ops listed) {i : Nat} (hi : i ∈ Region.ready .any ops listed) : Closed ops (listed.setIfInBounds i true) := by
  obtain ⟨_, oi, hoi, hall⟩ := mem_ready.1 hi
  intro j oj hj hl e he hb
  by_cases hij : i = j
  · subst hij
    rw [hj] at hoi
    cases hoi
    exact getD_set_true (hall e he hb)
  · rw [getD_set_ne false hij] at hl
    exact getD_set_true (hc j oj hj hl e he hb)

theorem all_listed {ops : Array Oper} {gl : List GO} (hd : DrawOk ops gl) {listed : Array Bool} (hsz : listed.size = ops.size) (hr : Region.ready .any ops listed = []) : ∀ j, j < ops.size → listed.getD j false = true := by
  intro j
  induction j using Nat.strongRecOn with
  | _ j ih =>
    intro hj
    refine Classical.byContradiction fun hn => ?_
    have hmem : j ∈ Region.ready .any ops listed := mem_ready.2 ⟨by
      have : j < listed.size := by omega
      simp [this] at hn ⊢
      exact hn, ops[j], by simp [hj], fun e he hb => ?_⟩
    · rw [hr] at hmem; cases hmem
    · have := hd.back j ops[j] (by simp [hj]) e he hb
      exact ih e.on this (by omega)

theorem V.idlt {E : Env} {h : MHeap} {w : World} (hr : HRel E h w) {m : MV} {v : Value} (hv : V E w m v) {id : Nat} (hi : m.id? = some id) : id < h.length := by
  cases hv <;> simp [MV.id?] at hi
  · subst hi; exact hr.klt _ (by assumption)
  · subst hi; exact hr.klt _ (by assumption)

theorem ok_shrink {h t : MHeap} {id g sz : Nat} (hl : id < h.length) (he : MHeap.ok (h ++ t) id g sz = true) : MHeap.ok h id g sz = true := by
  unfold MHeap.ok at he ⊢
  rwa [List.getElem?_append_left hl] at he

/-- A reader's value does not hang on objects that its operands do not speak of. -/
theorem evO_shrink {lk : Nat → Bool} {O : Oracle} {s : List MV} {h h' t : MHeap} {mo : MO} {v : MV} (hp : mo.isR = true) (hid : ∀ x ∈ mo.xs, ∀ id, (MX.get s x).id? = some id → id < h.length) (he : evO lk O s (h ++ t) mo = some (v, h')) : evO lk O s h mo = some (v, h) := by
  cases mo <;> simp only [MO.isR, Bool.false_eq_true] at hp <;> simp only [evO] at he ⊢
  case ld ag x =>
    have hx := hid x (by simp [MO.xs])
    split at he
    · simp only [Option.map_eq_some_iff, Prod.mk.injEq] at he ⊢
      obtain ⟨m, h1, rfl, rfl⟩ := he
      simp [h1]
    · rename_i id i off g hb
      have hl := hx id (by rw [hb]; rfl)
      rw [List.getElem?_append_left hl] at he
      split at he
      · rename_i ob hob
        simp only [hob]
        split at he
        · rename_i hg
          simp only [if_pos hg]
          split at he
          · simp only [Option.map_eq_some_iff, Prod.mk.injEq] at he ⊢
            obtain ⟨m, h1, rfl, rfl⟩ := he
            simp [h1]
          · cases he
        · cases he
      · cases he
    · cases he
  case eqn neg x =>
    have hx := hid x (by simp [MO.xs])
    split at he
    · rename_i id i n g hb
      have hl := hx id (by rw [hb]; rfl)
      rw [List.getElem?_append_left hl] at he
      split at he
      · rename_i ob hob
        simp only [hob]
        split at he
        · rename_i hg
          simp only [if_pos hg]
          simp only [Option.some.injEq, Prod.mk.injEq] at he ⊢
          exact ⟨he.1, trivial⟩
        · cases he
      · cases he
    · simp only [Option.some.injEq, Prod.mk.injEq] at he ⊢
      exact ⟨he.1, trivial⟩
    · simp only [Option.some.injEq, Prod.mk.injEq] at he ⊢
      exact ⟨he.1, trivial⟩
    · cases he
  case slc sz x lo hi =>
    have hx := hid x (by simp [MO.xs])
    split at he
    · split at he
      · rename_i hc
        simp only [if_pos hc, Option.some.injEq, Prod.mk.injEq] at he ⊢
        exact ⟨he.1, trivial⟩
      · cases he
    · split at he
      · rename_i hc
        simp only [if_pos hc, Option.some.injEq, Prod.mk.injEq] at he ⊢
        exact ⟨he.1, trivial⟩
      · cases he
    · rename_i id i n g l u hb el eu
      split at he
      · rename_i hc
        rw [if_pos ⟨hc.1, hc.2.1, hc.2.2.1, ok_shrink (hx id (by rw [hb]; rfl)) hc.2.2.2⟩]
        simp only [Option.some.injEq, Prod.mk.injEq] at he ⊢
        exact ⟨he.1, trivial⟩
      · cases he
    · rename_i id i n g l hb el eu
      split at he
      · rename_i hc
        rw [if_pos ⟨hc.1, hc.2.1, ok_shrink (hx id (by rw [hb]; rfl)) hc.2.2⟩]
        simp only [Option.some.injEq, Prod.mk.injEq] at he ⊢
        exact ⟨he.1, trivial⟩
      · cases he
    · cases he
  case ia sz x i =>
    have hx := hid x (by simp [MO.xs])
    split at he
    · split at he
      · rename_i hc
        simp only [if_pos hc]
        obtain ⟨e, h1, h2⟩ := Option.bind_eq_some_iff.1 he
        rw [h1]
        simp only [Option.bind_some]
        split at h2
        · rename_i hcl
          simp only [if_pos hcl, Option.some.injEq, Prod.mk.injEq] at h2 ⊢
          exact ⟨h2.1, trivial⟩
        · cases h2
      · cases he
    · rename_i id j n g k hb hk
      split at he
      · rename_i hc
        rw [if_pos ⟨hc.1, hc.2.1, ok_shrink (hx id (by rw [hb]; rfl)) hc.2.2⟩]
        simp only [Option.some.injEq, Prod.mk.injEq] at he ⊢
        exact ⟨he.1, trivial⟩
      · cases he
    · cases he

end Go.Proofs.Ytgjpdjihjphbdaa

/- Regions that draw their order: the induction. -/
namespace Go.Proofs.Ytgjpdjihjphbdaa
open Go.RowKit

section
variable {lk : Nat → Bool} {P : Program} {O : Oracle} {ops : Array Oper} {gl : List GO} {tr : Nat → MSt} {vi : Nat → MV}

def CompV (P : Program) (ops : Array Oper) (o : Oper) (go : GO) : Prop :=
  compG P ops o = some go ∨ ∃ go0 z n len ps, compG P ops o = some go0 ∧ isBs o.op = true ∧ go0.op = .bsl z n len ps ∧ go = ⟨go0.guard, go0.dst, .vsl z n len ps⟩
theorem CompV.dst {P : Program} {ops : Array Oper} {o : Oper} {go : GO} (h : CompV P ops o go) : go.dst = o.dst := by
  rcases h with h | ⟨go0, z, n, len, ps, h, _, _, rfl⟩
  · exact compG_dst h
  · show go0.dst = o.dst
    exact compG_dst h
theorem CompV.wanted {P : Program} {ops : Array Oper} {o : Oper} {go : GO} (h : CompV P ops o go) {E : Env} {w : World} {s : List MV} {a : Act} (hs : Slots E w s a) {t : Bool} (ht : wantM s go.guard = some t) : Region.wanted o (yielded ops a.tmps) = t := by
  rcases h with h | ⟨go0, z, n, len, ps, h, _, _, rfl⟩
  · exact wantM_wanted h hs ht
  · exact wantM_wanted h hs ht

/-- The run in the order of the text. -/
structure TextRun (lk : Nat → Bool) (P : Program) (O : Oracle) (ops : Array Oper) (gl : List GO) (tr : Nat → MSt) (vi : Nat → MV) : Prop where
  len : gl.length = ops.size
  comp : ∀ (i : Nat) o go, ops[i]? = some o → gl[i]? = some go → CompV P ops o go
  put : ∀ (i : Nat) go, gl[i]? = some go → (tr (i + 1)).s = putM (tr i).s go.dst (vi i)
  val : ∀ (i : Nat) go, gl[i]? = some go → (wantM (tr i).s go.guard = some true ∧ evO lk O (tr i).s (tr i).h go.op = some (vi i, (tr (i + 1)).h)) ∨ (wantM (tr i).s go.guard = some false ∧ vi i = .lit undef ∧ (tr (i + 1)).h = (tr i).h)

theorem TextRun.at_ (ht : TextRun lk P O ops gl tr vi) {i : Nat} (hi : i < ops.size) : ∃ o go, ops[i]? = some o ∧ gl[i]? = some go ∧ CompV P ops o go := by
  have h1 : gl[i]? = some (gl[i]'(by rw [ht.len]; exact hi)) := by simp
  have h2 : ops[i]? = some ops[i] := by simp [hi]
  exact ⟨_, _, h2, h1, ht.comp i _ _ h2 h1⟩

theorem putM_len (s : List MV) (d : Option Nat) (v : MV) : (putM s d v).length = s.length := by cases d <;> simp [putM]
theorem TextRun.slen (ht : TextRun lk P O ops gl tr vi) : ∀ i, i ≤ ops.size → (tr i).s.length = (tr 0).s.length
  | 0, _ => rfl
  | i + 1, h => by
    obtain ⟨o, go, h1, h2, h3⟩ := ht.at_ (i := i) (by omega)
    rw [ht.put i go h2, putM_len]
    exact ht.slen i (by omega)

/-- A slot's value in the order of the text: its writer's, or as it was. -/
theorem TextRun.slot (ht : TextRun lk P O ops gl tr vi) (hd : DrawOk ops gl) {t : Nat} (htl : t < (tr 0).s.length) : ∀ i, i ≤ ops.size →
    (∃ j go, j < i ∧ gl[j]? = some go ∧ go.dst = some t ∧ (tr i).s[t]? = some (vi j)) ∨ ((∀ (j : Nat) go, j < i → gl[j]? = some go → go.dst ≠ some t) ∧ (tr i).s[t]? = (tr 0).s[t]?)
  | 0, _ => .inr ⟨fun j go hj => absurd hj (by omega), rfl⟩
  | i + 1, h => by
    obtain ⟨o, go, h1, h2, h3⟩ := ht.at_ (i := i) (by omega)
    have ih := ht.slot hd htl i (by omega)
    have hl := ht.slen i (by omega)
    rw [ht.put i go h2]
    by_cases e : go.dst = some t
    · refine .inl ⟨i, go, by omega, h2, e, ?_⟩
      rw [e]
      simp [putM, hl, htl]
    · have hsame : (putM (tr i).s go.dst (vi i))[t]? = (tr i).s[t]? := by
        cases hdd : go.dst with
        | none => rfl
        | some d =>
          have hne : d ≠ t := fun e' => e (by rw [hdd, e'])
          simp only [putM]
          rw [List.getElem?_set_ne hne]
      rw [hsame]
      rcases ih with ⟨j, gj, a1, a2, a3, a4⟩ | ⟨a1, a2⟩
      · exact .inl ⟨j, gj, by omega, a2, a3, a4⟩
      · refine .inr ⟨fun j gj hj hgj => ?_, a2⟩
        by_cases e2 : j = i
        · subst e2
          rw [h2] at hgj; cases hgj; exact e
        · exact a1 j gj (by omega) hgj

/-- Memory between two places of the text. -/
theorem TextRun.heapP (ht : TextRun lk P O ops gl tr vi) {i : Nat} {go : GO} (hi : gl[i]? = some go) (hp : go.op.isP = true) : (tr (i + 1)).h = (tr i).h := by
  rcases ht.val i go hi with ⟨_, h⟩ | ⟨_, _, h⟩
  · exact (evO_mono (t := []) hp h).1
  · exact h
theorem TextRun.heapM (ht : TextRun lk P O ops gl tr vi) (hA : AppO O) {i : Nat} {go : GO} (hi : gl[i]? = some go) (hm : go.op.isM = false) : ∃ t, (tr (i + 1)).h = (tr i).h ++ t := by
  rcases ht.val i go hi with ⟨_, h⟩ | ⟨_, _, h⟩
  · exact evO_app hA hm h
  · exact ⟨[], by rw [h]; simp⟩
theorem TextRun.sameH (ht : TextRun lk P O ops gl tr vi) {i : Nat} : ∀ d, i + d ≤ ops.size → (∀ (j : Nat) go, i ≤ j → j < i + d → gl[j]? = some go → go.op.isP = true) → (tr (i + d)).h = (tr i).h
  | 0, _, _ => rfl
  | d + 1, hl, h => by
    obtain ⟨o, go, h1, h2, h3⟩ := ht.at_ (i := i + d) (by omega)
    have := ht.heapP h2 (h (i + d) go (by omega) (by omega) h2)
    rw [← Nat.add_assoc, this]
    exact ht.sameH d (by omega) fun j gj h1 h2 h3 => h j gj h1 (by omega) h3
theorem TextRun.preH (ht : TextRun lk P O ops gl tr vi) (hA : AppO O) {i : Nat} : ∀ d, i + d ≤ ops.size → (∀ (j : Nat) go, i ≤ j → j < i + d → gl[j]? = some go → go.op.isM = false) → ∃ t, (tr (i + d)).h = (tr i).h ++ t
  | 0, _, _ => ⟨[], by simp⟩
  | d + 1, hl, h => by
    obtain ⟨o, go, h1, h2, h3⟩ := ht.at_ (i := i + d) (by omega)
    obtain ⟨t1, e1⟩ := ht.preH hA d (by omega) fun j gj h1 h2 h3 => h j gj h1 (by omega) h3
    obtain ⟨t2, e2⟩ := ht.heapM hA h2 (h (i + d) go (by omega) (by omega) h2)
    exact ⟨t1 ++ t2, by rw [← Nat.add_assoc, e2, e1, List.append_assoc]⟩

theorem evO_len {lk : Nat → Bool} {O : Oracle} (hA : AppO O) {s : List MV} {h h' : MHeap} {mo : MO} {v : MV} (he : evO lk O s h mo = some (v, h')) : h.length ≤ h'.length := by
  cases hm : mo.isM
  · obtain ⟨t, rfl⟩ := evO_app hA hm he
    simp
  · cases mo <;> simp only [MO.isM, Bool.false_eq_true] at hm <;> simp only [evO] at he
    case bad => cases he
    all_goals
      repeat' (split at he)
      all_goals (first | (cases he; done) | skip)
      all_goals (simp only [Option.some.injEq, Prod.mk.injEq] at he; obtain ⟨rfl, rfl⟩ := he; simp)
theorem TextRun.lenStep (ht : TextRun lk P O ops gl tr vi) (hA : AppO O) {i : Nat} (hi : i < ops.size) : (tr i).h.length ≤ (tr (i + 1)).h.length := by
  obtain ⟨o, go, h1, h2, h3⟩ := ht.at_ hi
  rcases ht.val i go h2 with ⟨_, h⟩ | ⟨_, _, h⟩
  · exact evO_len hA h
  · rw [h]; exact Nat.le_refl _
theorem TextRun.lenMono (ht : TextRun lk P O ops gl tr vi) (hA : AppO O) {i : Nat} : ∀ d, i + d ≤ ops.size → (tr i).h.length ≤ (tr (i + d)).h.length
  | 0, _ => Nat.le_refl _
  | d + 1, h => Nat.le_trans (ht.lenMono hA d (by omega)) (ht.lenStep hA (i := i + d) (by omega))
theorem TextRun.lenLe (ht : TextRun lk P O ops gl tr vi) (hA : AppO O) {i j : Nat} (hij : i ≤ j) (hj : j ≤ ops.size) : (tr i).h.length ≤ (tr j).h.length := by
  have := ht.lenMono hA (i := i) (j - i) (by omega)
  rwa [show i + (j - i) = j by omega] at this
theorem mks_app {lk : Nat → Bool} {O : Oracle} {o : Oper} {mo : MO} (hk : isMk o.op = true) (hc : compO P o = some mo) {s : List MV} {h h' : MHeap} {v : MV} (he : evO lk O s h mo = some (v, h')) : ∃ ob, h' = h ++ [ob] := by
  obtain ⟨dst, op, type, pos, after, guard⟩ := o
  cases op <;> simp only [isMk, Bool.false_eq_true] at hk
  simp only [compO, Option.bind_eq_bind, Option.bind_eq_some_iff] at hc
  obtain ⟨e, ht1, ie, hie, z1, hz, hc⟩ := hc
  split at hc
  case isFalse => cases hc
  simp only [Option.bind_eq_some_iff, Option.some.injEq] at hc
  obtain ⟨l', hl, rfl⟩ := hc
  simp only [evO] at he
  split at he
  case h_2 => cases he
  split at he
  case isFalse => cases he
  simp only [Option.some.injEq, Prod.mk.injEq] at he
  exact ⟨_, he.2.symm⟩
theorem TextRun.heapK (ht : TextRun lk P O ops gl tr vi) {i : Nat} (hi : i < ops.size) (hk : mkAt ops i = true) : ∃ t, (tr (i + 1)).h = (tr i).h ++ t := by
  obtain ⟨o, go, h1, h2, h3⟩ := ht.at_ hi
  rcases ht.val i go h2 with ⟨_, h⟩ | ⟨_, _, h⟩
  · unfold mkAt at hk
    rw [h1] at hk
    rcases h3 with h3 | ⟨_, _, _, _, _, _, hbs, _⟩
    case inr =>
      exfalso
      have hk' : isMk o.op = true := hk
      generalize o.op = op at hk' hbs
      cases op <;> simp only [isMk, isBs, Bool.false_eq_true] at hk' hbs
    have hop := compG_op h3
    cases hco : compO P o with
    | none => rw [hco] at hop; rw [hop] at h; simp [evO] at h
    | some mo =>
      rw [hco] at hop
      simp only [Option.getD_some] at hop
      rw [hop] at h
      obtain ⟨ob, e⟩ := mks_app hk hco h
      exact ⟨_, e⟩
  · exact ⟨[], by rw [h]; simp⟩
theorem TextRun.preK (ht : TextRun lk P O ops gl tr vi) {i : Nat} : ∀ d, i + d ≤ ops.size → (∀ (j : Nat) go, i ≤ j → j < i + d → gl[j]? = some go → go.op.isP = true ∨ mkAt ops j = true) → ∃ t, (tr (i + d)).h = (tr i).h ++ t
  | 0, _, _ => ⟨[], by simp⟩
  | d + 1, hl, h => by
    obtain ⟨o, go, h1, h2, h3⟩ := ht.at_ (i := i + d) (by omega)
    obtain ⟨t1, e1⟩ := ht.preK d (by omega) fun j gj h1 h2 h3 => h j gj h1 (by omega) h3
    rcases h (i + d) go (by omega) (by omega) h2 with hp | hk
    · exact ⟨t1, by rw [← Nat.add_assoc, ht.heapP h2 hp, e1]⟩
    · obtain ⟨t2, e2⟩ := ht.heapK (i := i + d) (by omega) hk
      exact ⟨t1 ++ t2, by rw [← Nat.add_assoc, e2, e1, List.append_assoc]⟩

theorem TextRun.preX (ht : TextRun lk P O ops gl tr vi) {i : Nat} : ∀ d, i + d ≤ ops.size → (∀ (j : Nat) go, i ≤ j → j < i + d → gl[j]? = some go → ∃ t, (tr (j + 1)).h = (tr j).h ++ t) → ∃ t, (tr (i + d)).h = (tr i).h ++ t
  | 0, _, _ => ⟨[], by simp⟩
  | d + 1, hl, h => by
    obtain ⟨o, go, h1, h2, h3⟩ := ht.at_ (i := i + d) (by omega)
    obtain ⟨t1, e1⟩ := ht.preX d (by omega) fun j gj h1 h2 h3 => h j gj h1 (by omega) h3
    obtain ⟨t2, e2⟩ := h (i + d) go (by omega) (by omega) h2
    exact ⟨t1 ++ t2, by rw [← Nat.add_assoc, e2, e1, List.append_assoc]⟩

/-- What holds while operations are carried out in whatever order. -/
structure AnyInv (lk : Nat → Bool) (ops : Array Oper) (gl : List GO) (tr : Nat → MSt) (vi : Nat → MV) (listed : Array Bool) (a0 : Act) (E0 : Env) (w0 : World) (a : Act) (w : World) (E : Env) (m : Nat) : Prop where
  size : listed.size = ops.size
  closed : Closed ops listed
  mle : m ≤ ops.size
  eff1 : ∀ (j : Nat) go, gl[j]? = some go → go.op.isP = false → listed.getD j false = true → j < m
  eff2 : ∀ (j : Nat) go, gl[j]? = some go → go.op.isP = false → j < m → listed.getD j false = true ∨ (mkAt ops j = true ∧ ∀ id, (tr j).h.length ≤ id → id < (tr (j + 1)).h.length → ¬ E.K id ∧ (tr m).h[id]? = (tr (j + 1)).h[id]?)
  top : E.top ≤ (tr 0).h.length
  rel : HRel E (tr m).h w
  ext : Ext lk E0 w0 E w
  defers : a.defers = a0.defers
  tlen : a.tmps.size = (tr 0).s.length
  done : ∀ (j : Nat) go d u, listed.getD j false = true → gl[j]? = some go → go.dst = some d → a.tmps[d]? = some u → V E w (vi j) u
  rest : ∀ (t : Nat) mv u, (∀ (j : Nat) go, listed.getD j false = true → gl[j]? = some go → go.dst ≠ some t) → (tr 0).s[t]? = some mv → a.tmps[t]? = some u → V E w mv u

/-- The slots that an operation looks at, all others struck. -/
def onlyS (s : List MV) (l : List Nat) : List MV := s.mapIdx fun t v => if l.contains t then v else .junk

theorem onlyS_get {s : List MV} {l : List Nat} {t : Nat} (ht : t ∈ l) : s.getD t (.lit undef) = (onlyS s l).getD t (.lit undef) := by
  simp only [onlyS, List.getD, List.getElem?_mapIdx]
  cases s[t]? <;> simp [ht]

theorem AnyInv.slots {listed : Array Bool} {a0 a : Act} {E0 E : Env} {w0 w : World} {m i : Nat} {go : GO} (hi : AnyInv lk ops gl tr vi listed a0 E0 w0 a w E m) (ht : TextRun lk P O ops gl tr vi) (hd : DrawOk ops gl) (hr : i ∈ Region.ready .any ops listed) (hgo : gl[i]? = some go) :
    Slots E w (onlyS (tr i).s go.looks) a := by
  have hil : i < ops.size := by rw [← ht.len]; exact (List.getElem?_eq_some_iff.1 hgo).1
  have hun : listed.getD i false = false := getD_both (mem_ready.1 hr).1
  refine ⟨by simp [onlyS, ht.slen i (by omega), hi.tlen], fun t mv u hm hu => ?_⟩
  simp only [onlyS, List.getElem?_mapIdx, Option.map_eq_some_iff] at hm
  obtain ⟨v, hv, hm⟩ := hm
  split at hm
  · rename_i hc
    subst hm
    have hmem : t ∈ go.looks := by simpa using hc
    have htl : t < (tr 0).s.length := by rw [← ht.slen i (by omega)]; exact (List.getElem?_eq_some_iff.1 hv).1
    rcases ht.slot hd htl i (by omega) with ⟨j, gj, b1, b2, b3, b4⟩ | ⟨b1, b2⟩
    · rw [hv] at b4
      cases b4
      exact hi.done j gj t u (rch_listed hi.closed (hd.reads i j go gj t b1 hgo b2 b3 hmem) (.inr hr)) b2 b3 hu
    · rw [hv] at b2
      refine hi.rest t v u (fun j gj hj hgj hdj => ?_) b2.symm hu
      rcases Nat.lt_trichotomy j i with hlt | rfl | hlt
      · exact b1 j gj hlt hgj hdj
      · rw [hun] at hj; cases hj
      · have := rch_listed hi.closed (hd.writes j i gj go t hlt hgj hgo hdj hmem) (.inl hj)
        rw [hun] at this; cases this
  · subst hm
    exact .junk _

/-- Behind an operation. -/
theorem AnyInv.step {listed : Array Bool} {a0 a : Act} {E0 E E' : Env} {w0 w w' : World} {m i m' : Nat} {o : Oper} {go : GO} {u : Value} (hi : AnyInv lk ops gl tr vi listed a0 E0 w0 a w E m) (hd : DrawOk ops gl) (hr : i ∈ Region.ready .any ops listed) (ho : ops[i]? = some o) (hgo : gl[i]? = some go)
    (hdst : go.dst = o.dst) (hx : Ext lk E w E' w') (hV : V E' w' (vi i) u) (hrel : HRel E' (tr m').h w') (hm' : m' ≤ ops.size) (heff1 : ∀ (j : Nat) gj, gl[j]? = some gj → gj.op.isP = false → (listed.getD j false = true ∨ j = i) → j < m')
    (heff2 : ∀ (j : Nat) gj, gl[j]? = some gj → gj.op.isP = false → j < m' → (listed.getD j false = true ∨ j = i) ∨ (mkAt ops j = true ∧ ∀ id, (tr j).h.length ≤ id → id < (tr (j + 1)).h.length → ¬ E'.K id ∧ (tr m').h[id]? = (tr (j + 1)).h[id]?)) :
    AnyInv lk ops gl tr vi (listed.setIfInBounds i true) a0 E0 w0 (a.put o.dst u) w' E' m' := by
  have hil : i < listed.size := by rw [hi.size]; exact (Array.getElem?_eq_some_iff.1 ho).1
  have hset : ∀ j, (listed.setIfInBounds i true).getD j false = true ↔ listed.getD j false = true ∨ j = i := fun j => by
    by_cases e : i = j
    · subst e; simp [hil]
    · rw [getD_set_ne false e]
      exact ⟨.inl, fun h => h.resolve_right (fun e' => e e'.symm)⟩
  have hput : ∀ (d : Nat) (v : Value), (a.put o.dst u).tmps[d]? = some v → (o.dst = some d ∧ v = u) ∨ (o.dst ≠ some d ∧ a.tmps[d]? = some v) := fun d v hv => by
    cases hdd : o.dst with
    | none => rw [hdd] at hv; exact .inr ⟨by simp, hv⟩
    | some e =>
      rw [hdd] at hv
      simp only [Act.put] at hv
      by_cases he : e = d
      · subst he
        rw [Array.getElem?_setIfInBounds] at hv
        simp only [if_true] at hv
        split at hv
        · cases hv; exact .inl ⟨rfl, rfl⟩
        · cases hv
      · rw [Array.getElem?_setIfInBounds_ne he] at hv
        exact .inr ⟨by simpa using he, hv⟩
  refine ⟨by simp [hi.size], hi.closed.set hr, hm', fun j gj hgj hp => by rw [hset]; exact heff1 j gj hgj hp, fun j gj hgj hp => by rw [hset]; exact heff2 j gj hgj hp, by rw [hx.top]; exact hi.top, hrel, hi.ext.trans hx, ?_, ?_, fun j gj d v hj hgj hdj hv => ?_, fun t mv v hn hmv hv => ?_⟩
  · rw [← hi.defers]; cases o.dst <;> rfl
  · rw [← hi.tlen]; cases o.dst <;> simp [Act.put]
  · rcases hput d v hv with ⟨e1, rfl⟩ | ⟨e1, e2⟩
    · obtain rfl : i = j := hd.ssa i j go gj d hgo hgj (hdst.trans e1) hdj
      exact hV
    · have hne : j ≠ i := fun e => by
        subst e
        rw [hgo] at hgj; cases hgj
        exact e1 (hdst.symm.trans hdj)
      have hj' := ((hset j).1 hj).resolve_right hne
      exact (hi.done j gj d v hj' hgj hdj e2).ext hi.rel hx
  · rcases hput t v hv with ⟨e1, rfl⟩ | ⟨e1, e2⟩
    · exact absurd (hdst.trans e1) (hn i go ((hset i).2 (.inr rfl)) hgo)
    · exact (hi.rest t mv v (fun j gj hj hgj => hn j gj ((hset j).2 (.inl hj)) hgj) hmv e2).ext hi.rel hx

theorem wantM_congr {s s' : List MV} {g : Option (Nat × Bool)} (h : ∀ t ∈ (match g with | some (d, _) => [d] | none => []), s.getD t (.lit undef) = s'.getD t (.lit undef)) : wantM s g = wantM s' g := by
  cases g with
  | none => rfl
  | some p => obtain ⟨d, b⟩ := p; simp only [wantM]; rw [h d (by simp)]

/-- Loads from memory that is as it was. -/
theorem ld_agree {lk : Nat → Bool} {O : Oracle} {s : List MV} {h1 h1' h2 : MHeap} {ag : Option Nat} {q : Nat} {v : MV} (hg : ∀ id, (s.getD q (.lit undef)).id? = some id → h2[id]? = h1[id]?) (he : evO lk O s h1 (.ld ag (.s q)) = some (v, h1')) : evO lk O s h2 (.ld ag (.s q)) = some (v, h2) := by
  simp only [evO, MX.get] at he ⊢
  generalize s.getD q (.lit undef) = x at hg he
  cases x with
  | rp e off =>
    simp only [Option.map_eq_some_iff, Prod.mk.injEq] at he ⊢
    obtain ⟨a, k1, k2, _⟩ := he
    exact ⟨a, k1, k2, trivial⟩
  | ptr id i off g =>
    have := hg id rfl
    simp only at he ⊢
    rw [this]
    split at he
    · rename_i ob hob
      split at he
      · rename_i hgg
        split at he
        · rename_i e hee
          simp only [Option.map_eq_some_iff, Prod.mk.injEq] at he
          obtain ⟨a, k1, k2, _⟩ := he
          simp only [hgg, if_true, k1, Option.map_some, k2]
        · cases he
      · cases he
    · cases he
  | _ => simp at he

theorem notDst_slot (ht : TextRun lk P O ops gl tr vi) (hd : DrawOk ops gl) {q : Nat} (hq : notDst gl q = true) {i : Nat} (hi : i ≤ ops.size) : (tr i).s.getD q (.lit undef) = (tr 0).s.getD q (.lit undef) := by
  by_cases htl : q < (tr 0).s.length
  · rcases ht.slot hd htl i hi with ⟨j, go, a1, a2, a3, a4⟩ | ⟨a1, a2⟩
    · have := List.all_eq_true.1 hq go (List.mem_of_getElem? a2)
      rw [a3] at this
      simp at this
    · rw [List.getD_eq_getElem?_getD, a2, List.getD_eq_getElem?_getD]
  · rw [List.getD_eq_getElem?_getD, List.getElem?_eq_none (by rw [ht.slen i hi]; omega), List.getD_eq_getElem?_getD, List.getElem?_eq_none (by omega)]
theorem oldSl_id (ht : TextRun lk P O ops gl tr vi) (hd : DrawOk ops gl) (h0 : ∀ t id, ((tr 0).s.getD t (.lit undef)).id? = some id → id < (tr 0).h.length) {q : Nat} (hq : oldSl gl q = true) {i : Nat} (hi : i ≤ ops.size) {id : Nat} (hid : ((tr i).s.getD q (.lit undef)).id? = some id) : id < (tr 0).h.length := by
  unfold oldSl at hq
  rw [Bool.or_eq_true] at hq
  rcases hq with hq | hq
  · rw [notDst_slot ht hd hq hi] at hid
    exact h0 q id hid
  · obtain ⟨g, hg, hgq⟩ := List.any_eq_true.1 hq
    rw [Bool.and_eq_true, beq_iff_eq] at hgq
    by_cases htl : q < (tr 0).s.length
    · rcases ht.slot hd htl i hi with ⟨j, go, a1, a2, a3, a4⟩ | ⟨a1, a2⟩
      · obtain ⟨jg, hjg⟩ := List.getElem?_of_mem hg
        have hjj : jg = j := hd.ssa jg j g go q hjg a2 hgq.1 a3
        subst hjj
        rw [hjg] at a2; cases a2
        have hf := hgq.2
        obtain ⟨gu, ds, op⟩ := g
        unfold faOf at hf
        split at hf
        · rename_i q' hh
          cases hh
          rcases ht.val jg _ hjg with ⟨_, h⟩ | ⟨h, _⟩
          · rw [List.getD_eq_getElem?_getD, a4, Option.getD_some] at hid
            simp only [evO, MX.get] at h
            rw [notDst_slot ht hd hf (by omega)] at h
            split at h
            · rename_i id' i' o' g' hb
              simp only [Option.some.injEq, Prod.mk.injEq] at h
              rw [← h.1] at hid
              have := h0 q' id' (by rw [hb]; rfl)
              simp only [MV.id?, Option.some.injEq] at hid
              omega
            · simp only [Option.some.injEq, Prod.mk.injEq] at h
              rw [← h.1] at hid
              simp [MV.id?] at hid
            · cases h
          · simp [wantM] at h
        · cases hf
      · rw [List.getD_eq_getElem?_getD, a2, ← List.getD_eq_getElem?_getD] at hid
        exact h0 q id hid
    · rw [List.getD_eq_getElem?_getD, List.getElem?_eq_none (by rw [ht.slen i hi]; omega)] at hid
      simp [MV.id?] at hid
theorem newM_old (ht : TextRun lk P O ops gl tr vi) (hA : AppO O) (hd : DrawOk ops gl) {j : Nat} {g : GO} (hj : gl[j]? = some g) (hn : newM gl j g = true) {id : Nat} (hid : id < (tr 0).h.length) : (tr (j + 1)).h[id]? = (tr j).h[id]? := by
  have hjl : j < ops.size := by rw [← ht.len]; exact (List.getElem?_eq_some_iff.1 hj).1
  have hln := ht.lenLe hA (i := 0) (j := j) (by omega) (by omega)
  rcases ht.val j g hj with ⟨_, h⟩ | ⟨_, _, h⟩
  case inr => rw [h]
  obtain ⟨gu, ds, op⟩ := g
  unfold newM at hn
  simp only at hn h
  split at hn
  case h_2 => cases hn
  rename_i sz p x hop
  obtain ⟨g', hg', hgp⟩ := List.any_eq_true.1 hn
  rw [Bool.and_eq_true, beq_iff_eq] at hgp
  obtain ⟨jb, hjb⟩ := List.getElem?_of_mem hg'
  rw [List.getElem?_take] at hjb
  split at hjb
  case isFalse => cases hjb
  rename_i hlt
  have key : ∀ v, (tr j).s.getD p (.lit undef) = v → (∃ id' i' n' g', v = .arr id' i' n' g' ∧ (tr 0).h.length ≤ id') ∨ v = .lit undef := fun v hv => by
    by_cases htl : p < (tr 0).s.length
    · rcases ht.slot hd htl j (by omega) with ⟨j1, go, a1, a2, a3, a4⟩ | ⟨a1, a2⟩
      · have hjj : jb = j1 := hd.ssa jb j1 g' go p hjb a2 hgp.1 a3
        subst hjj
        rw [hjb] at a2; cases a2
        rw [List.getD_eq_getElem?_getD, a4, Option.getD_some] at hv
        have hlb := ht.lenLe hA (i := 0) (j := jb) (by omega) (by omega)
        rcases ht.val jb _ hjb with ⟨_, h1⟩ | ⟨h1, _⟩
        · have hm := hgp.2
          obtain ⟨gu', ds', op'⟩ := g'
          unfold mksArr at hm
          split at hm <;> rename_i hh <;> (try (cases hm; done)) <;> cases hh <;> simp only [evO] at h1
          · split at h1
            · simp only [Option.some.injEq, Prod.mk.injEq] at h1
              exact .inl ⟨_, _, _, _, hv.symm.trans h1.1.symm, hlb⟩
            · cases h1
          · simp only [Option.some.injEq, Prod.mk.injEq] at h1
            exact .inl ⟨_, _, _, _, hv.symm.trans h1.1.symm, hlb⟩
          · split at h1
            · split at h1
              · simp only [Option.some.injEq, Prod.mk.injEq] at h1
                exact .inl ⟨_, _, _, _, hv.symm.trans h1.1.symm, hlb⟩
              · cases h1
            · cases h1
        · have hm := hgp.2
          obtain ⟨gu', ds', op'⟩ := g'
          unfold mksArr at hm
          split at hm <;> rename_i hh <;> (try (cases hm; done)) <;> cases hh <;> simp [wantM] at h1
      · exact absurd hgp.1 (a1 jb g' hlt hjb)
    · rw [List.getD_eq_getElem?_getD, List.getElem?_eq_none (by rw [ht.slen j (by omega)]; omega)] at hv
      exact .inr hv.symm
  simp only [evO, MX.get] at h
  rcases key _ rfl with ⟨id', i', n', g'', e, hge⟩ | e
  · rw [e] at h
    split at h
    · rename_i hb _
      cases hb
      split at h
      · split at h
        · split at h
          · simp only [Option.some.injEq, Prod.mk.injEq] at h
            rw [← h.2]
          · split at h
            · simp only [Option.some.injEq, Prod.mk.injEq] at h
              rw [← h.2, List.getElem?_set_ne (by omega)]
            · cases h
        · cases h
      · cases h
    · rename_i hb _; cases hb
    · cases h
  · rw [e] at h
    split at h
    · rename_i hb _; cases hb
    · rename_i hb _; cases hb
    · cases h
theorem agree_old (ht : TextRun lk P O ops gl tr vi) (hA : AppO O) (hd : DrawOk ops gl) {i : Nat} {id : Nat} (hid : id < (tr 0).h.length) : ∀ d, i + d ≤ ops.size → (∀ (j : Nat) go, i ≤ j → j < i + d → gl[j]? = some go → (∃ t, (tr (j + 1)).h = (tr j).h ++ t) ∨ newM gl j go = true) → (tr (i + d)).h[id]? = (tr i).h[id]?
  | 0, _, _ => rfl
  | d + 1, h, hj => by
    have ih := agree_old ht hA hd hid d (by omega) fun j go a b => hj j go a (by omega)
    rw [← ih, ← Nat.add_assoc]
    obtain ⟨o, go, h1, h2, h3⟩ := ht.at_ (i := i + d) (by omega)
    have hl := ht.lenLe hA (i := 0) (j := i + d) (by omega) (by omega)
    rcases hj (i + d) go (by omega) (by omega) h2 with ⟨t, e⟩ | hn
    · rw [e, List.getElem?_append_left (by omega)]
    · exact newM_old ht hA hd h2 hn hid

theorem any_sound (hO : SoundO P O) (hA : AppO O) (ht : TextRun lk P O ops gl tr vi) (hd : DrawOk ops gl) (h0 : ∀ t id, ((tr 0).s.getD t (.lit undef)).id? = some id → id < (tr 0).h.length) {a0 : Act} {E0 : Env} {w0 : World} {r : Option Nat} {n : Nat} {Q : Exit → Act → World → Prop}
    (hQ : ∀ a' w' E', Slots E' w' (tr ops.size).s a' → HRel E' (tr ops.size).h w' → Ext lk E0 w0 E' w' → a'.defers = a0.defers → Q .normal a' w') :
    ∀ (fuel : Nat) (listed : Array Bool) (a : Act) (w : World) (E : Env) (m : Nat), AnyInv lk ops gl tr vi listed a0 E0 w0 a w E m → listed.toList.countP (fun b => !b) ≤ fuel → wpAnyIn (Fw r) n P .any ops Q fuel listed a w := by
  have fin : ∀ {listed : Array Bool} {a : Act} {w : World} {E : Env} {m : Nat}, AnyInv lk ops gl tr vi listed a0 E0 w0 a w E m → Region.ready .any ops listed = [] → Q .normal a w := by
    intro listed a w E m hi hr
    have hall := all_listed hd hi.size hr
    have hh : (tr ops.size).h = (tr m).h := by
      have := ht.sameH (i := m) (ops.size - m) (by have := hi.mle; omega) fun j go h1 h2 h3 => by
        cases hp : go.op.isP
        · have := hi.eff1 j go h3 hp (hall j (by omega)); omega
        · rfl
      rwa [show m + (ops.size - m) = ops.size by have := hi.mle; omega] at this
    refine hQ a w E ⟨by rw [ht.slen _ (Nat.le_refl _), hi.tlen], fun t mv u hm hu => ?_⟩ (by rw [hh]; exact hi.rel) hi.ext hi.defers
    have htl : t < (tr 0).s.length := by rw [← ht.slen _ (Nat.le_refl _)]; exact (List.getElem?_eq_some_iff.1 hm).1
    rcases ht.slot hd htl _ (Nat.le_refl _) with ⟨j, gj, b1, b2, b3, b4⟩ | ⟨b1, b2⟩
    · rw [hm] at b4; cases b4
      exact hi.done j gj t u (hall j b1) b2 b3 hu
    · rw [hm] at b2
      exact hi.rest t mv u (fun j gj hj hgj => b1 j gj (by rw [← ht.len]; exact (List.getElem?_eq_some_iff.1 hgj).1) hgj) b2.symm hu
  intro fuel
  induction fuel with
  | zero =>
    intro listed a w E m hi hc
    have hr : Region.ready .any ops listed = [] := by
      refine Classical.byContradiction fun hne => ?_
      obtain ⟨i, hir⟩ := List.exists_mem_of_ne_nil _ hne
      obtain ⟨hun, o, ho, -⟩ := mem_ready.1 hir
      have hil : i < listed.size := by rw [hi.size]; exact (Array.getElem?_eq_some_iff.1 ho).1
      have : 0 < listed.toList.countP (fun b => !b) := List.countP_pos_iff.2 ⟨listed[i], by simp, by simp [hil] at hun; simp [hun]⟩
      omega
    exact ⟨hr, fin hi hr⟩
  | succ fuel ih =>
    intro listed a w E m hi hc
    refine ⟨fin hi, fun i hir => ?_⟩
    obtain ⟨hun, o, ho, hall⟩ := mem_ready.1 hir
    have hil : i < ops.size := (Array.getElem?_eq_some_iff.1 ho).1
    have hil2 : i < listed.size := by rw [hi.size]; exact hil
    obtain ⟨o', go, ho', hgo, hcg⟩ := ht.at_ hil
    rw [ho] at ho'
    cases ho'
    have hunf : listed.getD i false = false := getD_both hun
    have hcount : (listed.setIfInBounds i true).toList.countP (fun b => !b) ≤ fuel := by
      rw [Array.toList_setIfInBounds, List.countP_set (by simpa using hil2)]
      have hf : listed.toList[i]'(by simpa using hil2) = false := by simp [hil2] at hun; simpa using hun
      have hpos : 0 < listed.toList.countP (fun b => !b) := List.countP_pos_iff.2 ⟨listed[i], by simp, by simp [hil2] at hun; simp [hun]⟩
      rw [hf]
      simp only [Bool.not_false, Bool.not_true, if_true, Bool.false_eq_true, if_false]
      omega
    have hs := hi.slots ht hd hir hgo
    have hlook : ∀ t ∈ go.looks, (tr i).s.getD t (.lit undef) = (onlyS (tr i).s go.looks).getD t (.lit undef) := fun t h => onlyS_get h
    have hwc : wantM (tr i).s go.guard = wantM (onlyS (tr i).s go.looks) go.guard := wantM_congr fun t h => hlook t (List.mem_append_right _ h)
    have hec : ∀ h, evO lk O (tr i).s h go.op = evO lk O (onlyS (tr i).s go.looks) h go.op := fun h => evO_congr (xslots_get fun t h => hlook t (List.mem_append_left _ h))
    have hdst := hcg.dst
    unfold wpOpIn
    simp only [ho]
    -- effects: which place of the text memory is at
    have effK1 : go.op.isP = true → ∀ (j : Nat) gj, gl[j]? = some gj → gj.op.isP = false → (listed.getD j false = true ∨ j = i) → j < m := fun hp j gj hgj hpj h => by
      have hne : j ≠ i := fun e => by subst e; rw [hgo] at hgj; cases hgj; rw [hp] at hpj; cases hpj
      exact hi.eff1 j gj hgj hpj (h.resolve_right hne)
    have effK2 : ∀ (j : Nat) gj, gl[j]? = some gj → gj.op.isP = false → j < m → (listed.getD j false = true ∨ j = i) ∨ (mkAt ops j = true ∧ ∀ id, (tr j).h.length ≤ id → id < (tr (j + 1)).h.length → ¬ E.K id ∧ (tr m).h[id]? = (tr (j + 1)).h[id]?) := fun j gj hgj hpj h =>
      (hi.eff2 j gj hgj hpj h).imp (fun h => .inl h) fun h => h
    -- an effect that is due behind the others
    have effN : go.op.isP = false → m ≤ i → ∀ (j : Nat) gj, m ≤ j → j < i → gl[j]? = some gj → gj.op.isP = true ∨ mkAt ops j = true := fun hp hmi j gj hj1 hj2 hgj => by
      cases hpj : gj.op.isP
      · cases hkj : mkAt ops j
        · have := rch_listed hi.closed (hd.effects i j go gj hj2 hgo hgj hp hpj hkj) (.inr hir)
          have := hi.eff1 j gj hgj hpj this
          omega
        · exact .inr rfl
      · exact .inl rfl
    have effL1 : m ≤ i → ∀ (j : Nat) gj, gl[j]? = some gj → gj.op.isP = false → (listed.getD j false = true ∨ j = i) → j < i + 1 := fun hmi j gj hgj hpj h => by
      rcases h with h | rfl
      · have := hi.eff1 j gj hgj hpj h; omega
      · omega
    have effL2 : go.op.isP = false → m ≤ i → ∀ {E' : Env}, (∀ id, E'.K id → E.K id ∨ (tr i).h.length ≤ id) → (∀ id, id < (tr i).h.length → ¬ E.K id → (tr (i + 1)).h[id]? = (tr i).h[id]?) →
        ∀ (j : Nat) gj, gl[j]? = some gj → gj.op.isP = false → j < i + 1 → (listed.getD j false = true ∨ j = i) ∨ (mkAt ops j = true ∧ ∀ id, (tr j).h.length ≤ id → id < (tr (j + 1)).h.length → ¬ E'.K id ∧ (tr (i + 1)).h[id]? = (tr (j + 1)).h[id]?) := fun hp hmi E' hK hkeep j gj hgj hpj hj => by
      by_cases e : j = i
      · exact .inl (.inr e)
      · have hji : j < i := by omega
        have hlen := ht.lenLe hA (i := j + 1) (j := i) (by omega) (by omega)
        have nk : ∀ id, id < (tr (j + 1)).h.length → ¬ E.K id → ¬ E'.K id := fun id h1 h2 h3 => by
          rcases hK id h3 with h | h
          · exact h2 h
          · omega
        by_cases e2 : j < m
        · rcases hi.eff2 j gj hgj hpj e2 with h | ⟨h1, h2⟩
          · exact .inl (.inl h)
          · refine .inr ⟨h1, fun id a1 a2 => ?_⟩
            obtain ⟨b1, b2⟩ := h2 id a1 a2
            refine ⟨nk id a2 b1, ?_⟩
            rw [hkeep id (by omega) b1, ← b2]
            obtain ⟨t, et⟩ := ht.preK (i := m) (i - m) (by omega) fun j gj a1 a2 a3 => effN hp hmi j gj a1 (by omega) a3
            rw [show m + (i - m) = i by omega] at et
            rw [et]
            exact List.getElem?_append_left (Nat.lt_of_lt_of_le a2 (ht.lenLe hA (by omega) hi.mle))
        · cases hl : listed.getD j false
          · refine .inr ⟨(effN hp hmi j gj (by omega) hji hgj).resolve_left (by rw [hpj]; simp), fun id a1 a2 => ?_⟩
            have hnk : ¬ E.K id := fun hk => by
              have := hi.rel.klt id hk
              have := ht.lenLe hA (i := m) (j := j) (by omega) (by omega)
              omega
            refine ⟨nk id a2 hnk, ?_⟩
            rw [hkeep id (by omega) hnk]
            obtain ⟨t, et⟩ := ht.preK (i := j + 1) (i - (j + 1)) (by omega) fun j' gj a1 a2 a3 => effN hp hmi j' gj (by omega) (by omega) a3
            rw [show j + 1 + (i - (j + 1)) = i by omega] at et
            rw [et]
            exact List.getElem?_append_left a2
          · exact .inl (.inl rfl)
    have relN : go.op.isP = false → m ≤ i → HRel E (tr i).h w := fun hp hmi => by
      obtain ⟨t, et⟩ := ht.preK (i := m) (i - m) (by omega) fun j gj a1 a2 a3 => effN hp hmi j gj a1 (by omega) a3
      rw [show m + (i - m) = i by omega] at et
      rw [et]
      exact hi.rel.more t
    have htopi : E.top ≤ (tr i).h.length := Nat.le_trans hi.top (ht.lenLe hA (Nat.zero_le _) (by omega))
    rcases ht.val i go hgo with ⟨hw, hev⟩ | ⟨hw, hvi, hhh⟩
    · rw [hwc] at hw
      rw [hcg.wanted hs hw]
      simp only [if_true]
      rw [hec] at hev
      rcases hcg with hcg | ⟨go0, z, n0, len, ps, hcg, hbs, hop0, hgo0⟩
      case inr =>
        have hgop : go.op = .vsl z n0 len ps := by rw [hgo0]
        have hp : go.op.isP = true := by rw [hgop]; rfl
        rw [hgop] at hev
        have hco : compO P o = some (.bsl z n0 len ps) := by
          have h1 := compG_op hcg
          rw [hop0] at h1
          cases hco : compO P o with
          | none => rw [hco] at h1; simp at h1
          | some mo => rw [hco] at h1; simp only [Option.getD_some] at h1; rw [h1]
        refine quiet_ok hco hbs hs hi.rel hev fun u w' E' k1 k2 k3 k4 => ?_
        exact ih _ _ _ E' m (hi.step hd hir ho hgo hdst k3 k1 k2 hi.mle (effK1 hp) fun j gj hgj hpj hj => (effK2 j gj hgj hpj hj).imp_right fun h => ⟨h.1, fun id a1 a2 => ⟨fun hk => (h.2 id a1 a2).1 (k4 id hk), (h.2 id a1 a2).2⟩⟩) hcount
      have hop := compG_op hcg
      cases hco : compO P o with
      | none => rw [hco] at hop; rw [hop] at hev; simp [evO] at hev
      | some mo =>
        rw [hco] at hop
        simp only [Option.getD_some] at hop
        cases hp : go.op.isP
        · rw [hop] at hev
          by_cases hmi : m ≤ i
          · have hrel : HRel { E with top := (tr i).h.length } (tr i).h w := (relN hp hmi).topE (Nat.le_refl _)
            have hs' : Slots { E with top := (tr i).h.length } w (onlyS (tr i).s go.looks) a := ⟨hs.1, fun t m v h1 h2 => (hs.2 t m v h1 h2).env (EnvLe.topE _ _)⟩
            refine (evO_ok hO hco hs' hrel hev).1 r n _ Q fun u w' E' k1 k2 k3 => ?_
            refine ih _ _ _ { E' with top := E.top } (i + 1) (hi.step hd hir ho hgo hdst (k3.topE htopi) (k1.env (EnvLe.topE _ _)) (k2.topE (Nat.le_trans htopi (ht.lenStep hA hil))) (by omega) (effL1 hmi) (effL2 hp hmi (fun id hk => k3.srcK id hk) fun id h1 h2 => ?_)) hcount
            refine evO_keep (E := E) hA hs (fun x hx c e => ?_) hev h1 h2
            have := hd.consts i go hgo x (by rw [hop]; exact hx)
            rw [e] at this
            exact this
          · have hlt : i < m := by omega
            rcases hi.eff2 i go hgo hp hlt with h | ⟨hk, hpend⟩
            · rw [hunf] at h; cases h
            · have hk' : isMk o.op = true := by unfold mkAt at hk; rw [ho] at hk; exact hk
              obtain ⟨ob, eob⟩ := mks_app hk' hco hev
              have hl1 : (tr (i + 1)).h.length = (tr i).h.length + 1 := by rw [eob]; simp
              obtain ⟨b1, b2⟩ := hpend (tr i).h.length (Nat.le_refl _) (by omega)
              refine late_ok hco hk' hs hi.rel hev b1 htopi b2 fun u w' E' k1 k2 k3 k4 => ?_
              refine ih _ _ _ E' m (hi.step hd hir ho hgo hdst k3 k1 k2 hi.mle (fun j gj hgj hpj h => ?_) fun j gj hgj hpj hj => ?_) hcount
              · rcases h with h | rfl
                · exact hi.eff1 j gj hgj hpj h
                · exact hlt
              · rcases hi.eff2 j gj hgj hpj hj with h | ⟨h1, h2⟩
                · exact .inl (.inl h)
                · by_cases e : j = i
                  · exact .inl (.inr e)
                  · refine .inr ⟨h1, fun id a1 a2 => ⟨fun hk2 => ?_, (h2 id a1 a2).2⟩⟩
                    rcases k4 id hk2 with h | h
                    · exact (h2 id a1 a2).1 h
                    · rcases Nat.lt_or_gt_of_ne e with hji | hji
                      · have := ht.lenLe hA (i := j + 1) (j := i) (by omega) (by omega); omega
                      · have := ht.lenLe hA (i := i + 1) (j := j) (by omega) (by have := hi.mle; omega); omega
        · have hpure : Pure P o a w E (vi i) := by
            have hpm : mo.isP = true := by rw [← hop]; exact hp
            cases hrd : go.op.isR
            · have h2 := (evO_any (h2 := (tr m).h) hp hrd hev).2
              rw [hop] at h2
              exact ((evO_ok hO hco hs hi.rel h2).2 hpm).2
            · by_cases hold : oldR gl go = true
              · have hag : ∀ id, id < (tr 0).h.length → (tr m).h[id]? = (tr i).h[id]? := fun id hid => by
                  have hml := hi.mle
                  by_cases hle : i ≤ m
                  · have := agree_old ht hA hd (i := i) hid (m - i) (by omega) fun j gj a1 a2 a3 => by
                      cases hmj : gj.op.isM
                      · exact .inl (ht.heapM hA a3 hmj)
                      · have hpj : gj.op.isP = false := by cases h : gj.op <;> simp [h, MO.isM] at hmj <;> simp [MO.isP]
                        have hne : i ≠ j := fun e => by subst e; rw [hgo] at a3; cases a3; rw [hp] at hpj; cases hpj
                        rcases hi.eff2 j gj a3 hpj (by omega) with hlj | ⟨hkj, -⟩
                        · rcases hd.mr j i gj go (by omega) a3 hgo hrd hmj with h | h
                          · have := rch_listed hi.closed h (.inl hlj)
                            rw [hunf] at this; cases this
                          · exact .inr h.2
                        · exact .inl (ht.heapK (by rw [← ht.len]; exact (List.getElem?_eq_some_iff.1 a3).1) hkj)
                    rwa [show i + (m - i) = m by omega] at this
                  · have := agree_old ht hA hd (i := m) hid (i - m) (by omega) fun j gj a1 a2 a3 => by
                      cases hmj : gj.op.isM
                      · exact .inl (ht.heapM hA a3 hmj)
                      · have hpj : gj.op.isP = false := by cases h : gj.op <;> simp [h, MO.isM] at hmj <;> simp [MO.isP]
                        rcases hd.rm i j go gj (by omega) hgo a3 hrd hmj with h | h
                        · have hlj := rch_listed hi.closed h (.inr hir)
                          have := hi.eff1 j gj a3 hpj hlj
                          omega
                        · exact .inr h.2
                    rw [show m + (i - m) = i by omega] at this
                    exact this.symm
                have hop2 := hop
                unfold oldR at hold
                split at hold
                case h_2 => cases hold
                rename_i ag q hoq
                rw [hoq] at hev
                have hq2 : (onlyS (tr i).s go.looks).getD q (.lit undef) = (tr i).s.getD q (.lit undef) := (hlook q (by simp [GO.looks, hoq, MO.xs, xslots])).symm
                have h2 := ld_agree (h2 := (tr m).h) (fun id hid => hag id (oldSl_id ht hd h0 hold (Nat.le_of_lt hil) (by rw [← hq2]; exact hid))) hev
                rw [← hoq, hop] at h2
                exact ((evO_ok hO hco hs hi.rel h2).2 hpm).2
              · by_cases hle : i ≤ m
                · obtain ⟨t, et⟩ := ht.preX (i := i) (m - i) (by have := hi.mle; omega) fun j gj a1 a2 a3 => by
                    cases hmj : gj.op.isM
                    · exact ht.heapM hA a3 hmj
                    · have hpj : gj.op.isP = false := by cases h : gj.op <;> simp [h, MO.isM] at hmj <;> simp [MO.isP]
                      have hne : i ≠ j := fun e => by subst e; rw [hgo] at a3; cases a3; rw [hp] at hpj; cases hpj
                      rcases hi.eff2 j gj a3 hpj (by omega) with hlj | ⟨hkj, -⟩
                      · have := rch_listed hi.closed ((hd.mr j i gj go (by omega) a3 hgo hrd hmj).resolve_right fun h => hold h.1) (.inl hlj)
                        rw [hunf] at this; cases this
                      · exact ht.heapK (by rw [← ht.len]; exact (List.getElem?_eq_some_iff.1 a3).1) hkj
                  rw [show i + (m - i) = m by omega] at et
                  have h2 := (evO_mono (t := t) hp hev).2
                  rw [← et, hop] at h2
                  exact ((evO_ok hO hco hs hi.rel h2).2 hpm).2
                · obtain ⟨t, et⟩ := ht.preH hA (i := m) (i - m) (by omega) fun j gj a1 a2 a3 => by
                    cases hmj : gj.op.isM
                    · rfl
                    · have hpj : gj.op.isP = false := by cases h : gj.op <;> simp [h, MO.isM] at hmj <;> simp [MO.isP]
                      have hlj := rch_listed hi.closed ((hd.rm i j go gj (by omega) hgo a3 hrd hmj).resolve_right fun h => hold h.1) (.inr hir)
                      have := hi.eff1 j gj a3 hpj hlj
                      omega
                  rw [show m + (i - m) = i by omega] at et
                  rw [et] at hev
                  have h2 := evO_shrink hrd (fun x hx id hid => by
                    cases x with
                    | s t => exact (hs.tmp t).idlt hi.rel hid
                    | c v =>
                      have hc := hd.consts i go hgo _ hx
                      simp only [MX.cok, MX.get] at hc hid
                      rw [hid] at hc
                      cases hc) hev
                  rw [hop] at h2
                  exact ((evO_ok hO hco hs hi.rel h2).2 hpm).2
          obtain ⟨u, hu1, hu2⟩ := hpure
          have hnd : ∀ c, o.op ≠ .defer c := fun c e => by simp [compO, e] at hco
          exact wpIn_val hnd hu1 (ih _ _ _ E m (hi.step hd hir ho hgo hdst (Ext.refl _ _ _) hu2 hi.rel hi.mle (effK1 hp) effK2) hcount)
    · rw [hwc] at hw
      rw [hcg.wanted hs hw]
      simp only [Bool.false_eq_true, if_false]
      refine ⟨about_wide o a w, ?_⟩
      have hV : V E w (vi i) undef := by rw [hvi]; exact .lit _
      cases hp : go.op.isP
      · by_cases hmi : m ≤ i
        · refine ih _ _ _ E (i + 1) (hi.step hd hir ho hgo hdst (Ext.refl _ _ _) hV (by rw [hhh]; exact relN hp hmi) (by omega) (effL1 hmi) (effL2 hp hmi (fun id hk => .inl hk) fun id h1 h2 => by rw [hhh])) hcount
        · refine ih _ _ _ E m (hi.step hd hir ho hgo hdst (Ext.refl _ _ _) hV hi.rel hi.mle (fun j gj hgj hpj h => ?_) effK2) hcount
          rcases h with h | rfl
          · exact hi.eff1 j gj hgj hpj h
          · omega
      · exact ih _ _ _ E m (hi.step hd hir ho hgo hdst (Ext.refl _ _ _) hV hi.rel hi.mle (effK1 hp) effK2) hcount

/-- A region that draws its order. -/
theorem draw_okV (hm : P.follows .mixedOrders = true) (hO : SoundO P O) (hA : AppO O) {id : Nat} (hlen : gl.length = ops.size) (hcomp : ∀ (i : Nat) o go, ops[i]? = some o → gl[i]? = some go → CompV P ops o go) (hd : drawOk ops gl = true) {st st' : MSt} (he : evR lk O gl st = some st') {a : Act} {w : World} {E : Env} (hs : Slots E w st.s a) (hr : HRel E st.h w)
    {r : Option Nat} {n : Nat} {Q : Exit → Act → World → Prop} (hQ : ∀ a' w' E', Slots E' w' st'.s a' → HRel E' st'.h w' → Ext lk E w E' w' → a'.defers = a.defers → Q .normal a' w') : (Code.region id ops true).wpIn (Fw r) n P Q a w := by
  obtain ⟨tr, t0, tn, ts⟩ := evR_trace he
  have hv : ∀ i, ∃ v, ∀ go, gl[i]? = some go → (tr (i + 1)).s = putM (tr i).s go.dst v ∧ ((wantM (tr i).s go.guard = some true ∧ evO lk O (tr i).s (tr i).h go.op = some (v, (tr (i + 1)).h)) ∨ (wantM (tr i).s go.guard = some false ∧ v = .lit undef ∧ (tr (i + 1)).h = (tr i).h)) := fun i => by
    cases hgi : gl[i]? with
    | none => exact ⟨.junk, fun go h => by cases h⟩
    | some go =>
      obtain ⟨v, h1, h2⟩ := evG_put (ts i go hgi)
      exact ⟨v, fun go' h => by cases h; exact ⟨h1, h2⟩⟩
  have ht : TextRun lk P O ops gl tr (fun i => Classical.choose (hv i)) :=
    ⟨hlen, hcomp, fun i go h => (Classical.choose_spec (hv i) go h).1, fun i go h => (Classical.choose_spec (hv i) go h).2⟩
  refine wpIn_region_any hm ?_
  have hdo := drawOk_spec hlen hd
  rw [← tn, hlen] at hQ
  have hinv : AnyInv lk ops gl tr (fun i => Classical.choose (hv i)) (Array.replicate ops.size false) a E w a { w with drawn := w.drawn + 1 } E 0 := by
    have hx : Ext lk E w E { w with drawn := w.drawn + 1 } := ⟨rfl, rfl, rfl, Nat.le_refl _, fun _ _ _ => rfl, fun _ h => h, fun _ h => h, fun _ _ => ⟨Nat.le_refl _, fun _ => ⟨rfl, rfl, rfl, rfl, rfl, rfl⟩⟩, fun _ _ _ => rfl, fun _ hd hc => .inl ⟨hd, hc, rfl⟩, rfl, fun _ h => .inl h, rfl, fun _ h => .inl h⟩
    have hrel : HRel E (tr 0).h { w with drawn := w.drawn + 1 } := by
      rw [t0]
      exact ⟨hr.klt, hr.top, fun id hk => by
        obtain ⟨es, a1, a2, a3, a4, a5⟩ := hr.obj id hk
        refine ⟨es, a1, a2, a3, a4, fun hc => ?_⟩
        obtain ⟨arr, t, b1, b2, b3⟩ := a5 hc
        exact ⟨arr, t, b1, b2, fun k c hk => by obtain ⟨v, c1, c2⟩ := b3 k c hk; exact ⟨v, c1, c2.ext hr hx⟩⟩, hr.inj, hr.sep, hr.slt⟩
    refine ⟨by simp, fun j oj _ hl => (by rw [getD_replicate_false] at hl; cases hl), Nat.zero_le _, fun j go _ _ h => (by rw [getD_replicate_false] at h; cases h), fun j go _ _ h => absurd h (Nat.not_lt_zero _), by rw [t0]; exact hr.top, hrel, hx, rfl, by rw [t0]; exact hs.1.symm, fun j go d u hl => (by rw [getD_replicate_false] at hl; cases hl), fun t mv u _ h1 h2 => ?_⟩
    rw [t0] at h1
    exact (hs.2 t mv u h1 h2).ext hr hx
  exact any_sound hO hA ht hdo (fun t id hid => by rw [t0] at hid ⊢; exact (hs.tmp t).idlt hr hid) hQ _ _ _ _ E 0 hinv (by rw [Array.toList_replicate]; exact Nat.le_trans List.countP_le_length (by simp))
/-- Slices that only an append of the same region reads. -/
def virtG (gl : List GO) (o : Oper) (g : GO) : GO :=
  match g.op with
  | .bsl z n len ps => if isBs o.op && gl.any (fun g' => match g'.op, g.dst with | .app _ _ (.s t), some d => t == d | _, _ => false) then ⟨g.guard, g.dst, .vsl z n len ps⟩ else g
  | _ => g
def virt (ops : Array Oper) (gl : List GO) : List GO := List.zipWith (virtG gl) ops.toList gl
theorem virt_len (hl : gl.length = ops.size) : (virt ops gl).length = ops.size := by simp [virt, hl]
theorem virt_comp (hg : ops.toList.mapM (compG P ops) = some gl) (i : Nat) (o : Oper) (go : GO) (ho : ops[i]? = some o) (hgo : (virt ops gl)[i]? = some go) : CompV P ops o go := by
  obtain ⟨hl, hcomp⟩ := mapM_some hg
  simp only [virt, List.getElem?_zipWith] at hgo
  rw [show ops.toList[i]? = some o by simpa using ho] at hgo
  cases hgi : gl[i]? with
  | none => rw [hgi] at hgo; cases hgo
  | some g =>
    rw [hgi] at hgo
    simp only [Option.some.injEq] at hgo
    have hc := hcomp i o g (by simpa using ho) hgi
    subst hgo
    unfold virtG
    split
    · rename_i z n len ps hop
      split
      · rename_i hh
        rw [Bool.and_eq_true] at hh
        exact .inr ⟨g, z, n, len, ps, hc, hh.1, hop, rfl⟩
      · exact .inl hc
    · exact .inl hc
theorem draw_ok (hm : P.follows .mixedOrders = true) (hO : SoundO P O) (hA : AppO O) {id : Nat} (hg : ops.toList.mapM (compG P ops) = some gl) (hd : drawOk ops gl = true) {st st' : MSt} (he : evR lk O gl st = some st') {a : Act} {w : World} {E : Env} (hs : Slots E w st.s a) (hr : HRel E st.h w)
    {r : Option Nat} {n : Nat} {Q : Exit → Act → World → Prop} (hQ : ∀ a' w' E', Slots E' w' st'.s a' → HRel E' st'.h w' → Ext lk E w E' w' → a'.defers = a.defers → Q .normal a' w') : (Code.region id ops true).wpIn (Fw r) n P Q a w := by
  obtain ⟨hl, hcomp⟩ := mapM_some hg
  exact draw_okV hm hO hA (by rw [← hl]; simp) (fun i o go h1 h2 => .inl (hcomp i o go (by simpa using h1) h2)) hd he hs hr hQ
end

end Go.Proofs.Ytgjpdjihjphbdaa
