/- From an answer to a law's statement. -/
import Derived.Test.YtgjpdjihjphbdaaLift
namespace Go.Proofs.Ytgjpdjihjphbdaa
open Go.RowKit Go.ChangeShapes Go.WideShapes Go.ChangeAt
set_option linter.unusedVariables false

theorem Try.own : ownKnob Try.prog.godebug = none := by kernel_rfl
theorem Try.laidOut : laidOutB Try.prog = true := by kernel_rfl

section
variable {H : Type} {enc : TypeId × Value → H} {P : Program} {w : World} {spare : Nat → Bool} {held : Bool}

theorem lift_val {s : Sh} {t : TypeId} {v : Value} {d : DataW H} {p : List MemPlace} {r : Reach} {b : Nat} (hs : s.has P t = true) (hv : Value.okWide P w r b t v) (h : DataW.Trod enc P w 0 spare held t v d p) : ∃ m, Fits s m ∧ V (baseE w) w m v := by
  obtain ⟨fuel, h⟩ := h
  obtain ⟨m, h1, h2, h3⟩ := lift_ok s t fuel _ _ hs h
  refine ⟨m, h1, ?_⟩
  have one : m.cells = [m] → v.cells = #[v] → V (baseE w) w m v := fun e1 e2 => by
    rw [e1, e2] at h2
    exact h2.2 0 m v rfl rfl
  cases s with
  | int k =>
    simp only [Fits] at h1
    obtain ⟨n, rfl, -⟩ := h1
    simp only [Sh.has] at hs
    split at hs
    case h_2 => cases hs
    rename_i k' ht
    obtain ⟨n', rfl⟩ := okWide_int ht hv
    exact one rfl rfl
  | bool =>
    simp only [Fits] at h1
    obtain ⟨n, rfl⟩ := h1
    simp only [Sh.has] at hs
    split at hs
    case h_2 => cases hs
    rename_i ht
    obtain ⟨n', rfl⟩ := okWide_bool ht hv
    exact one rfl rfl
  | str =>
    simp only [Fits] at h1
    obtain ⟨n, rfl, -⟩ := h1
    simp only [Sh.has] at hs
    split at hs
    case h_2 => cases hs
    rename_i ht
    obtain ⟨n', rfl⟩ := okWide_string ht hv
    exact one rfl rfl
  | slice s =>
    simp only [Fits] at h1
    obtain ⟨es, rfl, -⟩ := h1
    simp only [Sh.has] at hs
    split at hs
    case h_2 => cases hs
    rename_i e ht
    obtain ⟨a, len, cap, rfl⟩ := okWide_slice ht hv
    exact one rfl rfl
  | agg ss =>
    simp only [Fits] at h1
    obtain ⟨ms, -, rfl⟩ := h1
    simp only [Sh.has] at hs
    split at hs
    case h_2 => cases hs
    rename_i fs ht
    obtain ⟨cs, rfl, -⟩ := okWide_struct ht hv
    have h4 : Vs (baseE w) w (ms.flatMap MV.cells) cs.toList := by simpa [MV.cells, Value.cells] using h2
    have := V.agg (E := baseE w) (w := w) _ _ h4.1 h4.2
    simpa using this

def hasAll (P : Program) : List Sh → List TypeId → Bool
  | [], [] => true
  | s :: ss, t :: ts => s.has P t && hasAll P ss ts
  | _, _ => false
theorem lift_all {r : Reach} {b : Nat} : ∀ (ss : List Sh) (ts : List TypeId) (vs : List Value) (ds : List (DataW H)) (ps : List MemPlace), hasAll P ss ts = true → DataW.TrodAll enc P w 0 spare held ts vs ds ps →
    (∀ (j : Nat) t v, ts[j]? = some t → vs[j]? = some v → Value.okWide P w r b t v) → ∃ ms, FitsL ss ms ∧ Vs (baseE w) w ms vs ∧ ds.length = ss.length
  | [], [], [], [], ps, _, _, _ => ⟨[], rfl, ⟨rfl, fun i c v hc => by simp at hc⟩, rfl⟩
  | [], [], [], _ :: _, ps, _, h, _ => by simp [DataW.TrodAll] at h
  | [], [], _ :: _, _, ps, _, h, _ => by simp [DataW.TrodAll] at h
  | s :: ss, t :: ts, [], _, ps, _, h, _ => by simp [DataW.TrodAll] at h
  | s :: ss, t :: ts, _ :: _, [], ps, _, h, _ => by simp [DataW.TrodAll] at h
  | s :: ss, t :: ts, v :: vs, d :: ds, ps, hs, h, hv => by
    simp only [hasAll, Bool.and_eq_true] at hs
    obtain ⟨p, q, h1, h2, -⟩ := h
    obtain ⟨m, k1, k2⟩ := lift_val hs.1 (hv 0 t v rfl rfl) h1
    obtain ⟨ms, j1, j2, j3⟩ := lift_all ss ts vs ds q hs.2 h2 fun j t' v' ht hv' => hv (j + 1) t' v' (by simpa using ht) (by simpa using hv')
    exact ⟨m :: ms, ⟨m, ms, rfl, k1, j1⟩, Vs.cons k2 j2, by simp [j3]⟩
  | [], _ :: _, _, _, _, hs, _, _ => by simp [hasAll] at hs
  | _ :: _, [], _, _, _, hs, _, _ => by simp [hasAll] at hs

theorem stay_all (hl : laidOutB P = true) {W' : World} (hb : Below w.heap.size w W') : ∀ (ts : List TypeId) (vs : List Value) (ds : List (DataW H)) (ps : List MemPlace), DataW.TrodAll enc P w 0 (fun _ => true) true ts vs ds ps → (ts.all fun t => P.readableRec t && decide (t < P.types.size)) = true → (∀ x ∈ ps, x.block < w.heap.size) →
    DataW.TrodAll enc P W' 0 (fun b => decide (b < w.heap.size)) true ts vs ds ps
  | [], [], [], ps, h, _, _ => h
  | [], [], _ :: _, ps, h, _, _ => by simp [DataW.TrodAll] at h
  | [], _ :: _, _, ps, h, _, _ => by simp [DataW.TrodAll] at h
  | t :: ts, [], _, ps, h, _, _ => by simp [DataW.TrodAll] at h
  | t :: ts, _ :: _, [], ps, h, _, _ => by simp [DataW.TrodAll] at h
  | t :: ts, v :: vs, d :: ds, ps, h, hr, hlt => by
    obtain ⟨p, q, h1, h2, rfl⟩ := h
    simp only [List.all_cons, Bool.and_eq_true, decide_eq_true_eq] at hr
    exact ⟨p, q, Below.trod hl hr.1.1 hr.1.2 h1 hb (fun x hx => hlt x (List.mem_append_left _ hx)), stay_all hl hb ts vs ds q h2 (by simpa using hr.2) (fun x hx => hlt x (List.mem_append_right _ hx)), rfl⟩
end

theorem below_ext {w w' : World} {E E' : Env} (hK : ∀ id, ¬ E.K id) (hx : Ext (fun _ => true) E w E' w') : Below w.heap.size w w' :=
  ext_below (n := 0) (hx.mono fun id hk _ => rfl) (fun id hk => absurd hk (hK id))

theorem law_calls {f : Nat} {args : List MV} {vs : List Value} {w : World} (hz : runZ MT (orA 12) (itA 12) 1000000 f args [] = some (.lit (.bool true), [])) (hv : Vs (baseE w) w args vs) :
    Calls Try.prog f vs.toArray w fun e w' => e = .returned (.bool true) ∧ Below w.heap.size w w' := by
  have hI : SoundI Try.prog (itA 12) := orI_ok (by kernel_rfl) (tabOf_ok Try.prog) (noI_ok Try.prog) (orA_ok 12) (orZ_ok (by kernel_rfl) (tabOf_ok Try.prog) tA_ok (noI_ok Try.prog) 12).2
  refine ((runZ_ok (by kernel_rfl) (tabOf_ok Try.prog) (orA_ok 12) (orZ_ok (by kernel_rfl) (tabOf_ok Try.prog) tA_ok (noI_ok Try.prog) 12).2 hI hz).2 (baseE w) w vs (baseE_rel w) hv).mono ?_
  rintro e w' ⟨v, E', rfl, h1, -, h3⟩
  exact ⟨by rw [h1.lit_eq], below_ext (fun id hk => hk) h3⟩


set_option maxRecDepth 100000 in
theorem law_contract {H : Type} {enc : TypeId × Value → H} {f : Nat} {fn : Func} {s : ChangeSpec} (shs : List Sh) (hp : hasAll Try.prog shs fn.params.toList = true) (hrd : (fn.params.toList.all fun t => Try.prog.readableRec t && decide (t < Try.prog.types.size)) = true) (hr : fn.resultTypes = #[4])
    (hsv : s.vars = []) (hspec : ∀ ds : List (DataW H), ds.length = shs.length → (s.fn H (ds ++ [])).results = [.lit (.bool true)] ∧ (s.fn H (ds ++ [])).args = ds ∧ (s.fn H (ds ++ [])).vars = [])
    (hz : ∀ ms, FitsL shs ms → runZ MT (orA 12) (itA 12) 1000000 f ms [] = some (.lit (.bool true), []))
    (W : World) (base : Nat) (args : Array Value) (ds gs : List (DataW H)) (before : List MemPlace) (hval : ∀ (j : Nat) t v, fn.params[j]? = some t → args[j]? = some v → Value.okWide Try.prog W .any base t v)
    (hW : DataW.Whole enc Try.prog fn.params.toList s.vars false W args.toList ds gs before) :
    Calls Try.prog f args W fun e W' => ∃ v, e = .returned v ∧ s.post enc Try.prog fn false true false false W args v W' := by
  have hW' := hW
  obtain ⟨p, q, hA, hV, rfl, hfz, hnd⟩ := hW
  rw [hsv] at hV
  obtain ⟨rfl, rfl⟩ := trodVars_none hV
  have hv2 : ∀ (j : Nat) (t : TypeId) (v : Value), fn.params.toList[j]? = some t → args.toList[j]? = some v → Value.okWide Try.prog W .any base t v := fun j t v ht hv => hval j t v (by rw [Array.getElem?_toList] at ht; exact ht) (by rw [Array.getElem?_toList] at hv; exact hv)
  obtain ⟨ms, h1, h2, h3⟩ := lift_all (P := Try.prog) (w := W) shs fn.params.toList args.toList ds p hp hA hv2
  have hc := law_calls (hz ms h1) h2
  rw [Array.toArray_toList] at hc
  refine hc.mono ?_
  rintro e W' ⟨rfl, hb⟩
  obtain ⟨e1, e2, e3⟩ := hspec ds h3
  have hlt : ∀ x ∈ p ++ [], x.block < W.heap.size := fun x hx => by simpa using hW'.lt x hx
  refine ⟨_, rfl, ds, [], p ++ [], [], p, [], hW', ?_, ?_, ?_, hb.frame _, fun h => by cases h⟩
  · rw [e1, hr]
    exact trodAll_mk1 (shut_bool Try.underlying4 true)
  · rw [e2]
    exact stay_all Try.laidOut hb _ _ _ _ hA hrd fun x hx => hlt x (by simpa using hx)
  · rw [e3, hsv]; rfl
end Go.Proofs.Ytgjpdjihjphbdaa
