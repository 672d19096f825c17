/- Contracts as answers. -/
import Derived.Test.YtgjpdjihjphbdaaLE
import Derived.Test.YtgjpdjihjphbdaaGrpLaw
namespace Go.Proofs.Ytgjpdjihjphbdaa
open Go.RowKit
set_option linter.unusedVariables false

def encR : Int × Int → MV
  | (a, b) => .agg [I64 a, I64 b]
def decR : MV → Option (Int × Int)
  | .agg [.lit (.int .i64 a), .lit (.int .i64 b)] => some (a, b)
  | _ => none
theorem decR_enc {m : MV} {p : Int × Int} (h : decR m = some p) : m = encR p := by
  unfold decR at h
  split at h
  · cases h; rfl
  · cases h
theorem decR_all : ∀ {es : List MV} {xs : List (Int × Int)}, es.mapM decR = some xs → es = xs.map encR
  | [], xs, h => by simp at h; subst h; rfl
  | e :: es, xs, h => by
    simp only [List.mapM_cons, Option.pure_def, Option.bind_eq_bind, Option.bind_eq_some_iff, Option.some.injEq] at h
    obtain ⟨p, h1, ys, h2, rfl⟩ := h
    rw [decR_enc h1, decR_all h2]; rfl
theorem decR_map : ∀ xs : List (Int × Int), (xs.map encR).mapM decR = some xs
  | [] => rfl
  | (a, b) :: xs => by simp [List.mapM_cons, decR_map xs, encR, decR]
theorem flatR : ∀ xs : List (Int × Int), flat (xs.map encR) = (enc2 xs).map .lit
  | [] => rfl
  | (a, b) :: xs => by
    have := flatR xs
    simp only [flat, List.map_cons, List.flatMap_cons] at this ⊢
    rw [this]; rfl
theorem Vs.lits {E : Env} {w : World} : ∀ {us vs : List Value}, Vs E w (us.map .lit) vs → vs = us
  | [], [], _ => rfl
  | [], _ :: _, h => by have := h.1; simp at this
  | _ :: _, [], h => by have := h.1; simp at this
  | u :: us, v :: vs, h => by
    have h0 := h.2 0 (.lit u) v rfl rfl
    have h1 : Vs E w (us.map .lit) vs := ⟨by have := h.1; simpa using this, fun i c x hc hx => h.2 (i + 1) c x (by simpa using hc) (by simpa using hx)⟩
    rw [Vs.lits h1, h0.lit_eq]
theorem V.cap {E : Env} {w : World} {m : MV} {h : MHeap} (hr : HRel E h w) {es : List MV} {A : Option Addr} {n cap : Nat} (hv : V E w m (.slice A n cap)) (he : m.elems h = some es) : n ≤ cap := by
  generalize hx : Value.slice A n cap = x at hv
  cases hv with
  | sl es vs A' cap' sz h1 => cases hx; exact h1
  | lit v =>
    subst hx
    unfold MV.elems at he
    split at he <;> try (cases he; done)
    · rename_i e; cases e
    · rename_i e; cases e; exact Nat.le_refl _
    · rename_i e; cases e
  | arr id i n' g A' cap' hk hg hd =>
    cases hx
    simp only [MV.elems] at he
    split at he
    case h_2 => cases he
    rename_i o ho
    split at he
    case isFalse => cases he
    rename_i hcond
    obtain ⟨es', q1, _⟩ := hr.obj id hk
    rw [q1] at ho; cases ho
    exact (hd hcond.1).2.1
  | junk => simp [MV.elems] at he
  | _ => cases hx
theorem rd_of {E : Env} {w : World} {m : MV} {v : Value} {h : MHeap} {xs : List (Int × Int)} (hr : HRel E h w) (hv : V E w m v) (he : m.elems h = some (xs.map encR)) : ∃ A cap, v = .slice A xs.length cap ∧ xs.length ≤ cap ∧ Rd w 2 A xs.length (enc2 xs) := by
  obtain ⟨A, cap, vs, rfl, h1, h2⟩ := V.elems hr hv he (sz := 2) (fun e he => by obtain ⟨p, _, rfl⟩ := List.mem_map.1 he; rfl)
  rw [flatR] at h1
  have e := h1.lits
  subst e
  have hc := V.cap hr hv he
  simp only [List.length_map] at h2 hc ⊢
  refine ⟨A, cap, rfl, hc, enc2_length xs, fun h0 => ?_⟩
  obtain ⟨b, off, rfl, h3⟩ := h2 h0
  refine ⟨b, off, rfl, ?_, h3⟩
  have := h3 0 ((enc2 xs)[0]'(by rw [enc2_length]; omega)) (by simp)
  exact cell_lt this

/-- All new blocks may be read. -/
def Env.grow (E : Env) (w w' : World) : Env := { E with S := fun b => E.S b ∨ (w.heap.size ≤ b ∧ b < w'.heap.size) }
theorem grow_ok {E : Env} {h : MHeap} {w w' : World} (hr : HRel E h w) (hb : Below w.heap.size w w') : HRel (E.grow w w') h w' ∧ Ext (fun _ => true) E w (E.grow w w') w' := by
  have h1 := hr.ck (CK.of_below (B := 0) hb)
  have hle : EnvLe E (E.grow w w') := ⟨fun b hb => .inl hb, fun id hk => ⟨hk, rfl, rfl, rfl, rfl, rfl, rfl, rfl⟩, rfl⟩
  refine ⟨⟨h1.klt, h1.top, fun id hk => ?_, h1.inj, fun id hk hc hs => ?_, fun b hb' => ?_⟩, ⟨hb.os, hb.tape, hb.output, hb.size, fun k hk _ => hb.block k hk, fun b hb => .inl hb, fun id hk => hk, fun id hk => ⟨Nat.le_refl _, fun _ => ⟨rfl, rfl, rfl, rfl, rfl, rfl⟩⟩, fun _ _ _ => rfl, fun id hk hc => .inl ⟨hk, hc, rfl⟩, rfl, fun id hk => .inl hk, rfl, fun b hb => hb.elim .inl fun h => .inr (.inr h.1)⟩⟩
  · obtain ⟨es, a1, a2, a3, a4, a5⟩ := h1.obj id hk
    exact ⟨es, a1, a2, a3, a4, fun hc => by
      obtain ⟨arr, t, b1, b2, b3⟩ := a5 hc
      exact ⟨arr, t, b1, b2, fun k c hkc => by obtain ⟨v, c1, c2⟩ := b3 k c hkc; exact ⟨v, c1, c2.env hle⟩⟩⟩
  · rcases hs with hs | hs
    · exact hr.sep id hk hc hs
    · have : E.ρ id < w.heap.size := hr.lt hk hc
      have h2 : w.heap.size ≤ E.ρ id := hs.1
      omega
  · rcases hb' with hb' | hb'
    · exact Nat.lt_of_lt_of_le (hr.slt b hb') hb.size
    · exact hb'.2
/-- Owned rows of integers, as what a call hands back. -/
def rowM : List Int → MV
  | [] => .sl []
  | z :: zs => .arr 0 0 (z :: zs).length 0
def rowH : List Int → MHeap
  | [] => []
  | z :: zs => [⟨0, false, 1, (z :: zs).map I64⟩]
theorem flatI : ∀ zs : List Int, flat (zs.map I64) = (enc1 zs).map .lit
  | [] => rfl
  | z :: zs => by
    have ih := flatI zs
    simp only [flat, List.map_cons, List.flatMap_cons] at ih ⊢
    rw [ih]; rfl
theorem own_row {E : Env} {w w' : World} {v : Value} {zs : List Int} (hr : HRel E [] w) (hb : Below w.heap.size w w') (ho : w'.ownsRow w.heap.size 3 1 v zs.length (enc1 zs)) : ∃ E', V E' w' (rowM zs) v ∧ HRel E' (rowH zs) w' ∧ Ext (fun _ => true) E w E' w' := by
  have hne : ∀ id, ¬ E.K id := fun id hk => absurd (hr.klt id hk) (by simp)
  have ht : E.top = 0 := Nat.le_zero.1 hr.top
  cases zs with
  | nil =>
    obtain ⟨g1, g2⟩ := grow_ok hr hb
    refine ⟨_, ?_, g1, g2⟩
    rcases ho.2 with ⟨rfl, hn⟩ | ⟨g, cap, cur, rfl, hg, hh, hnc, hcm, hcs, htake⟩
    · exact .sl [] [] none 0 1 (Nat.le_refl _) (fun e he => by cases he) rfl (fun i c x hc => by simp [flat] at hc) (fun h0 => absurd h0 (by simp))
    · exact .sl [] [] (some ⟨g, 0, none⟩) cap 1 hnc (fun e he => by cases he) rfl (fun i c x hc => by simp [flat] at hc) (fun h0 => absurd h0 (by simp))
  | cons z zs =>
    rcases ho.2 with ⟨rfl, hn⟩ | ⟨g, cap, cur, rfl, hg, hh, hnc, hcm, hcs, htake⟩
    · simp at hn
    · have hsz : g < w'.heap.size := (Array.getElem?_eq_some_iff.1 hh).1
      obtain ⟨E', hE'⟩ : ∃ E' : Env, E' = { S := E.S, K := fun id => id = 0, ρ := fun _ => g, bo := fun _ => 0, cp := fun _ => cap, sz := fun _ => 1, gn := fun _ => 0, ln := fun _ => (z :: zs).length, nl := fun _ => false, top := 0, yl := E.yl } := ⟨_, rfl⟩
      refine ⟨E', ?_, ⟨fun id hk => ?_, ?_, fun id hk => ?_, fun i j hi hj _ _ _ => ?_, fun id hk hc hs => ?_, fun b hb' => ?_⟩, ⟨hb.os, hb.tape, hb.output, hb.size, fun k hk _ => hb.block k hk, fun b hb => ?_, fun id hk => absurd hk (hne id), fun id hk => absurd hk (hne id), fun id hk => absurd hk (hne id), fun id hk hc => ?_, ?_, fun id hk => ?_, ?_, fun b hb => ?_⟩⟩
      · refine .arr 0 0 _ 0 (some ⟨g, 0, none⟩) cap ?_ (Nat.zero_le _) fun _ => ?_
        · rw [hE']
        · rw [hE']
          exact ⟨by simp, hnc, (fun h => by cases h), fun _ => rfl, fun _ => ⟨by simp, by simp⟩⟩
      · rw [hE'] at hk
        have hk : id = 0 := hk
        subst hk
        simp [rowH]
      · rw [hE']; exact Nat.zero_le _
      · rw [hE'] at hk
        have hk : id = 0 := hk
        subst hk
        rw [hE']
        refine ⟨(z :: zs).map I64, rfl, by simp, fun e he => by obtain ⟨p, _, rfl⟩ := List.mem_map.1 he; rfl, by simpa using hnc, fun _ => ⟨cur, _, hh, by simpa using hcs, fun k c hk => ?_⟩⟩
        rw [flatI, List.getElem?_map, Option.map_eq_some_iff] at hk
        obtain ⟨u, hu, rfl⟩ := hk
        refine ⟨u, ?_, .lit _⟩
        have := htake
        rw [← this] at hu
        rw [List.getElem?_take] at hu
        split at hu
        · simpa using hu
        · cases hu
      · rw [hE'] at hi hj
        have hi : i = 0 := hi
        have hj : j = 0 := hj
        rw [hi, hj]
      · rw [hE'] at hs
        have := hr.slt g hs
        omega
      · rw [hE'] at hb'
        exact Nat.lt_of_lt_of_le (hr.slt b hb') hb.size
      · rw [hE']; exact hb
      · rw [hE']; exact .inr hg
      · rw [hE']; exact ht.symm
      · rw [ht]; exact .inr (Nat.zero_le _)
      · rw [hE']
      · rw [hE'] at hb; exact .inl hb

/-- GroupsOf, and the reference's groups, by their contracts. -/
def tGroups (f : Nat) (args : List MV) (h : MHeap) : Option (MV × MHeap) :=
  match args, h with
  | [.agg [.lit (.int .i64 fixed), .lit (.int .i64 lead)], v], [] => match v.elems [] with
    | some es => match es.mapM decR with
      | some xs => if xs.length ≤ 9223372036854775807 then
          if f = 16 then
            if groupsErr fixed lead xs ≠ 0 then some (.tup [.lit (.slice none 0 0), I64 0, I64 (groupsErr fixed lead xs)], [])
            else some (.tup [rowM (gSizes fixed lead xs), I64 (gCost fixed lead xs), I64 0], rowH (gSizes fixed lead xs))
          else if f = 20 then
            if groupsErr fixed lead xs ≠ 0 then none else some (.tup [rowM (gSizes fixed lead xs), I64 (gCost fixed lead xs)], rowH (gSizes fixed lead xs))
          else none
        else none
      | none => none
    | none => none
  | _, _ => none

theorem groupsErr_ok {fixed lead : Int} {xs : List (Int × Int)} (h : groupsErr fixed lead xs = 0) : (0 ≤ fixed ∧ fixed ≤ 10000) ∧ (0 ≤ lead ∧ lead ≤ 10000) ∧ xs.length ≤ 30 ∧ piecesE (-2) xs = 0 := by
  unfold groupsErr at h
  simp only [firstE] at h
  by_cases h1 : (inB fixed 0 10000 && inB lead 0 10000) = true
  · have h2 : piecesAll xs = 0 := by
      by_cases h0 : piecesAll xs = 0
      · exact h0
      · simp [unl, h1, h0] at h
    rw [Bool.and_eq_true] at h1
    unfold piecesAll at h2
    split at h2
    · cases h2
    · exact ⟨inB_iff.1 h1.1, inB_iff.1 h1.2, by omega, h2⟩
  · simp [unl, h1] at h

theorem vs_two {E : Env} {w : World} {a b : MV} {vs : List Value} (hv : Vs E w [a, b] vs) : ∃ x y, vs = [x, y] ∧ V E w a x ∧ V E w b y := by
  obtain ⟨x, us, rfl, h1, h2⟩ := hv.uncons
  obtain ⟨y, us, rfl, h3, h4⟩ := h2.uncons
  have : us = [] := List.length_eq_zero_iff.1 h4.1.symm
  subst this
  exact ⟨x, y, rfl, h1, h3⟩
theorem v_agg {E : Env} {w : World} {us : List Value} {v : Value} (hv : V E w (.agg (us.map .lit)) v) : v = .agg us.toArray := by
  cases hv with
  | agg cs vs hl hc =>
    have : Vs E w (us.map .lit) vs := ⟨hl, hc⟩
    rw [this.lits]

theorem tGroups_ok : SoundO Try.prog tGroups := by
  intro f args h m h' he
  unfold tGroups at he
  split at he
  case h_2 => cases he
  rename_i fixed lead v
  split at he
  case h_2 => cases he
  rename_i es hes
  split at he
  case h_2 => cases he
  rename_i xs hxs
  have hes' := decR_all hxs
  subst hes'
  split at he
  case isFalse => cases he
  rename_i hlen
  split at he
  · rename_i hf
    subst hf
    refine ⟨by kernel_rfl, fun E w vs hr hv => ?_⟩
    obtain ⟨x, y, rfl, h1, h2⟩ := vs_two hv
    have := v_agg (us := [.int .i64 fixed, .int .i64 lead]) h1
    subst this
    obtain ⟨A, cap, rfl, hcap, hrd⟩ := rd_of hr h2 hes
    split at he
    · rename_i hE
      cases he
      refine (GroupsOf_bad fixed lead A xs.length cap xs w hlen hrd hE).mono fun e w' ⟨he, hb⟩ => ?_
      obtain ⟨g1, g2⟩ := grow_ok hr hb
      exact ⟨_, _, he, .tup _ [.slice none 0 0, .int .i64 0, .int .i64 (groupsErr fixed lead xs)] rfl (fun i c x hc hx => by
        have : Vs (E.grow w w') w' [.lit (.slice none 0 0), I64 0, I64 (groupsErr fixed lead xs)] [.slice none 0 0, .int .i64 0, .int .i64 (groupsErr fixed lead xs)] := Vs.cons (.lit _) (Vs.cons (.lit _) (Vs.cons (.lit _) ⟨rfl, fun i c v hc => by simp at hc⟩))
        exact this.2 i c x hc hx), g1, g2⟩
    · rename_i hE
      cases he
      have hE0 : groupsErr fixed lead xs = 0 := by simpa using hE
      obtain ⟨k1, k2, k3, k4⟩ := groupsErr_ok hE0
      refine (GroupsOf_ok fixed lead A xs.length cap xs w k3 hrd hE0 k1 k2 (piecesE_range xs (-2) k4)).mono fun e w' ⟨v', he, ho, hb⟩ => ?_
      obtain ⟨E', g0, g1, g2⟩ := own_row hr hb ho
      exact ⟨_, _, he, .tup _ [v', .int .i64 (gCost fixed lead xs), .int .i64 0] rfl (fun i c x hc hx => by
        have : Vs E' w' [rowM (gSizes fixed lead xs), I64 (gCost fixed lead xs), I64 0] [v', .int .i64 (gCost fixed lead xs), .int .i64 0] := Vs.cons g0 (Vs.cons (.lit _) (Vs.cons (.lit _) ⟨rfl, fun i c v hc => by simp at hc⟩))
        exact this.2 i c x hc hx), g1, g2⟩
  · split at he
    case isFalse => cases he
    rename_i hf
    subst hf
    refine ⟨by kernel_rfl, fun E w vs hr hv => ?_⟩
    obtain ⟨x, y, rfl, h1, h2⟩ := vs_two hv
    have := v_agg (us := [.int .i64 fixed, .int .i64 lead]) h1
    subst this
    obtain ⟨A, cap, rfl, hcap, hrd⟩ := rd_of hr h2 hes
    split at he
    · cases he
    · rename_i hE
      cases he
      have hE0 : groupsErr fixed lead xs = 0 := by simpa using hE
      obtain ⟨k1, k2, k3, k4⟩ := groupsErr_ok hE0
      refine (rGroups_any fixed lead A xs.length cap xs w k3 hcap hrd k1 k2 (piecesE_range xs (-2) k4)).mono fun e w' ⟨v', he, ho, hb⟩ => ?_
      obtain ⟨E', g0, g1, g2⟩ := own_row hr hb ho
      exact ⟨_, _, he, .tup _ [v', .int .i64 (gCost fixed lead xs)] rfl (fun i c x hc hx => by
        have : Vs E' w' [rowM (gSizes fixed lead xs), I64 (gCost fixed lead xs)] [v', .int .i64 (gCost fixed lead xs)] := Vs.cons g0 (Vs.cons (.lit _) ⟨rfl, fun i c v hc => by simp at hc⟩)
        exact this.2 i c x hc hx), g1, g2⟩

end Go.Proofs.Ytgjpdjihjphbdaa
