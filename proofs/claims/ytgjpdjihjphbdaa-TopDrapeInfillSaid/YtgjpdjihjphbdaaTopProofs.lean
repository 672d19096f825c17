/- The law TopDrapeInfill: for all rules, lines of fixes and layouts it returns true; the arguments read as before. -/
import Derived.Test.YtgjpdjihjphbdaaGroupsLift
import Derived.Test.YtgjpdjihjphbdaaStr2
import Derived.Test.YtgjpdjihjphbdaaFix6
import Derived.Test.YtgjpdjihjphbdaaSp8
/- A law whose strips may hold nil rows: an oracle that reads them as empty ones. -/
namespace Go.Proofs.Ytgjpdjihjphbdaa
open Go.RowKit Go.ChangeShapes Go.WideShapes Go.ChangeAt
set_option linter.unusedVariables false
def wk : MV → MV
  | .lit (.slice none 0 0) => .sl []
  | m => m
def wkA : MV → MV
  | .agg cs => .agg (cs.map wk)
  | m => wk m
theorem V_wk {E : Env} {w : World} {m : MV} {v : Value} (h : V E w m v) : V E w (wk m) v := by
  unfold wk
  split
  · cases h
    exact V.sl [] [] none 0 0 (Nat.le_refl _) (fun e he => by cases he) rfl (fun i c v hc => by simp [flat] at hc) (fun h => absurd h (Nat.lt_irrefl _))
  · exact h
theorem V_wkA {E : Env} {w : World} {m : MV} {v : Value} (h : V E w m v) : V E w (wkA m) v := by
  unfold wkA
  split
  · cases h with
    | agg cs vs hl hc =>
      refine .agg _ vs (by simpa using hl) fun i c v h1 h2 => ?_
      rw [List.getElem?_map, Option.map_eq_some_iff] at h1
      obtain ⟨c', h3, rfl⟩ := h1
      exact V_wk (hc i c' v h3 h2)
  · exact V_wk h
theorem Vs_wk {E : Env} {w : World} {ms : List MV} {vs : List Value} (h : Vs E w ms vs) : Vs E w (ms.map wkA) vs :=
  ⟨by simpa using h.1, fun i c v h1 h2 => by
    rw [List.getElem?_map, Option.map_eq_some_iff] at h1
    obtain ⟨c', h3, rfl⟩ := h1
    exact V_wkA (h.2 i c' v h3 h2)⟩
/-- The program's answers: rows are read so that nil is an empty row; a strip is copied in the caller's memory. -/
noncomputable def orT : Oracle := fun f args h =>
  if f = 60 then runZ MT (orA 11) (itA 11) 1000000 f (args.map wkA) h
  else orA 12 f (if f = 61 ∨ f = 71 ∨ f = 64 then args.map wkA else args) h
theorem orT_ok : SoundO Try.prog orT := fun f args h m h' he => by
  unfold orT at he
  split at he
  · have hI : SoundI Try.prog (itA 11) := orI_ok (by kernel_rfl) (tabOf_ok Try.prog) (noI_ok Try.prog) (orA_ok 11) (orZ_ok (by kernel_rfl) (tabOf_ok Try.prog) tA_ok (noI_ok Try.prog) 11).2
    obtain ⟨h1, h2⟩ := runZ_ok (by kernel_rfl) (tabOf_ok Try.prog) (orA_ok 11) (orZ_ok (by kernel_rfl) (tabOf_ok Try.prog) tA_ok (noI_ok Try.prog) 11).2 hI he
    exact ⟨h1, fun E w vs hr hv => h2 E w vs hr (Vs_wk hv)⟩
  · obtain ⟨h1, h2⟩ := orA_ok 12 f _ h m h' he
    refine ⟨h1, fun E w vs hr hv => h2 E w vs hr ?_⟩
    split
    · exact Vs_wk hv
    · exact hv
theorem orT_app : AppO orT := fun f args h m h' he => by
  unfold orT at he
  split at he
  · exact runZ_app he
  · exact (orZ_ok (by kernel_rfl) (tabOf_ok Try.prog) tA_ok (noI_ok Try.prog) 12).2 f _ h m h' he
theorem orT_at {f : Nat} {args : List MV} {h : MHeap} (h1 : decide (f = 60) = false) (h2 : decide (f = 61 ∨ f = 71 ∨ f = 64) = false) : orT f args h = orA 12 f args h := by
  unfold orT
  rw [if_neg (of_decide_eq_false h1), if_neg (of_decide_eq_false h2)]
theorem orT_wk {f : Nat} {args : List MV} {h : MHeap} (h1 : decide (f = 60) = false) (h2 : decide (f = 61 ∨ f = 71 ∨ f = 64) = true) : orT f args h = orA 12 f (args.map wkA) h := by
  unfold orT
  rw [if_neg (of_decide_eq_false h1), if_pos (of_decide_eq_true h2)]
theorem orT_cp {args : List MV} {h : MHeap} : orT 60 args h = runZ MT (orA 11) (itA 11) 1000000 60 (args.map wkA) h := by
  unfold orT
  rw [if_pos rfl]

theorem law_callsO {O : Oracle} (hO : SoundO Try.prog O) (hAp : AppO O) {f : Nat} {args : List MV} {vs : List Value} {w : World} (hz : runZ MT O (itA 12) 1000000 f args [] = some (.lit (.bool true), [])) (hv : Vs (baseE w) w args vs) :
    Calls Try.prog f vs.toArray w fun e w' => e = .returned (.bool true) ∧ Below w.heap.size w w' := by
  have hI : SoundI Try.prog (itA 12) := orI_ok (by kernel_rfl) (tabOf_ok Try.prog) (noI_ok Try.prog) (orA_ok 12) (orZ_ok (by kernel_rfl) (tabOf_ok Try.prog) tA_ok (noI_ok Try.prog) 12).2
  refine ((runZ_ok (by kernel_rfl) (tabOf_ok Try.prog) hO hAp hI hz).2 (baseE w) w vs (baseE_rel w) hv).mono ?_
  rintro e w' ⟨v, E', rfl, h1, -, h3⟩
  exact ⟨by rw [h1.lit_eq], below_ext (fun id hk => hk) h3⟩

set_option maxRecDepth 100000 in
theorem law_contractO {O : Oracle} (hO : SoundO Try.prog O) (hAp : AppO O) {H : Type} {enc : TypeId × Value → H} {f : Nat} {fn : Func} {s : ChangeSpec} (shs : List Sh) (hp : hasAll Try.prog shs fn.params.toList = true) (hrd : (fn.params.toList.all fun t => Try.prog.readableRec t && decide (t < Try.prog.types.size)) = true) (hr : fn.resultTypes = #[4])
    (hsv : s.vars = []) (hspec : ∀ ds : List (DataW H), ds.length = shs.length → (s.fn H (ds ++ [])).results = [.lit (.bool true)] ∧ (s.fn H (ds ++ [])).args = ds ∧ (s.fn H (ds ++ [])).vars = [])
    (hz : ∀ ms, FitsL shs ms → runZ MT O (itA 12) 1000000 f ms [] = some (.lit (.bool true), []))
    (W : World) (base : Nat) (args : Array Value) (ds gs : List (DataW H)) (before : List MemPlace) (hval : ∀ (j : Nat) t v, fn.params[j]? = some t → args[j]? = some v → Value.okWide Try.prog W .any base t v)
    (hW : DataW.Whole enc Try.prog fn.params.toList s.vars false W args.toList ds gs before) :
    Calls Try.prog f args W fun e W' => ∃ v, e = .returned v ∧ s.post enc Try.prog fn false true false false W args v W' := by
  have hW' := hW
  obtain ⟨p, q, hA, hV, rfl, hfz, hnd⟩ := hW
  rw [hsv] at hV
  obtain ⟨rfl, rfl⟩ := trodVars_none hV
  have hv2 : ∀ (j : Nat) (t : TypeId) (v : Value), fn.params.toList[j]? = some t → args.toList[j]? = some v → Value.okWide Try.prog W .any base t v := fun j t v ht hv => hval j t v (by rw [Array.getElem?_toList] at ht; exact ht) (by rw [Array.getElem?_toList] at hv; exact hv)
  obtain ⟨ms, h1, h2, h3⟩ := lift_all (P := Try.prog) (w := W) shs fn.params.toList args.toList ds p hp hA hv2
  have hc := law_callsO hO hAp (hz ms h1) h2
  rw [Array.toArray_toList] at hc
  refine hc.mono ?_
  rintro e W' ⟨rfl, hb⟩
  obtain ⟨e1, e2, e3⟩ := hspec ds h3
  have hlt : ∀ x ∈ p ++ [], x.block < W.heap.size := fun x hx => by simpa using hW'.lt x hx
  refine ⟨_, rfl, ds, [], p ++ [], [], p, [], hW', ?_, ?_, ?_, hb.frame _, fun h => by cases h⟩
  · rw [e1, hr]
    exact trodAll_mk1 (shut_bool Try.underlying4 true)
  · rw [e2]
    exact stay_all Try.laidOut hb _ _ _ _ hA hrd fun x hx => hlt x (by simpa using hx)
  · rw [e3, hsv]; rfl
end Go.Proofs.Ytgjpdjihjphbdaa

/- The examples of the top law. -/
namespace Go.Proofs.Ytgjpdjihjphbdaa
open Go.RowKit
theorem awakeT_z : runZ MT (orA 11) (itA 11) 1000000 87 [] [] = some (Bo true, []) := by kernel_rfl
end Go.Proofs.Ytgjpdjihjphbdaa

/- The plain law of lines of a strip: flown, lost, flown again; pieces of spoilt fixes (no program). -/
namespace Go.Proofs.Ytgjpdjihjphbdaa

/-- The lines of which something holds. -/
def lnF (sp : Int) (b : Nat → Bool) (n : Nat) : List Int := ((List.range n).filter b).map fun j : Nat => sp * ((j : Int) + 1)
theorem lnF_succ (sp : Int) (b : Nat → Bool) (n : Nat) : lnF sp b (n + 1) = lnF sp b n ++ if b n then [sp * ((n : Int) + 1)] else [] := by
  unfold lnF
  rw [List.range_succ, List.filter_append, List.map_append]
  congr 1
  cases h : b n <;> simp [h]
theorem lnF_len (sp : Int) (b : Nat → Bool) (n : Nat) : (lnF sp b n).length ≤ n := by
  unfold lnF
  rw [List.length_map]
  exact Nat.le_trans (List.length_filter_le _ _) (by simp)
theorem lnF_mem {sp : Int} {b : Nat → Bool} {n : Nat} {x : Int} : x ∈ lnF sp b n ↔ ∃ j, j < n ∧ b j = true ∧ x = sp * ((j : Int) + 1) := by
  unfold lnF
  rw [List.mem_map]
  constructor
  · rintro ⟨j, hj, rfl⟩
    rw [List.mem_filter, List.mem_range] at hj
    exact ⟨j, hj.1, hj.2, rfl⟩
  · rintro ⟨j, h1, h2, rfl⟩
    exact ⟨j, by rw [List.mem_filter, List.mem_range]; exact ⟨h1, h2⟩, rfl⟩
theorem mul_step {sp : Int} {j n : Nat} (hs : 0 ≤ sp) (h : j < n) : sp * ((j : Int) + 1) + sp ≤ sp * ((n : Int) + 1) := by
  have h1 : sp * 1 ≤ sp * ((n : Int) - (j : Int)) := Int.mul_le_mul_of_nonneg_left (by omega) hs
  rw [Int.mul_sub, Int.mul_one] at h1
  rw [Int.mul_add, Int.mul_add, Int.mul_one]
  omega
theorem mul_pos' {sp : Int} {j : Nat} (hs : 1 ≤ sp) : 1 ≤ sp * ((j : Int) + 1) := by
  have h1 : 1 * ((j : Int) + 1) ≤ sp * ((j : Int) + 1) := Int.mul_le_mul_of_nonneg_right hs (by omega)
  omega
theorem mul_top {sp : Int} {n : Nat} (hs : sp ≤ 20) (hn : n ≤ 12) : sp * ((n : Int) + 1) ≤ 260 := by
  have h1 : sp * ((n : Int) + 1) ≤ 20 * ((n : Int) + 1) := Int.mul_le_mul_of_nonneg_right hs (by omega)
  omega
theorem lnF_asc {sp : Int} (hs : 1 ≤ sp) (b : Nat → Bool) : ∀ n, Asc (lnF sp b n)
  | 0 => .nil
  | n + 1 => by
    rw [lnF_succ]
    refine List.pairwise_append.2 ⟨lnF_asc hs b n, by split <;> simp, fun x hx y hy => ?_⟩
    obtain ⟨j, h1, _, rfl⟩ := lnF_mem.1 hx
    split at hy
    · obtain rfl : y = sp * ((n : Int) + 1) := by simpa using hy
      have := mul_step (sp := sp) (by omega) h1
      omega
    · cases hy
theorem posnE_ok {a b : Int} {o : List Int} : ∀ {ns : List Int} {last : Int} {i : Nat}, (∀ n ∈ ns, (a + 1 ≤ n ∧ n ≤ b - 1) ∧ last < n ∧ n ∉ o) → Asc ns → (posnE a b o last i ns).2 = 0
  | [], _, _, _, _ => rfl
  | n :: ns, last, i, h, ha => by
    rw [Asc, List.pairwise_cons] at ha
    have h0 := lineE_zero.2 (h n List.mem_cons_self)
    simp only [posnE]
    rw [if_pos h0]
    exact posnE_ok (fun m hm => ⟨(h m (List.mem_cons_of_mem _ hm)).1, ha.1 m hm, (h m (List.mem_cons_of_mem _ hm)).2.2⟩) ha.2
theorem strip_ok {sp gap : Int} {n : Nat} (b : Nat → Bool) (h1 : 1 ≤ sp ∧ sp ≤ 20) (h2 : 1 ≤ gap ∧ gap ≤ 100) (hn : n ≤ 12) : OkS 0 (sp * ((n : Int) + 1)) gap (lnF sp b n) (lnF sp (fun j => !b j) n) := by
  apply stripE_ok
  have ht := mul_top (sp := sp) (n := n) h1.2 hn
  have hp := mul_pos' (sp := sp) (j := n) h1.1
  have l1 := lnF_len sp b n
  have l2 := lnF_len sp (fun j => !b j) n
  have hr : rangeE 0 (sp * ((n : Int) + 1)) gap (lnF sp b n) (lnF sp (fun j => !b j) n) = 0 := by
    unfold rangeE
    rw [firstE_zero, firstE_zero, firstE_zero, unl_eq (by decide), unl_eq (by decide), unl_eq (by decide)]
    simp only [Bool.and_eq_true, inB_iff, decide_eq_true_eq]
    exact ⟨⟨⟨by omega, by omega⟩, by omega⟩, by omega, ⟨by omega, by omega⟩, rfl⟩
  have mem : ∀ (c : Nat → Bool) (x : Int), x ∈ lnF sp c n → (0 + 1 ≤ x ∧ x ≤ sp * ((n : Int) + 1) - 1) ∧ 0 < x := fun c x hx => by
    obtain ⟨j, k1, _, rfl⟩ := lnF_mem.1 hx
    have := mul_step (sp := sp) (by omega) k1
    have := mul_pos' (sp := sp) (j := j) h1.1
    omega
  have p1 : (posnE 0 (sp * ((n : Int) + 1)) [] 0 0 (lnF sp b n)).2 = 0 := posnE_ok (fun x hx => ⟨(mem b x hx).1, (mem b x hx).2, by simp⟩) (lnF_asc h1.1 b n)
  unfold stripE
  rw [if_pos hr, if_pos p1]
  refine posnE_ok (fun x hx => ⟨(mem _ x hx).1, (mem _ x hx).2, fun hx2 => ?_⟩) (lnF_asc h1.1 _ n)
  obtain ⟨j, _, k2, k3⟩ := lnF_mem.1 hx
  obtain ⟨i, _, i2, i3⟩ := lnF_mem.1 hx2
  have hij : i = j := by
    rw [i3] at k3
    rcases Nat.lt_trichotomy i j with h | h | h
    · have := mul_step (sp := sp) (by omega) h; omega
    · exact h
    · have := mul_step (sp := sp) (by omega) h; omega
  subst hij
  rw [i2] at k2
  cases k2
/-- Without an infill the gap is smaller than the spacing. -/
theorem none_gap {sp gap : Int} {n : Nat} {b : Nat → Bool} (h1 : 1 ≤ sp ∧ sp ≤ 20) (h2 : 1 ≤ gap ∧ gap ≤ 100) (hn : n ≤ 12) (hp : packF ⟨0, sp * ((n : Int) + 1), gap, lnF sp b n, lnF sp (fun j => !b j) n⟩ = none) : gap < sp := by
  have hok := strip_ok b h1 h2 hn
  obtain ⟨w, hw, hc⟩ := sweep_none hok.good hp
  obtain ⟨⟨w1, w2⟩, w3, _⟩ := wins_mem.1 hw
  simp only at w1 w2 w3 hc
  apply Decidable.byContradiction
  intro hg
  have q1 := Int.mul_ediv_self_le (x := w) (k := sp) (by omega)
  have q2 := Int.lt_mul_ediv_self_add (x := w) (k := sp) (by omega)
  have q3 : 0 ≤ w / sp := Int.ediv_nonneg w1 (by omega)
  obtain ⟨j, hj⟩ : ∃ j : Nat, (j : Int) = w / sp := ⟨(w / sp).toNat, by omega⟩
  rw [← hj] at q1 q2
  have e1 : sp * ((j : Int) + 1) = sp * (j : Int) + sp := by rw [Int.mul_add, Int.mul_one]
  have hjn : j < n := by
    apply Decidable.byContradiction
    intro hc
    by_cases hjn : j = n
    · subst hjn; omega
    · have := mul_step (sp := sp) (j := n) (n := j) (by omega) (by omega); omega
  by_cases hb : b j = true
  · have hm : hasW gap w (lnF sp b n) = true := hasW_iff.2 ⟨sp * ((j : Int) + 1), lnF_mem.2 ⟨j, hjn, hb, rfl⟩, by omega, by omega⟩
    rw [hm] at w3
    cases w3
  · have := hc (sp * ((j : Int) + 1)) (lnF_mem.2 ⟨j, hjn, by simpa using hb, rfl⟩)
    rw [← Bool.not_eq_true, cand_iff] at this
    have hp := mul_pos' (sp := sp) (j := j) h1.1
    exact this ⟨by omega, by omega, by omega⟩
/-- Flown again, nothing is left to fill. -/
theorem again_none {sp gap : Int} {n : Nat} {b b' : Nat → Bool} {q : List Int} (hw : wins ⟨0, sp * ((n : Int) + 1), gap, lnF sp b n, lnF sp (fun j => !b j) n⟩ q = []) (hq : ∀ x ∈ q, x ∈ lnF sp (fun j => !b j) n)
    (hb : ∀ j, b' j = ((lnF sp b n).contains (sp * ((j : Int) + 1)) || q.contains (sp * ((j : Int) + 1)))) : wins ⟨0, sp * ((n : Int) + 1), gap, lnF sp b' n, lnF sp (fun j => !b' j) n⟩ [] = [] := by
  cases hws : wins ⟨0, sp * ((n : Int) + 1), gap, lnF sp b' n, lnF sp (fun j => !b' j) n⟩ [] with
  | nil => rfl
  | cons w ws =>
    exfalso
    have hm : w ∈ wins ⟨0, sp * ((n : Int) + 1), gap, lnF sp b' n, lnF sp (fun j => !b' j) n⟩ [] := by rw [hws]; exact List.mem_cons_self
    obtain ⟨k1, k2, _⟩ := wins_mem.1 hm
    simp only at k1 k2
    have key : ∀ x, (x ∈ lnF sp b n ∨ x ∈ q) → w + 1 ≤ x → x ≤ w + gap → False := fun x hx h1 h2 => by
      have hj : ∃ j, j < n ∧ x = sp * ((j : Int) + 1) := by
        rcases hx with hx | hx
        · obtain ⟨j, a1, _, a2⟩ := lnF_mem.1 hx
          exact ⟨j, a1, a2⟩
        · obtain ⟨j, a1, _, a2⟩ := lnF_mem.1 (hq x hx)
          exact ⟨j, a1, a2⟩
      obtain ⟨j, a1, rfl⟩ := hj
      have hbj : b' j = true := by
        rw [hb j, Bool.or_eq_true, List.contains_iff_mem, List.contains_iff_mem]
        exact hx
      have : hasW gap w (lnF sp b' n) = true := hasW_iff.2 ⟨_, lnF_mem.2 ⟨j, a1, hbj, rfl⟩, h1, h2⟩
      rw [this] at k2
      cases k2
    cases hf : hasW gap w (lnF sp b n)
    · obtain ⟨x, x1, x2, x3⟩ := hasW_iff.1 (covered hw ⟨k1, hf⟩)
      exact key x (.inr x1) x2 x3
    · obtain ⟨x, x1, x2, x3⟩ := hasW_iff.1 hf
      exact key x (.inl x1) x2 x3
theorem infill_nil {s : Stp} (h : wins s [] = []) : infillF s = some [] := by
  have hp : packF s = some [] := by unfold packF; rw [h]; rfl
  unfold infillF
  rw [hp]
  simp only [Option.map_some, List.length_nil, Option.some.injEq]
  cases s.lo with
  | nil => rfl
  | cons n ns => simp [infF]
theorem pwsE_fst {s : Stp} : ∀ {ws : List Int} {v : Int} {i : Nat}, (pwsE s v i ws).2 = 0 → pwsE s v i ws = (0, 0)
  | [], _, _, _ => rfl
  | w :: ws, v, i, h => by
    simp only [pwsE] at h ⊢
    by_cases h0 : pwE s i v w = 0
    · rw [if_pos h0] at h ⊢
      exact pwsE_fst h
    · rw [if_neg h0] at h
      exact absurd h h0
theorem pkE_fst {s : Stp} {l : List Int} (h : (pkE s l).2 = 0) : pkE s l = (0, 0) := by
  unfold pkE at h ⊢
  by_cases hl : l.length ≤ 40
  · rw [if_pos hl] at h ⊢
    exact pwsE_fst h
  · rw [if_neg hl] at h
    simp at h

/-- Pieces lie apart. -/
def lastH (l : Int) : List (Int × Int) → Int
  | [] => l
  | p :: ps => lastH p.2 ps
theorem pieceE_iff {last lo hi : Int} : pieceE last lo hi = 0 ↔ (0 ≤ lo ∧ lo ≤ 200) ∧ (0 ≤ hi ∧ hi ≤ 200) ∧ lo ≤ hi ∧ last + 1 < lo := by
  unfold pieceE
  rw [firstE_zero, firstE_zero, unl_eq (by decide), unl_eq (by decide)]
  simp only [Bool.and_eq_true, inB_iff, decide_eq_true_eq, firstE_nil, and_true]
  constructor
  · rintro ⟨⟨h1, h2⟩, h3, h4⟩; exact ⟨h1, h2, h3, h4⟩
  · rintro ⟨h1, h2, h3, h4⟩; exact ⟨⟨h1, h2⟩, h3, h4⟩
theorem piecesE_app {l : Int} {p : Int × Int} : ∀ {xs : List (Int × Int)}, piecesE l (xs ++ [p]) = 0 ↔ piecesE l xs = 0 ∧ pieceE (lastH l xs) p.1 p.2 = 0
  | [] => by
    simp only [List.nil_append, piecesE, lastH, true_and]
    by_cases h : pieceE l p.1 p.2 = 0
    · simp [h]
    · simp [h]
  | x :: xs => by
    simp only [List.cons_append, piecesE, lastH]
    by_cases h : pieceE l x.1 x.2 = 0
    · simp only [h, ne_eq, not_true_eq_false, if_false]
      exact piecesE_app
    · simp [h]
theorem lastH_app {l : Int} {p : Int × Int} : ∀ (xs : List (Int × Int)), lastH l (xs ++ [p]) = p.2
  | [] => rfl
  | x :: xs => by simp only [List.cons_append, lastH]; exact lastH_app xs
def PcInv (k : Nat) (acc : List (Int × Int)) : Prop := piecesE (-2) acc = 0 ∧ lastH (-2) acc < (k : Int)
theorem spStep_pc {k : Nat} {acc : List (Int × Int)} {x : Int} (hk : k ≤ 200) (h : PcInv k acc) : PcInv (k + 1) (spStep acc k x) := by
  obtain ⟨h1, h2⟩ := h
  have app : lastH (-2) acc + 1 < (k : Int) → PcInv (k + 1) (acc ++ [((k : Int), (k : Int))]) := fun h3 =>
    ⟨piecesE_app.2 ⟨h1, pieceE_iff.2 ⟨by omega, by omega, by simp, h3⟩⟩, by rw [lastH_app]; simp only; omega⟩
  unfold spStep
  split
  · exact ⟨h1, by omega⟩
  · rcases List.eq_nil_or_concat acc with rfl | ⟨l, p, rfl⟩
    · exact app (by simp [lastH]; omega)
    · rw [List.concat_eq_append, lastH_app] at h2
      rw [List.concat_eq_append] at h1 app ⊢
      rw [lastH_app] at app
      simp only [List.getLast?_append, List.getLast?_singleton, Option.or_some, Option.some_or]
      split
      · rename_i h3
        obtain ⟨k1, k2⟩ := piecesE_app.1 h1
        obtain ⟨j1, j2, j3, j4⟩ := pieceE_iff.1 k2
        rw [List.dropLast_concat]
        refine ⟨piecesE_app.2 ⟨k1, pieceE_iff.2 ⟨j1, by simp only; omega, by simp only; omega, j4⟩⟩, by rw [lastH_app]; simp only; omega⟩
      · exact app (by omega)
theorem spoiltF_pc : ∀ (ys : List Int) (k : Nat) (acc : List (Int × Int)), k + ys.length ≤ 200 → PcInv k acc → PcInv (k + ys.length) (spoiltF acc k ys)
  | [], k, acc, _, h => h
  | y :: ys, k, acc, hk, h => by
    simp only [spoiltF, List.length_cons] at hk ⊢
    have := spoiltF_pc ys (k + 1) (spStep acc k y) (by omega) (spStep_pc (by omega) h)
    rwa [show k + 1 + ys.length = k + (ys.length + 1) by omega] at this
theorem spoilt_pc {r : Ru} {fs : List Fx} (h : fs.length ≤ 200) : piecesE (-2) (spoilt r fs) = 0 := by
  have := spoiltF_pc (reasonsL r fs) 0 [] (by simp [reasonsL]; omega) ⟨rfl, by simp [lastH]⟩
  exact this.1
theorem gSizes_pos {fixed lead : Int} {xs : List (Int × Int)} (h : 0 < xs.length) : 0 < (gSizes fixed lead xs).length := by
  unfold gSizes
  obtain ⟨m, hm⟩ : ∃ m, xs.length = m + 1 := ⟨xs.length - 1, by omega⟩
  rw [hm]
  simp only [gOut, show (0 : Nat) < m + 1 by omega, if_true, List.length_cons]
  omega
end Go.Proofs.Ytgjpdjihjphbdaa

/- Rows that grow in a struct; contracts for strips whose rows may be nil; the examples of the top law. -/
namespace Go.Proofs.Ytgjpdjihjphbdaa
open Go.RowKit
set_option linter.unusedVariables false

/-- A fact in a box. -/
structure Bx (p : Prop) : Prop where
  out : p
/-- A row of the call's own that may be nil. -/
def rowO : Option (Nat × Nat) → Nat → MV
  | none, _ => .lit (.slice none 0 0)
  | some (id, g), m => .arr id 0 m g
def RowIn (H : MHeap) : Option (Nat × Nat) → List Int → Prop
  | none, l => l = []
  | some (id, g), l => l ≠ [] ∧ 3 ≤ id ∧ H[id]? = some ⟨g, false, 1, l.map I64⟩
theorem RowIn.mono {H H' : MHeap} {o : Option (Nat × Nat)} {l : List Int} (h : RowIn H o l) (hk : ∀ id g, o = some (id, g) → id < H.length → H'[id]? = H[id]?) : RowIn H' o l := by
  cases o with
  | none => exact h
  | some p =>
    obtain ⟨id, g⟩ := p
    obtain ⟨h1, h2, h3⟩ := h
    exact ⟨h1, h2, by rw [hk id g rfl (List.getElem?_eq_some_iff.1 h3).1]; exact h3⟩
theorem RowIn.app {H : MHeap} {o : Option (Nat × Nat)} {l : List Int} (h : RowIn H o l) (X : MHeap) : RowIn (H ++ X) o l :=
  h.mono fun id g _ hl => List.getElem?_append_left hl
theorem RowIn.slen {H : MHeap} {o : Option (Nat × Nat)} {l : List Int} (h : RowIn H o l) : (rowO o l.length).slen = some l.length := by
  cases o with
  | none => obtain rfl : l = [] := h; rfl
  | some p => rfl
theorem RowIn.ge {H : MHeap} {o : Option (Nat × Nat)} {l : List Int} (h : RowIn H o l) {id g : Nat} (e : o = some (id, g)) : 3 ≤ id ∧ id < H.length := by
  subst e
  exact ⟨h.2.1, (List.getElem?_eq_some_iff.1 h.2.2).1⟩
theorem frz_row {H : MHeap} {o : Option (Nat × Nat)} {l : List Int} (h : RowIn H o l) : [wkA (rowO o l.length)].mapM (frz 0 [] H 8) = some [.sl (l.map I64)] := by
  cases o with
  | none =>
    obtain rfl : l = [] := h
    simp [rowO, wkA, wk, frz, MV.lt, ltL]
  | some p =>
    obtain ⟨id, g⟩ := p
    obtain ⟨h1, h2, h3⟩ := h
    have := frz_arr (o := ⟨g, false, 1, l.map I64⟩) (k := l.length) (i := 0) h3 rfl (by simp) (ltL_I 0 l) (es := l.map I64) (by rw [List.drop_zero, List.take_of_length_le (by simp)])
    simp [rowO, wkA, wk, this]
theorem frz_strip {H : MHeap} {fo lo : Option (Nat × Nat)} {F L : List Int} (a b c : Int) (hF : RowIn H fo F) (hL : RowIn H lo L) : [wkA (.agg [I64 a, I64 b, I64 c, rowO fo F.length, rowO lo L.length])].mapM (frz 0 [] H 8) = some [encS a b c F L] := by
  have t1 : ∀ l : List Int, (l.map I64).take l.length = l.map I64 := fun l => List.take_of_length_le (by simp)
  cases fo with
  | none =>
    obtain rfl : F = [] := hF
    cases lo with
    | none =>
      obtain rfl : L = [] := hL
      simp [rowO, wkA, wk, frz, MV.lt, ltL]
    | some p =>
      obtain ⟨id, g⟩ := p
      obtain ⟨h1, h2, h3⟩ := hL
      simp [rowO, wkA, wk, frz, MV.lt, ltL, ltL_I, List.mapM_cons, h3, t1]
  | some q =>
    obtain ⟨id, g⟩ := q
    obtain ⟨h1, h2, h3⟩ := hF
    cases lo with
    | none =>
      obtain rfl : L = [] := hL
      simp [rowO, wkA, wk, frz, MV.lt, ltL, ltL_I, List.mapM_cons, h3, t1]
    | some p =>
      obtain ⟨id, g⟩ := p
      obtain ⟨k1, k2, k3⟩ := hL
      simp [rowO, wkA, wk, frz, MV.lt, ltL, ltL_I, List.mapM_cons, h3, k3, t1]
theorem wk_int (a : Int) : wk (I64 a) = I64 a := rfl
/-- A row as the copy reads it. -/
theorem row_wk {H : MHeap} {o : Option (Nat × Nat)} {l : List Int} (h : RowIn H o l) (X : MHeap) : frz 0 [] (H ++ X) 8 (wk (rowO o l.length)) = some (.sl (l.map I64)) := by
  have h1 := frz_row (h.app X)
  have h2 : wkA (rowO o l.length) = wk (rowO o l.length) := by cases o <;> rfl
  rw [h2] at h1
  simp only [List.mapM_cons, List.mapM_nil] at h1
  cases hq : frz 0 [] (H ++ X) 8 (wk (rowO o l.length)) with
  | none => rw [hq] at h1; cases h1
  | some q =>
    rw [hq] at h1
    simpa using h1
theorem CopyStrip_t {H : MHeap} {fo lo : Option (Nat × Nat)} {F L : List Int} (a b c : Int) (hF : RowIn H fo F) (hL : RowIn H lo L) (hf : F.length ≤ 100000) (hl : L.length ≤ 100000) : orT 60 [.agg [I64 a, I64 b, I64 c, rowO fo F.length, rowO lo L.length]] H = some (encS a b c F L, H) := by
  refine orT_cp.trans ?_
  have hm : [MV.agg [I64 a, I64 b, I64 c, rowO fo F.length, rowO lo L.length]].map wkA = [.agg [I64 a, I64 b, I64 c, wk (rowO fo F.length), wk (rowO lo L.length)]] := by
    simp only [List.map_cons, List.map_nil, wkA, wk_int]
  rw [hm]
  have f1 := row_wk hF
  have f2 := row_wk hL
  generalize wk (rowO fo F.length) = p at f1
  generalize wk (rowO lo L.length) = q at f2
  have hz : runZ MT (orA 11) (itA 11) 1000000 60 [.agg [I64 a, I64 b, I64 c, p, q]] H = some (encS a b c F L, H ++ []) := by
    refine runZ_ofH mf_rCopyStrip (by simp) ?_
    simp only [argsL]
    refine ef_seq (ef_box (ht := rfl) rfl rfl rfl (ef_new (ht := rfl) (ef_nil (.normal _ _ (ef_seq ?_)))))
    have k1 : ∀ X, (H ++ [(⟨0, false, 5, [.agg [I64 a, I64 b, I64 c, p, q]]⟩ : MObj)] ++ [(⟨0, false, 5, [.agg [I64 0, I64 0, I64 0, .lit (.slice none 0 0), .lit (.slice none 0 0)]]⟩ : MObj)] ++ X)[H.length]? = some ⟨0, false, 5, [.agg [I64 a, I64 b, I64 c, p, q]]⟩ := fun X => by simp
    have k2 : ∀ X, (H ++ [(⟨0, false, 5, [.agg [I64 a, I64 b, I64 c, p, q]]⟩ : MObj)] ++ [(⟨0, false, 5, [.agg [I64 0, I64 0, I64 0, .lit (.slice none 0 0), .lit (.slice none 0 0)]]⟩ : MObj)] ++ X)[(H ++ [(⟨0, false, 5, [.agg [I64 a, I64 b, I64 c, p, q]]⟩ : MObj)]).length]? = some ⟨0, false, 5, [.agg [I64 0, I64 0, I64 0, .lit (.slice none 0 0), .lit (.slice none 0 0)]]⟩ := fun X => by simp [List.getElem?_append]
    have k3 : ∀ X, frz 0 [] (H ++ [(⟨0, false, 5, [.agg [I64 a, I64 b, I64 c, p, q]]⟩ : MObj)] ++ [(⟨0, false, 5, [.agg [I64 0, I64 0, I64 0, .lit (.slice none 0 0), .lit (.slice none 0 0)]]⟩ : MObj)] ++ X) 8 p = some (.sl (F.map I64)) := fun X => by rw [List.append_assoc, List.append_assoc]; exact f1 _
    have k4 : ∀ X, frz 0 [] (H ++ [(⟨0, false, 5, [.agg [I64 a, I64 b, I64 c, p, q]]⟩ : MObj)] ++ [(⟨0, false, 5, [.agg [I64 0, I64 0, I64 0, .lit (.slice none 0 0), .lit (.slice none 0 0)]]⟩ : MObj)] ++ X) 8 q = some (.sl (L.map I64)) := fun X => by rw [List.append_assoc, List.append_assoc]; exact f2 _
    have k5 : H.length < (H ++ [(⟨0, false, 5, [.agg [I64 a, I64 b, I64 c, p, q]]⟩ : MObj)]).length := by simp
    have k6 : H.length + 2 = (H ++ [(⟨0, false, 5, [.agg [I64 a, I64 b, I64 c, p, q]]⟩ : MObj)] ++ [(⟨0, false, 5, [.agg [I64 0, I64 0, I64 0, .lit (.slice none 0 0), .lit (.slice none 0 0)]]⟩ : MObj)]).length := by simp
    have k7 : (H ++ [(⟨0, false, 5, [.agg [I64 a, I64 b, I64 c, p, q]]⟩ : MObj)]).length = H.length + 1 := by simp
    show Ef _ _ _ _ _ _ _ (H ++ [(⟨0, false, 5, [.agg [I64 a, I64 b, I64 c, p, q]]⟩ : MObj)] ++ [(⟨0, false, 5, [.agg [I64 0, I64 0, I64 0, .lit (.slice none 0 0), .lit (.slice none 0 0)]]⟩ : MObj)]) _
    generalize (H ++ [(⟨0, false, 5, [.agg [I64 a, I64 b, I64 c, p, q]]⟩ : MObj)]).length = n2 at *
    generalize H ++ [(⟨0, false, 5, [.agg [I64 a, I64 b, I64 c, p, q]]⟩ : MObj)] ++ [(⟨0, false, 5, [.agg [I64 0, I64 0, I64 0, .lit (.slice none 0 0), .lit (.slice none 0 0)]]⟩ : MObj)] = K at *
    have k10 := k1 []
    have k30 := k3 []
    rw [List.append_nil] at k10 k30
    have c1 := bCopyInts_c 10 F K (v := p) (by omega) k30
    have c2 := bCopyInts_c 10 L (K ++ [(⟨0, false, 1, F.map I64⟩ : MObj)]) (v := q) (by omega) (k4 _)
    have k11 := k1 [(⟨0, false, 1, F.map I64⟩ : MObj)]
    have k21 := k2 ([(⟨0, false, 1, F.map I64⟩ : MObj)] ++ [(⟨0, false, 1, L.map I64⟩ : MObj)])
    rw [← List.append_assoc] at k21
    refine ef_fap (ht := rfl) rfl (ef_ldp (ht := rfl) rfl k10 rfl rfl rfl ?_)
    refine ef_fap (ht := rfl) rfl (ef_ldp (ht := rfl) rfl k10 rfl rfl rfl ?_)
    refine ef_fap (ht := rfl) rfl (ef_ldp (ht := rfl) rfl k10 rfl rfl rfl ?_)
    refine ef_fap (ht := rfl) rfl (ef_ldp (ht := rfl) rfl k10 rfl rfl rfl ?_)
    refine ef_call (ht := rfl) (XVs.cons rfl XVs.nil) c1 ?_
    refine ef_fap (ht := rfl) rfl (ef_ldp (ht := rfl) rfl k11 rfl rfl rfl ?_)
    refine ef_call (ht := rfl) (XVs.cons rfl XVs.nil) c2 ?_
    refine ef_build (ht := rfl) (XVs.cons rfl (XVs.cons rfl (XVs.cons rfl (XVs.cons rfl (XVs.cons rfl XVs.nil))))) rfl rfl ?_
    refine ef_st rfl rfl rfl k21 rfl (decide_eq_false (by omega)) rfl rfl ?_
    refine ef_nil (.normal _ _ (ef_ret ?_))
    have hlen : n2 < (K ++ [(⟨0, false, 1, F.map I64⟩ : MObj)] ++ [(⟨0, false, 1, L.map I64⟩ : MObj)]).length := (List.getElem?_eq_some_iff.1 k21).1
    refine ⟨rfl, [.agg [I64 a, I64 b, I64 c, .arr K.length 0 F.length 0, .arr (K ++ [(⟨0, false, 1, F.map I64⟩ : MObj)]).length 0 L.length 0]], [encS a b c F L], ⟨_, [], rfl, ⟨n2, 0, 0, 0, _, _, rfl, List.getElem?_set_self hlen, rfl, rfl, rfl⟩, rfl⟩, by simp [impIds], ?_, rfl⟩
    have t1 : ∀ l : List Int, (l.map I64).take l.length = l.map I64 := fun l => List.take_of_length_le (by simp)
    have g1 : ((K ++ [(⟨0, false, 1, F.map I64⟩ : MObj)] ++ [(⟨0, false, 1, L.map I64⟩ : MObj)]).set n2 ⟨0, false, 5, [.agg [I64 a, I64 b, I64 c, .arr K.length 0 F.length 0, .arr (K ++ [(⟨0, false, 1, F.map I64⟩ : MObj)]).length 0 L.length 0]]⟩)[K.length]? = some ⟨0, false, 1, F.map I64⟩ := by
      rw [List.getElem?_set_ne (by omega)]; simp
    have g2 : ((K ++ [(⟨0, false, 1, F.map I64⟩ : MObj)] ++ [(⟨0, false, 1, L.map I64⟩ : MObj)]).set n2 ⟨0, false, 5, [.agg [I64 a, I64 b, I64 c, .arr K.length 0 F.length 0, .arr (K ++ [(⟨0, false, 1, F.map I64⟩ : MObj)]).length 0 L.length 0]]⟩)[(K ++ [(⟨0, false, 1, F.map I64⟩ : MObj)]).length]? = some ⟨0, false, 1, L.map I64⟩ := by
      rw [List.getElem?_set_ne (by simp; omega)]; simp
    have nl1 : ¬ K.length < H.length := by omega
    have nl2 : ¬ (K ++ [(⟨0, false, 1, F.map I64⟩ : MObj)]).length < H.length := by simp; omega
    show expL H.length [] ((K ++ [(⟨0, false, 1, F.map I64⟩ : MObj)] ++ [(⟨0, false, 1, L.map I64⟩ : MObj)]).set n2 ⟨0, false, 5, [.agg [I64 a, I64 b, I64 c, .arr K.length 0 F.length 0, .arr (K ++ [(⟨0, false, 1, F.map I64⟩ : MObj)]).length 0 L.length 0]]⟩) [.agg [I64 a, I64 b, I64 c, .arr K.length 0 F.length 0, .arr (K ++ [(⟨0, false, 1, F.map I64⟩ : MObj)]).length 0 L.length 0]] H.length = some ([encS a b c F L], [])
    generalize (K ++ [(⟨0, false, 1, F.map I64⟩ : MObj)]).length = n4 at *
    generalize ((K ++ [(⟨0, false, 1, F.map I64⟩ : MObj)] ++ [(⟨0, false, 1, L.map I64⟩ : MObj)]).set n2 ⟨0, false, 5, [.agg [I64 a, I64 b, I64 c, .arr K.length 0 F.length 0, .arr n4 0 L.length 0]]⟩) = K2 at *
    generalize K.length = n3 at *
    simp [expL, frz, MV.lt, ltL, List.mapM_cons, g1, g2, nl1, nl2, ltL_I, t1]
  rw [hz, List.append_nil]
theorem InfillOf_t {H : MHeap} {fo lo : Option (Nat × Nat)} {F L : List Int} (a b c : Int) (hF : RowIn H fo F) (hL : RowIn H lo L) (hok : OkS a b c F L) : orT 61 [.agg [I64 a, I64 b, I64 c, rowO fo F.length, rowO lo L.length]] H = some (shV H.length (infillM (infillF ⟨a, b, c, F, L⟩)), H ++ infillN (infillF ⟨a, b, c, F, L⟩)) := by
  refine (orT_wk rfl rfl).trans (callA (k := 11) (args := [wkA (.agg [I64 a, I64 b, I64 c, rowO fo F.length, rowO lo L.length])]) (h := H) (frz_strip a b c hF hL) rfl (InfillOf_z 5 a b c F L hok) ?_ ?_)
  · cases infillF ⟨a, b, c, F, L⟩ <;> simp [infillM, okV, ok1, MV.lt, MV.pure]
  · cases infillF ⟨a, b, c, F, L⟩ <;> simp [infillN, okH, ltL_I, pureL_I, ltL, pureL]
theorem Has_t {H : MHeap} {o : Option (Nat × Nat)} {l : List Int} (n : Int) (h : RowIn H o l) (hl : l.length ≤ 100000) {t : Bool} (ht : l.contains n = t) : orT 71 [rowO o l.length, I64 n] H = some (Bo t, H) := by
  refine (orT_wk rfl rfl).trans (callL (k := 11) (args := [wkA (rowO o l.length), I64 n]) (args' := [.sl (l.map I64), I64 n]) ?_ rfl (by rw [← ht]; exact bHas_z 11 l n hl))
  have := frz_row h
  simp only [List.mapM_cons, List.mapM_nil] at this ⊢
  cases hq : frz 0 [] H 8 (wkA (rowO o l.length)) with
  | none => rw [hq] at this; cases this
  | some q =>
    rw [hq] at this
    simp at this
    subst this
    simp [frz, MV.lt]

theorem awakeT_t (h : MHeap) : orT 87 [] h = some (Bo true, h) := (orT_at rfl rfl).trans (callL (k := 11) (args := []) (args' := []) rfl rfl awakeT_z)

theorem InfillOf_t2 (a b c : Int) (F L : List Int) (hok : OkS a b c F L) (h : MHeap) : orT 61 [encS a b c F L] h = some (shV h.length (infillM (infillF ⟨a, b, c, F, L⟩)), h ++ infillN (infillF ⟨a, b, c, F, L⟩)) := (orT_wk rfl rfl).trans (InfillOf_c 5 a b c F L hok h)
theorem InfillOf_s (a b c : Int) (F L q : List Int) (hok : OkS a b c F L) (hq : infillF ⟨a, b, c, F, L⟩ = some q) (h : MHeap) : orT 61 [encS a b c F L] h = some (.tup [.arr h.length 0 q.length 0, I64 0], h ++ [⟨0, q.isEmpty, 1, q.map I64⟩]) := by
  have h1 := InfillOf_t2 a b c F L hok h
  rw [hq] at h1
  simpa [infillM, infillN, shV, sh1] using h1
theorem CopyInts_t (l : List Int) (h : MHeap) {v : MV} (hl : l.length ≤ 1000000) (hv : frz 0 [] h 8 (wkA v) = some (.sl (l.map I64))) : orT 64 [v] h = some (.arr h.length 0 l.length 0, h ++ [⟨0, false, 1, l.map I64⟩]) := (orT_wk rfl rfl).trans (bCopyInts_c 11 l h hl hv)
theorem PackingOf_t (a b c : Int) (F L p : List Int) (hok : OkS a b c F L) (hp : packF ⟨a, b, c, F, L⟩ = some p) (h : MHeap) : ∃ v P, orT 62 [encS a b c F L] h = some (.tup [v, I64 0], h ++ P) ∧ v.slen = some p.length ∧ frz 0 [] (h ++ P) 8 (wkA v) = some (.sl (p.map I64)) := by
  have h1 := (orT_at (f := 62) rfl rfl).trans (PackingOf_c 5 a b c F L hok h)
  rw [hp] at h1
  cases p with
  | nil => exact ⟨_, _, h1, rfl, rfl⟩
  | cons y ps =>
    refine ⟨_, _, h1, by simp [rowL, sh1, MV.slen], ?_⟩
    refine frz_arr (o := ⟨0, false, 1, (y :: ps).map I64⟩) ?_ rfl (by simp) (ltL_I 0 (y :: ps)) (by rw [List.drop_zero, List.take_of_length_le (by simp)])
    simp [sweepN, rowH]
theorem CheckPacking_t (a b c : Int) (F L p : List Int) (hok : OkS a b c F L) (hn : p.length ≤ 100000) (h : MHeap) {v : MV} (hv : frz 0 [] h 8 v = some (.sl (p.map I64))) (hz : pkE ⟨a, b, c, F, L⟩ p = (0, 0)) : orT 65 [encS a b c F L, v] h = some (.tup [I64 0, I64 0], h) := by
  have h1 := (orT_at (f := 65) rfl rfl).trans (CheckPacking_c 3 a b c F L p hok hn h hv)
  rw [hz] at h1
  exact h1
theorem Has_v {H : MHeap} {l : List Int} {v : MV} (n : Int) (hl : l.length ≤ 100000) (hv : frz 0 [] H 8 (wkA v) = some (.sl (l.map I64))) {t : Bool} (ht : l.contains n = t) : orT 71 [v, I64 n] H = some (Bo t, H) := (orT_wk rfl rfl).trans (bHas_c 11 l n H hl hv ht)
theorem set_end (H : MHeap) (c d : MObj) : (H ++ [c]).set H.length d = H ++ [d] := by simp [List.set_append]
theorem at_end (H : MHeap) (c : MObj) : (H ++ [c])[H.length]? = some c := List.getElem?_concat_length
/-- Something speaks of what a loop laid. -/
theorem hltL_no {m : Nat} {h : MHeap} {j : Nat} {o : MObj} (hj : j < m) (ho : h[j]? = some o) (hl : ltL m o.es = false) : hltL m (h.take m) = false := by
  unfold hltL
  rw [Bool.eq_false_iff]
  intro hc
  have h1 : (h.take m)[j]? = some o := by rw [List.getElem?_take, if_pos hj]; exact ho
  have := List.all_eq_true.1 hc o (List.mem_of_getElem? h1)
  rw [hl] at this
  cases this
def DJ (fo lo : Option (Nat × Nat)) : Prop := ∀ id g id' g', fo = some (id, g) → lo = some (id', g') → id ≠ id'

theorem at_app {H : MHeap} {i : Nat} {o : MObj} (h : H[i]? = some o) (X : MHeap) : (H ++ X)[i]? = some o := by
  rw [List.getElem?_append_left (List.getElem?_eq_some_iff.1 h).1]; exact h
/-- The object of a strip. -/
abbrev agO (tt gap : Int) (a b : MV) : MObj := ⟨0, false, 5, [.agg [I64 0, I64 tt, I64 gap, a, b]]⟩
theorem mid_app (H : MHeap) (o : MObj) (G : MHeap) : (H ++ o :: G)[H.length]? = some o := by simp
theorem splitH {h H : MHeap} {o : MObj} (h1 : ∀ j, j < H.length → h[j]? = H[j]?) (h2 : h[H.length]? = some o) : ∃ G, h = H ++ o :: G := by
  refine ⟨h.drop (H.length + 1), ?_⟩
  have hl := (List.getElem?_eq_some_iff.1 h2).1
  have e1 : h.take H.length = H := by
    apply List.ext_getElem?
    intro j
    rw [List.getElem?_take]
    split
    · rename_i hj; exact h1 j hj
    · rename_i hj; rw [List.getElem?_eq_none (by omega)]
  have e2 : h.drop H.length = o :: h.drop (H.length + 1) := by
    rw [List.drop_eq_getElem_cons hl]
    have := (List.getElem?_eq_some_iff.1 h2).2
    rw [this]
  calc h = h.take H.length ++ h.drop H.length := (List.take_append_drop _ _).symm
    _ = _ := by rw [e1, e2]
theorem cons3 {h : MHeap} {a b c : MObj} (h0 : h[0]? = some a) (h1 : h[1]? = some b) (h2 : h[2]? = some c) : ∃ G, h = a :: b :: c :: G := by
  match h, h0, h1, h2 with
  | x :: y :: z :: G, h0, h1, h2 =>
    simp at h0 h1 h2
    exact ⟨G, by rw [h0, h1, h2]⟩
section
variable {O : Oracle} {I : Iter} {N n : Nat} {A : Sl} {h : MHeap} {Q : MX2 → Sl → MHeap → Prop} {os : List GO}
/-- One more number at the end of a row that a struct holds. -/
theorem ef_grow {t1 t2 t3 p ps off sid : Nat} {xv : Int} {o : Option (Nat × Nat)} {l : List Int} {cells : List MV} (cells' : MV → List MV) (h2 : Nat.blt t2 n = true) (h3 : Nat.blt t3 n = true)
    (hp : look A p = some (rowO o l.length)) (hq : look A t1 = some (.arr h.length 0 1 0)) (hps : ∀ v, look ((t2, v) :: A) ps = some (.ptr sid 0 0 0)) (h23 : ∀ v w : MV, look ((t3, w) :: (t2, v) :: A) t2 = some v)
    (hr : RowIn h o l) (hs : h[sid]? = some ⟨0, false, 5, [.agg cells]⟩) (hh : 3 ≤ h.length) (hod : ∀ id g, o = some (id, g) → id ≠ sid) (hl : l.length ≤ 1000) (hw : ∀ id k g, wrElem (.agg cells) (0 + off) (.arr id 0 k g) = some (.agg (cells' (.arr id 0 k g))))
    (hE : ∀ (h' : MHeap) (id' g' : Nat), RowIn h' (some (id', g')) (l ++ [xv]) → ((∃ g0, o = some (id', g0)) ∨ h.length ≤ id') → h'[sid]? = some ⟨0, false, 5, [.agg (cells' (rowO (some (id', g')) (l ++ [xv]).length))]⟩ →
      (∀ j, j < h.length → j ≠ sid → (∀ id g, o = some (id, g) → j ≠ id) → h'[j]? = h[j]?) → h.length ≤ h'.length →
      Ef O I N n (fun _ => false) (.reg os) ((t3, .ptr sid 0 (0 + off) 0) :: (t2, rowO (some (id', g')) (l ++ [xv]).length) :: A) h' Q) :
    Ef O I N n (fun _ => false) (.reg (⟨none, some t2, .app 1 (.s p) (.s t1)⟩ :: ⟨none, some t3, .fa off (.s ps)⟩ :: ⟨none, none, .st 1 (.s t3) (.s t2)⟩ :: os)) A (h ++ [⟨0, false, 1, [I64 xv]⟩]) Q := by
  have hsl := (List.getElem?_eq_some_iff.1 hs).1
  cases o with
  | none =>
    obtain rfl : l = [] := hr
    refine ef_appn (ht := h2) (v := .arr h.length 0 1 0) (e := I64 xv) (xs := []) hp hq (by simp [MV.elems]) (by simp) rfl ?_
    refine ef_fap (ht := h3) (hps _) ?_
    refine ef_st (o := ⟨0, false, 5, [.agg cells]⟩) (h23 _ _) rfl look_here ?_ rfl rfl rfl (hw _ _ _) ?_
    · rw [List.getElem?_append_left (by simp; omega), List.getElem?_append_left hsl]; exact hs
    · refine hE _ (h ++ [(⟨0, false, 1, [I64 xv]⟩ : MObj)]).length 0 ⟨by simp, by simp; omega, ?_⟩ (.inr (by simp)) ?_ (fun j hj hjs _ => ?_) (by simp)
      · rw [List.getElem?_set_ne (by simp; omega)]
        simp
      · rw [List.getElem?_set_self (by simp; omega)]; rfl
      · rw [List.getElem?_set_ne (by omega), List.getElem?_append_left (by simp; omega), List.getElem?_append_left hj]
  | some q =>
    obtain ⟨id, g⟩ := q
    obtain ⟨r1, r2, r3⟩ := hr
    have hid := (List.getElem?_eq_some_iff.1 r3).1
    have hne := hod id g rfl
    refine ef_app (ht := h2) (v := .arr h.length 0 1 0) (e := I64 xv) (xs := []) (o := ⟨g, false, 1, l.map I64⟩) hp hq (by simp [MV.elems]) (by rw [List.getElem?_append_left hid]; exact r3) rfl (by simp) rfl (by simp; omega) rfl rfl ?_
    refine ef_fap (ht := h3) (hps _) ?_
    refine ef_st (o := ⟨0, false, 5, [.agg cells]⟩) (h23 _ _) rfl look_here ?_ rfl rfl rfl (hw _ _ _) ?_
    · rw [List.getElem?_set_ne hne, List.getElem?_append_left hsl]; exact hs
    · have := hE (((h ++ [(⟨0, false, 1, [I64 xv]⟩ : MObj)]).set id ⟨g + 1, false, 1, (l.map I64).drop 0 ++ [I64 xv]⟩).set sid ⟨0, false, 5, [.agg (cells' (.arr id 0 (l.length + 1) (g + 1)))]⟩) id (g + 1) ⟨by simp, r2, ?_⟩ (.inl ⟨g, rfl⟩) ?_ (fun j hj hjs hjo => ?_) (by simp)
      · simpa [rowO] using this
      · rw [List.getElem?_set_ne (Ne.symm hne), List.getElem?_set_self (by simp; omega)]
        simp
      · rw [List.getElem?_set_self (by simp; omega)]
        simp [rowO]
      · rw [List.getElem?_set_ne (by omega), List.getElem?_set_ne (Ne.symm (hjo id g rfl)), List.getElem?_append_left hj]
end
end Go.Proofs.Ytgjpdjihjphbdaa

/- The law of infills that are flown again: the walk. -/
namespace Go.Proofs.Ytgjpdjihjphbdaa
open Go.RowKit

abbrev encL (l : List Fx) : MV := .sl (l.map encX)
/-- Is a line without a spoilt piece? -/
def bsT (r : Ru) (ls : List (List Fx)) (j : Nat) : Bool := (spoilt r (ls.getD j [])).isEmpty
theorem bsT_at {r : Ru} {ls : List (List Fx)} {j : Nat} (h : j < ls.length) : bsT r ls j = (spoilt r ls[j]).isEmpty := by
  unfold bsT
  rw [List.getD_eq_getElem?_getD, List.getElem?_eq_getElem h]; rfl
theorem mf_TopDrapeInfill : MT.mf 14 = some ⟨286, [(.tmp 6)], (.seq (.reg [⟨none, (some 3), (.box 5 (.s 0))⟩, ⟨none, (some 5), (.box 4 (.s 2))⟩, ⟨none, (some 6), (.mv (.c (.lit (.bool false))))⟩]) (.seq (.seq (.reg [⟨none, (some 27), (.call 87 [])⟩, ⟨none, (some 28), (.un .not (.s 27))⟩]) (.cond (.s 28) (.seq (.reg [⟨none, (some 6), (.mv (.c (.lit (.bool false))))⟩]) .ret) .skip)) (.seq (.seq (.reg [⟨none, (some 29), (.ld (some 5) (.s 3))⟩, ⟨none, (some 30), (.call 81 [(.s 29)])⟩, ⟨none, (some 31), (.bin .neq (.s 30) (.c (.lit (.int .i64 0))))⟩, ⟨none, (some 32), (.mv (.s 31))⟩, ⟨(some (32, false)), (some 33), (.mv (.s 1))⟩, ⟨(some (32, false)), (some 34), (.len (.s 33))⟩, ⟨(some (32, false)), (some 35), (.bin .gtr (.s 34) (.c (.lit (.int .i64 12))))⟩, ⟨none, (some 36), (.pick (.s 32) (.c (.lit (.bool true))) (.s 35))⟩, ⟨none, (some 37), (.mv (.s 36))⟩, ⟨(some (37, false)), (some 38), (.fa 0 (.s 5))⟩, ⟨(some (37, false)), (some 39), (.ld none (.s 38))⟩, ⟨(some (37, false)), (some 40), (.call 22 [(.s 39), (.c (.lit (.int .i64 1))), (.c (.lit (.int .i64 20)))])⟩, ⟨(some (37, false)), (some 41), (.un .not (.s 40))⟩, ⟨none, (some 42), (.pick (.s 37) (.c (.lit (.bool true))) (.s 41))⟩, ⟨none, (some 43), (.mv (.s 42))⟩, ⟨(some (43, false)), (some 44), (.fa 1 (.s 5))⟩, ⟨(some (43, false)), (some 45), (.ld none (.s 44))⟩, ⟨(some (43, false)), (some 46), (.call 22 [(.s 45), (.c (.lit (.int .i64 1))), (.c (.lit (.int .i64 100)))])⟩, ⟨(some (43, false)), (some 47), (.un .not (.s 46))⟩, ⟨none, (some 48), (.pick (.s 43) (.c (.lit (.bool true))) (.s 47))⟩, ⟨none, (some 49), (.mv (.s 48))⟩, ⟨(some (49, false)), (some 50), (.fa 2 (.s 5))⟩, ⟨(some (49, false)), (some 51), (.ld (some 2) (.s 50))⟩, ⟨(some (49, false)), (some 52), (.call 18 [(.s 51)])⟩, ⟨(some (49, false)), (some 53), (.bin .neq (.s 52) (.c (.lit (.int .i64 0))))⟩, ⟨none, (some 54), (.pick (.s 49) (.c (.lit (.bool true))) (.s 53))⟩]) (.cond (.s 54) (.seq (.reg [⟨none, (some 6), (.mv (.c (.lit (.bool true))))⟩]) .ret) .skip)) (.seq (.reg [⟨none, (some 55), (.fa 0 (.s 5))⟩, ⟨none, (some 56), (.ld none (.s 55))⟩, ⟨none, (some 57), (.mv (.s 1))⟩, ⟨none, (some 58), (.len (.s 57))⟩, ⟨none, (some 59), (.bin .add (.s 58) (.c (.lit (.int .i64 1))))⟩, ⟨none, (some 60), (.bin .mul (.s 56) (.s 59))⟩, ⟨none, (some 61), (.fa 1 (.s 5))⟩, ⟨none, (some 62), (.ld none (.s 61))⟩, ⟨none, (some 63), (.build [(.lit (.int .i64 0)), (.lit (.int .i64 0)), (.lit (.int .i64 0)), (.lit (.slice none 0 0)), (.lit (.slice none 0 0))] [(1, (1, (.s 60))), (2, (1, (.s 62)))])⟩, ⟨none, (some 7), (.new (.agg [(.lit (.int .i64 0)), (.lit (.int .i64 0)), (.lit (.int .i64 0)), (.lit (.slice none 0 0)), (.lit (.slice none 0 0))]))⟩, ⟨none, none, (.st 5 (.s 7) (.s 63))⟩]) (.seq (.seq (.reg [⟨none, (some 8), (.mv (.c (.lit (.int .i64 0))))⟩]) (.block 0 (.loop [8, 1, 3, 7, 5] (.seq (.seq (.reg [⟨none, (some 64), (.mv (.s 8))⟩, ⟨none, (some 65), (.mv (.s 1))⟩, ⟨none, (some 66), (.len (.s 65))⟩, ⟨none, (some 67), (.bin .lss (.s 64) (.s 66))⟩]) (.cond (.s 67) .skip (.exit 0))) (.seq (.block 1 (.seq (.seq (.reg [⟨none, (some 70), (.mv (.s 1))⟩, ⟨none, (some 71), (.mv (.s 8))⟩, ⟨none, (some 72), (.ia 1 (.s 70) (.s 71))⟩, ⟨none, (some 73), (.ld none (.s 72))⟩, ⟨none, (some 74), (.len (.s 73))⟩, ⟨none, (some 75), (.bin .gtr (.s 74) (.c (.lit (.int .i64 200))))⟩, ⟨none, (some 76), (.mv (.s 75))⟩, ⟨(some (76, false)), (some 77), (.mv (.s 1))⟩, ⟨(some (76, false)), (some 78), (.mv (.s 8))⟩, ⟨(some (76, false)), (some 79), (.ia 1 (.s 77) (.s 78))⟩, ⟨(some (76, false)), (some 80), (.ld none (.s 79))⟩, ⟨(some (76, false)), (some 81), (.call 83 [(.s 80)])⟩, ⟨(some (76, false)), (some 82), (.bin .neq (.s 81) (.c (.lit (.int .i64 0))))⟩, ⟨none, (some 83), (.pick (.s 76) (.c (.lit (.bool true))) (.s 82))⟩]) (.cond (.s 83) (.seq (.reg [⟨none, (some 6), (.mv (.c (.lit (.bool true))))⟩]) .ret) .skip)) (.seq (.reg [⟨none, (some 85), (.ld (some 5) (.s 3))⟩, ⟨none, (some 86), (.mv (.s 1))⟩, ⟨none, (some 87), (.mv (.s 8))⟩, ⟨none, (some 88), (.ia 1 (.s 86) (.s 87))⟩, ⟨none, (some 89), (.ld none (.s 88))⟩, ⟨none, (some 90), (.call 79 [(.s 89)])⟩, ⟨none, (some 91), (.call 80 [(.s 85), (.s 90)])⟩, ⟨none, (some 84), (.mv (.s 91))⟩, ⟨none, (some 92), (.ext (.s 84) 0)⟩, ⟨none, (some 93), (.ext (.s 84) 1)⟩, ⟨none, (some 9), (.mv (.s 92))⟩, ⟨none, (some 10), (.mv (.s 93))⟩]) (.seq (.seq (.reg [⟨none, (some 94), (.mv (.s 10))⟩, ⟨none, (some 95), (.bin .neq (.s 94) (.c (.lit (.int .i64 0))))⟩, ⟨none, (some 96), (.mv (.s 95))⟩, ⟨(some (96, false)), (some 97), (.mv (.s 9))⟩, ⟨(some (96, false)), (some 98), (.len (.s 97))⟩, ⟨(some (96, false)), (some 99), (.mv (.s 1))⟩, ⟨(some (96, false)), (some 100), (.mv (.s 8))⟩, ⟨(some (96, false)), (some 101), (.ia 1 (.s 99) (.s 100))⟩, ⟨(some (96, false)), (some 102), (.ld none (.s 101))⟩, ⟨(some (96, false)), (some 103), (.len (.s 102))⟩, ⟨(some (96, false)), (some 104), (.bin .gtr (.s 98) (.s 103))⟩, ⟨none, (some 105), (.pick (.s 96) (.c (.lit (.bool true))) (.s 104))⟩]) (.cond (.s 105) (.seq (.reg [⟨none, (some 6), (.mv (.c (.lit (.bool false))))⟩]) .ret) .skip)) (.seq (.seq (.reg [⟨none, (some 106), (.mv (.s 9))⟩, ⟨none, (some 107), (.len (.s 106))⟩, ⟨none, (some 108), (.bin .eql (.s 107) (.c (.lit (.int .i64 0))))⟩]) (.cond (.s 108) (.seq (.reg [⟨none, (some 109), (.fa 3 (.s 7))⟩, ⟨none, (some 110), (.ld none (.s 109))⟩, ⟨none, (some 111), (.fa 0 (.s 5))⟩, ⟨none, (some 112), (.ld none (.s 111))⟩, ⟨none, (some 113), (.mv (.s 8))⟩, ⟨none, (some 114), (.bin .add (.s 113) (.c (.lit (.int .i64 1))))⟩, ⟨none, (some 115), (.bin .mul (.s 112) (.s 114))⟩, ⟨none, (some 116), (.bsl (.lit (.int .i64 0)) 1 1 [(0, (.s 115))])⟩, ⟨none, (some 117), (.app 1 (.s 110) (.s 116))⟩, ⟨none, (some 118), (.fa 3 (.s 7))⟩, ⟨none, none, (.st 1 (.s 118) (.s 117))⟩]) (.exit 1)) .skip)) (.seq (.reg [⟨none, (some 119), (.fa 4 (.s 7))⟩, ⟨none, (some 120), (.ld none (.s 119))⟩, ⟨none, (some 121), (.fa 0 (.s 5))⟩, ⟨none, (some 122), (.ld none (.s 121))⟩, ⟨none, (some 123), (.mv (.s 8))⟩, ⟨none, (some 124), (.bin .add (.s 123) (.c (.lit (.int .i64 1))))⟩, ⟨none, (some 125), (.bin .mul (.s 122) (.s 124))⟩, ⟨none, (some 126), (.bsl (.lit (.int .i64 0)) 1 1 [(0, (.s 125))])⟩, ⟨none, (some 127), (.app 1 (.s 120) (.s 126))⟩, ⟨none, (some 128), (.fa 4 (.s 7))⟩, ⟨none, none, (.st 1 (.s 128) (.s 127))⟩]) (.seq (.seq (.reg [⟨none, (some 129), (.mv (.s 9))⟩, ⟨none, (some 130), (.len (.s 129))⟩, ⟨none, (some 131), (.bin .gtr (.s 130) (.c (.lit (.int .i64 30))))⟩]) (.cond (.s 131) (.exit 1) .skip)) (.seq (.seq (.reg [⟨none, (some 132), (.mv (.s 9))⟩, ⟨none, (some 133), (.call 19 [(.s 132)])⟩, ⟨none, (some 134), (.bin .neq (.s 133) (.c (.lit (.int .i64 0))))⟩]) (.cond (.s 134) (.seq (.reg [⟨none, (some 6), (.mv (.c (.lit (.bool false))))⟩]) .ret) .skip)) (.seq (.reg [⟨none, (some 136), (.fa 2 (.s 5))⟩, ⟨none, (some 137), (.ld (some 2) (.s 136))⟩, ⟨none, (some 138), (.mv (.s 9))⟩, ⟨none, (some 139), (.call 17 [(.s 138)])⟩, ⟨none, (some 140), (.call 16 [(.s 137), (.s 139)])⟩, ⟨none, (some 135), (.mv (.s 140))⟩, ⟨none, (some 141), (.ext (.s 135) 0)⟩, ⟨none, (some 142), (.ext (.s 135) 1)⟩, ⟨none, (some 143), (.ext (.s 135) 2)⟩, ⟨none, (some 11), (.mv (.s 141))⟩, ⟨none, (some 12), (.mv (.s 142))⟩, ⟨none, (some 13), (.mv (.s 143))⟩]) (.seq (.reg [⟨none, (some 14), (.mv (.c (.lit (.int .i64 0))))⟩]) (.seq (.seq (.reg [⟨none, (some 15), (.mv (.c (.lit (.int .i64 0))))⟩]) (.block 2 (.loop [15, 9, 14, 5, 13, 11, 12, 8, 1, 3, 7] (.seq (.seq (.reg [⟨none, (some 144), (.mv (.s 15))⟩, ⟨none, (some 145), (.mv (.s 9))⟩, ⟨none, (some 146), (.len (.s 145))⟩, ⟨none, (some 147), (.bin .lss (.s 144) (.s 146))⟩]) (.cond (.s 147) .skip (.exit 2))) (.seq (.block 3 (.reg [⟨none, (some 150), (.mv (.s 14))⟩, ⟨none, (some 151), (.fa 2 (.s 5))⟩, ⟨none, (some 152), (.ld (some 2) (.s 151))⟩, ⟨none, (some 153), (.mv (.s 9))⟩, ⟨none, (some 154), (.mv (.s 15))⟩, ⟨none, (some 155), (.mv (.s 15))⟩, ⟨none, (some 156), (.bin .add (.s 155) (.c (.lit (.int .i64 1))))⟩, ⟨none, (some 157), (.slc 2 (.s 153) (some (.s 154)) (some (.s 156)))⟩, ⟨none, (some 158), (.call 23 [(.s 152), (.s 157)])⟩, ⟨none, (some 159), (.bin .add (.s 150) (.s 158))⟩, ⟨none, (some 14), (.mv (.s 159))⟩])) (.reg [⟨none, (some 148), (.mv (.s 15))⟩, ⟨none, (some 149), (.bin .add (.s 148) (.c (.lit (.int .i64 1))))⟩, ⟨none, (some 15), (.mv (.s 149))⟩])))))) (.seq (.reg [⟨none, (some 160), (.mv (.s 13))⟩, ⟨none, (some 161), (.bin .neq (.s 160) (.c (.lit (.int .i64 0))))⟩, ⟨none, (some 162), (.mv (.s 161))⟩, ⟨(some (162, false)), (some 163), (.mv (.s 11))⟩, ⟨(some (162, false)), (some 164), (.len (.s 163))⟩, ⟨(some (162, false)), (some 165), (.bin .eql (.s 164) (.c (.lit (.int .i64 0))))⟩, ⟨none, (some 166), (.pick (.s 162) (.c (.lit (.bool true))) (.s 165))⟩, ⟨none, (some 167), (.mv (.s 166))⟩, ⟨(some (167, false)), (some 168), (.mv (.s 12))⟩, ⟨(some (167, false)), (some 169), (.mv (.s 14))⟩, ⟨(some (167, false)), (some 170), (.bin .gtr (.s 168) (.s 169))⟩, ⟨none, (some 171), (.pick (.s 167) (.c (.lit (.bool true))) (.s 170))⟩, ⟨none, (some 172), (.mv (.s 171))⟩, ⟨(some (172, false)), (some 173), (.mv (.s 12))⟩, ⟨(some (172, false)), (some 174), (.fa 2 (.s 5))⟩, ⟨(some (172, false)), (some 175), (.ld (some 2) (.s 174))⟩, ⟨(some (172, false)), (some 176), (.mv (.s 9))⟩, ⟨(some (172, false)), (some 177), (.call 23 [(.s 175), (.s 176)])⟩, ⟨(some (172, false)), (some 178), (.bin .gtr (.s 173) (.s 177))⟩, ⟨none, (some 179), (.pick (.s 172) (.c (.lit (.bool true))) (.s 178))⟩]) (.cond (.s 179) (.seq (.reg [⟨none, (some 6), (.mv (.c (.lit (.bool false))))⟩]) .ret) .skip))))))))))))) (.reg [⟨none, (some 68), (.mv (.s 8))⟩, ⟨none, (some 69), (.bin .add (.s 68) (.c (.lit (.int .i64 1))))⟩, ⟨none, (some 8), (.mv (.s 69))⟩])))))) (.seq (.reg [⟨none, (some 181), (.ld (some 5) (.s 7))⟩, ⟨none, (some 182), (.call 60 [(.s 181)])⟩, ⟨none, (some 183), (.call 61 [(.s 182)])⟩, ⟨none, (some 180), (.mv (.s 183))⟩, ⟨none, (some 184), (.ext (.s 180) 0)⟩, ⟨none, (some 185), (.ext (.s 180) 1)⟩, ⟨none, (some 16), (.mv (.s 184))⟩, ⟨none, (some 17), (.mv (.s 185))⟩]) (.seq (.seq (.reg [⟨none, (some 186), (.mv (.s 17))⟩, ⟨none, (some 187), (.bin .neq (.s 186) (.c (.lit (.int .i64 0))))⟩]) (.cond (.s 187) (.seq (.reg [⟨none, (some 188), (.mv (.s 17))⟩, ⟨none, (some 189), (.bin .eql (.s 188) (.c (.lit (.int .i64 12))))⟩, ⟨none, (some 190), (.mv (.s 189))⟩, ⟨(some (190, true)), (some 191), (.fa 1 (.s 5))⟩, ⟨(some (190, true)), (some 192), (.ld none (.s 191))⟩, ⟨(some (190, true)), (some 193), (.fa 0 (.s 5))⟩, ⟨(some (190, true)), (some 194), (.ld none (.s 193))⟩, ⟨(some (190, true)), (some 195), (.bin .lss (.s 192) (.s 194))⟩, ⟨none, (some 196), (.pick (.s 190) (.s 195) (.c (.lit (.bool false))))⟩, ⟨none, (some 6), (.mv (.s 196))⟩]) .ret) .skip)) (.seq (.reg [⟨none, (some 198), (.ld (some 5) (.s 7))⟩, ⟨none, (some 199), (.call 60 [(.s 198)])⟩, ⟨none, (some 200), (.call 62 [(.s 199)])⟩, ⟨none, (some 197), (.mv (.s 200))⟩, ⟨none, (some 201), (.ext (.s 197) 0)⟩, ⟨none, (some 202), (.ext (.s 197) 1)⟩, ⟨none, (some 18), (.mv (.s 201))⟩, ⟨none, (some 19), (.mv (.s 202))⟩]) (.seq (.reg [⟨none, (some 204), (.ld (some 5) (.s 7))⟩, ⟨none, (some 205), (.call 60 [(.s 204)])⟩, ⟨none, (some 206), (.mv (.s 18))⟩, ⟨none, (some 207), (.call 64 [(.s 206)])⟩, ⟨none, (some 208), (.call 65 [(.s 205), (.s 207)])⟩, ⟨none, (some 203), (.mv (.s 208))⟩, ⟨none, (some 209), (.ext (.s 203) 0)⟩, ⟨none, (some 210), (.ext (.s 203) 1)⟩, ⟨none, (some 20), (.mv (.s 209))⟩, ⟨none, (some 21), (.mv (.s 210))⟩]) (.seq (.seq (.reg [⟨none, (some 211), (.mv (.s 19))⟩, ⟨none, (some 212), (.bin .neq (.s 211) (.c (.lit (.int .i64 0))))⟩, ⟨none, (some 213), (.mv (.s 212))⟩, ⟨(some (213, false)), (some 214), (.mv (.s 21))⟩, ⟨(some (213, false)), (some 215), (.bin .neq (.s 214) (.c (.lit (.int .i64 0))))⟩, ⟨none, (some 216), (.pick (.s 213) (.c (.lit (.bool true))) (.s 215))⟩, ⟨none, (some 217), (.mv (.s 216))⟩, ⟨(some (217, false)), (some 218), (.mv (.s 20))⟩, ⟨(some (217, false)), (some 219), (.bin .neq (.s 218) (.c (.lit (.int .i64 0))))⟩, ⟨none, (some 220), (.pick (.s 217) (.c (.lit (.bool true))) (.s 219))⟩, ⟨none, (some 221), (.mv (.s 220))⟩, ⟨(some (221, false)), (some 222), (.mv (.s 18))⟩, ⟨(some (221, false)), (some 223), (.len (.s 222))⟩, ⟨(some (221, false)), (some 224), (.mv (.s 16))⟩, ⟨(some (221, false)), (some 225), (.len (.s 224))⟩, ⟨(some (221, false)), (some 226), (.bin .neq (.s 223) (.s 225))⟩, ⟨none, (some 227), (.pick (.s 221) (.c (.lit (.bool true))) (.s 226))⟩, ⟨none, (some 228), (.mv (.s 227))⟩, ⟨(some (228, false)), (some 229), (.mv (.s 16))⟩, ⟨(some (228, false)), (some 230), (.len (.s 229))⟩, ⟨(some (228, false)), (some 231), (.fa 4 (.s 7))⟩, ⟨(some (228, false)), (some 232), (.ld none (.s 231))⟩, ⟨(some (228, false)), (some 233), (.len (.s 232))⟩, ⟨(some (228, false)), (some 234), (.bin .gtr (.s 230) (.s 233))⟩, ⟨none, (some 235), (.pick (.s 228) (.c (.lit (.bool true))) (.s 234))⟩]) (.cond (.s 235) (.seq (.reg [⟨none, (some 6), (.mv (.c (.lit (.bool false))))⟩]) .ret) .skip)) (.seq (.reg [⟨none, (some 236), (.fa 0 (.s 7))⟩, ⟨none, (some 237), (.ld none (.s 236))⟩, ⟨none, (some 238), (.fa 1 (.s 7))⟩, ⟨none, (some 239), (.ld none (.s 238))⟩, ⟨none, (some 240), (.fa 2 (.s 7))⟩, ⟨none, (some 241), (.ld none (.s 240))⟩, ⟨none, (some 242), (.build [(.lit (.int .i64 0)), (.lit (.int .i64 0)), (.lit (.int .i64 0)), (.lit (.slice none 0 0)), (.lit (.slice none 0 0))] [(0, (1, (.s 237))), (1, (1, (.s 239))), (2, (1, (.s 241)))])⟩, ⟨none, (some 22), (.new (.agg [(.lit (.int .i64 0)), (.lit (.int .i64 0)), (.lit (.int .i64 0)), (.lit (.slice none 0 0)), (.lit (.slice none 0 0))]))⟩, ⟨none, none, (.st 5 (.s 22) (.s 242))⟩]) (.seq (.seq (.reg [⟨none, (some 23), (.mv (.c (.lit (.int .i64 1))))⟩]) (.block 4 (.loop [23, 1, 5, 7, 16, 22] (.seq (.seq (.reg [⟨none, (some 243), (.mv (.s 23))⟩, ⟨none, (some 244), (.mv (.s 1))⟩, ⟨none, (some 245), (.len (.s 244))⟩, ⟨none, (some 246), (.bin .leq (.s 243) (.s 245))⟩]) (.cond (.s 246) .skip (.exit 4))) (.seq (.block 5 (.seq (.reg [⟨none, (some 249), (.fa 0 (.s 5))⟩, ⟨none, (some 250), (.ld none (.s 249))⟩, ⟨none, (some 251), (.mv (.s 23))⟩, ⟨none, (some 252), (.bin .mul (.s 250) (.s 251))⟩, ⟨none, (some 24), (.mv (.s 252))⟩]) (.seq (.reg [⟨none, (some 253), (.fa 3 (.s 7))⟩, ⟨none, (some 254), (.ld none (.s 253))⟩, ⟨none, (some 255), (.mv (.s 24))⟩, ⟨none, (some 256), (.call 71 [(.s 254), (.s 255)])⟩, ⟨none, (some 257), (.mv (.s 256))⟩, ⟨(some (257, false)), (some 258), (.mv (.s 16))⟩, ⟨(some (257, false)), (some 259), (.mv (.s 24))⟩, ⟨(some (257, false)), (some 260), (.call 71 [(.s 258), (.s 259)])⟩, ⟨none, (some 261), (.pick (.s 257) (.c (.lit (.bool true))) (.s 260))⟩]) (.cond (.s 261) (.reg [⟨none, (some 262), (.fa 3 (.s 22))⟩, ⟨none, (some 263), (.ld none (.s 262))⟩, ⟨none, (some 264), (.mv (.s 24))⟩, ⟨none, (some 265), (.bsl (.lit (.int .i64 0)) 1 1 [(0, (.s 264))])⟩, ⟨none, (some 266), (.app 1 (.s 263) (.s 265))⟩, ⟨none, (some 267), (.fa 3 (.s 22))⟩, ⟨none, none, (.st 1 (.s 267) (.s 266))⟩]) (.reg [⟨none, (some 268), (.fa 4 (.s 22))⟩, ⟨none, (some 269), (.ld none (.s 268))⟩, ⟨none, (some 270), (.mv (.s 24))⟩, ⟨none, (some 271), (.bsl (.lit (.int .i64 0)) 1 1 [(0, (.s 270))])⟩, ⟨none, (some 272), (.app 1 (.s 269) (.s 271))⟩, ⟨none, (some 273), (.fa 4 (.s 22))⟩, ⟨none, none, (.st 1 (.s 273) (.s 272))⟩]))))) (.reg [⟨none, (some 247), (.mv (.s 23))⟩, ⟨none, (some 248), (.bin .add (.s 247) (.c (.lit (.int .i64 1))))⟩, ⟨none, (some 23), (.mv (.s 248))⟩])))))) (.seq (.reg [⟨none, (some 275), (.ld (some 5) (.s 22))⟩, ⟨none, (some 276), (.call 61 [(.s 275)])⟩, ⟨none, (some 274), (.mv (.s 276))⟩, ⟨none, (some 277), (.ext (.s 274) 0)⟩, ⟨none, (some 278), (.ext (.s 274) 1)⟩, ⟨none, (some 25), (.mv (.s 277))⟩, ⟨none, (some 26), (.mv (.s 278))⟩]) (.seq (.reg [⟨none, (some 279), (.mv (.s 26))⟩, ⟨none, (some 280), (.bin .eql (.s 279) (.c (.lit (.int .i64 0))))⟩, ⟨none, (some 281), (.mv (.s 280))⟩, ⟨(some (281, true)), (some 282), (.mv (.s 25))⟩, ⟨(some (281, true)), (some 283), (.len (.s 282))⟩, ⟨(some (281, true)), (some 284), (.bin .eql (.s 283) (.c (.lit (.int .i64 0))))⟩, ⟨none, (some 285), (.pick (.s 281) (.s 284) (.c (.lit (.bool false))))⟩, ⟨none, (some 6), (.mv (.s 285))⟩]) .ret))))))))))))))⟩ := by kernel_rfl
/-- The memory of the law: the strip, and what lies behind it. -/
abbrev tpB (ru : MV) (sp gap fixed lead tt : Int) (a b : MV) (G : MHeap) : MHeap := ⟨0, false, 5, [ru]⟩ :: ⟨0, false, 4, [.agg [I64 sp, I64 gap, I64 fixed, I64 lead]]⟩ :: ⟨0, false, 5, [.agg [I64 0, I64 tt, I64 gap, a, b]]⟩ :: G
set_option maxHeartbeats 8000000 in
theorem TopDrapeInfill_z (r1 r2 r3 r4 r5 : Int) (ls : List (List Fx)) (sp gap fixed lead : Int) (hn : ls.length ≤ 9223372036854775807) (hl : ∀ l ∈ ls, l.length ≤ 9223372036854775807) :
    runZ MT orT (itA 12) 1000000 14 [.agg [I64 r1, I64 r2, I64 r3, I64 r4, I64 r5], .sl (ls.map encL), .agg [I64 sp, I64 gap, I64 fixed, I64 lead]] [] = some (Bo true, []) := by
  have hsl : (MV.sl (ls.map encL)).slen = some ls.length := by simp [MV.slen]
  refine runZ_of mf_TopDrapeInfill (by simp) ?_
  simp only [argsL]
  have hwi : ∀ a b c h t, inB a b c = t → orT 22 [I64 a, I64 b, I64 c] h = some (Bo t, h) := fun a b c h t ht => (orT_at rfl rfl).trans (Within_c 11 a b c h ht)
  obtain ⟨e, he⟩ : ∃ e, rulesE ⟨r1, r2, r3, r4, r5⟩ = e := ⟨_, rfl⟩
  have hru : ∀ h, orT 81 [.agg [I64 r1, I64 r2, I64 r3, I64 r4, I64 r5]] h = some (I64 e, h) := fun h => (orT_at rfl rfl).trans (rRulesErr_c 10 r1 r2 r3 r4 r5 h he)
  by_cases h0 : e = 0
  · by_cases h12 : ls.length ≤ 12
    · cases hsp : inB sp 1 20
      · repeat (first | apply ef_seq | (apply ef_mv; exact rfl; exact rfl) | (apply ef_bin; exact rfl; exact rfl; exact rfl; (exact cmp_f rfl (by simp only [cmpP]; omega))) | (apply ef_gy; exact rfl; (exact (rfl : false = false))) | (apply ef_gn; exact rfl; (exact (rfl : true = true)); exact rfl) | (apply ef_pick; exact rfl; exact rfl; exact rfl) | (apply ef_len; exact rfl; exact rfl; (assumption)) | (apply ef_ldp; exact rfl; exact rfl; exact rfl; exact rfl; (exact rfl); (first | exact rd_5 rfl rfl rfl rfl rfl | exact rfl)) | (apply ef_fap; exact rfl; exact rfl) | (apply ef_notT; exact rfl; exact rfl) | (apply ef_notF; exact rfl; exact rfl) | (apply ef_box; exact rfl; exact rfl; exact rfl; exact rfl) | apply ef_nil | apply seqQ.normal | apply ef_ret | apply seqQ.ret | apply ef_skip | (apply ef_condt; exact rfl; (exact (rfl : true = true))) | (apply ef_condf; exact rfl; (exact (rfl : false = false))) | (apply ef_call; exact rfl; ((repeat (apply XVs.cons; exact rfl)); exact XVs.nil); (with_reducible first | exact awakeT_t _ | exact hru _ | exact hwi _ _ _ _ _ (by assumption))))
        (refine fin1 rfl (by exact rfl) rfl ?_)
        rfl
      · cases hga : inB gap 1 100
        · repeat (first | apply ef_seq | (apply ef_mv; exact rfl; exact rfl) | (apply ef_bin; exact rfl; exact rfl; exact rfl; (exact cmp_f rfl (by simp only [cmpP]; omega))) | (apply ef_gy; exact rfl; (exact (rfl : false = false))) | (apply ef_gn; exact rfl; (exact (rfl : true = true)); exact rfl) | (apply ef_pick; exact rfl; exact rfl; exact rfl) | (apply ef_len; exact rfl; exact rfl; (assumption)) | (apply ef_ldp; exact rfl; exact rfl; exact rfl; exact rfl; (exact rfl); (first | exact rd_5 rfl rfl rfl rfl rfl | exact rfl)) | (apply ef_fap; exact rfl; exact rfl) | (apply ef_notT; exact rfl; exact rfl) | (apply ef_notF; exact rfl; exact rfl) | (apply ef_box; exact rfl; exact rfl; exact rfl; exact rfl) | apply ef_nil | apply seqQ.normal | apply ef_ret | apply seqQ.ret | apply ef_skip | (apply ef_condt; exact rfl; (exact (rfl : true = true))) | (apply ef_condf; exact rfl; (exact (rfl : false = false))) | (apply ef_call; exact rfl; ((repeat (apply XVs.cons; exact rfl)); exact XVs.nil); (with_reducible first | exact awakeT_t _ | exact hru _ | exact hwi _ _ _ _ _ (by assumption))))
          (refine fin1 rfl (by exact rfl) rfl ?_)
          rfl
        · obtain ⟨e2, he2⟩ : ∃ e, unl (inB fixed 0 10000 && inB lead 0 10000) 2 = e := ⟨_, rfl⟩
          have hco : ∀ h, orT 18 [.agg [I64 fixed, I64 lead]] h = some (I64 e2, h) := fun h => (orT_at rfl rfl).trans (rCostErr_c 10 fixed lead h he2)
          by_cases h02 : e2 = 0
          · have b1 := inB_iff.1 hsp
            have b2 := inB_iff.1 hga
            have b3 := mul_top (sp := sp) (n := ls.length) b1.2 h12
            have b4 := mul_pos' (sp := sp) (j := ls.length) b1.1
            repeat (first | apply ef_seq | (apply ef_mv; exact rfl; exact rfl) | (apply ef_bin; exact rfl; exact rfl; exact rfl; (first | exact cmp_f rfl (by simp only [cmpP]; omega) | ((with_reducible refine bin_add (wrap_of ?_ ?_)) <;> omega) | ((with_reducible refine bin_mul (wrap_of ?_ ?_)) <;> omega))) | (apply ef_gy; exact rfl; (exact (rfl : false = false))) | (apply ef_pick; exact rfl; exact rfl; exact rfl) | (apply ef_len; exact rfl; exact rfl; (assumption)) | (apply ef_ldp; exact rfl; exact rfl; exact rfl; exact rfl; (exact rfl); (first | exact rd_2 rfl rfl | exact rd_5 rfl rfl rfl rfl rfl | exact rfl)) | (apply ef_fap; exact rfl; exact rfl) | (apply ef_notT; exact rfl; exact rfl) | (apply ef_box; exact rfl; exact rfl; exact rfl; exact rfl) | (apply ef_new; exact rfl) | (apply ef_build; exact rfl; (repeat (apply XVs.cons; exact rfl)); exact XVs.nil; exact rfl; exact rfl) | (apply ef_st; exact rfl; exact rfl; exact rfl; exact rfl; exact rfl; exact rfl; (exact rfl); exact rfl) | apply ef_nil | apply seqQ.normal | apply ef_block | apply ef_skip | (apply ef_condf; exact rfl; (exact (rfl : false = false))) | (apply ef_call; exact rfl; ((repeat (apply XVs.cons; exact rfl)); exact XVs.nil); (with_reducible first | exact awakeT_t _ | exact hru _ | exact hwi _ _ _ _ _ (by assumption) | exact hco _)))
            have b5 : ls.length ≤ 12 := h12
            obtain ⟨q1, q2⟩ : inB fixed 0 10000 = true ∧ inB lead 0 10000 = true := by
              rw [h02] at he2
              cases h1 : inB fixed 0 10000 <;> cases h2 : inB lead 0 10000 <;> simp [h1, h2, unl] at he2 ⊢
            replace q1 := inB_iff.1 q1
            replace q2 := inB_iff.1 q2
            refine ef_loopg (α := Nat × Option (Nat × Nat) × Option (Nat × Nat) × MHeap)
              (fun s => s.1 ≤ ls.length ∧ RowIn (tpB (.agg [I64 r1, I64 r2, I64 r3, I64 r4, I64 r5]) sp gap fixed lead (sp * ((ls.length : Int) + 1)) (rowO s.2.1 (lnF sp (bsT ⟨r1, r2, r3, r4, r5⟩ ls) s.1).length) (rowO s.2.2.1 (lnF sp (fun j => !bsT ⟨r1, r2, r3, r4, r5⟩ ls j) s.1).length) s.2.2.2) s.2.1 (lnF sp (bsT ⟨r1, r2, r3, r4, r5⟩ ls) s.1) ∧ RowIn (tpB (.agg [I64 r1, I64 r2, I64 r3, I64 r4, I64 r5]) sp gap fixed lead (sp * ((ls.length : Int) + 1)) (rowO s.2.1 (lnF sp (bsT ⟨r1, r2, r3, r4, r5⟩ ls) s.1).length) (rowO s.2.2.1 (lnF sp (fun j => !bsT ⟨r1, r2, r3, r4, r5⟩ ls j) s.1).length) s.2.2.2) s.2.2.1 (lnF sp (fun j => !bsT ⟨r1, r2, r3, r4, r5⟩ ls j) s.1) ∧ DJ s.2.1 s.2.2.1)
              (fun s => [(8, I64 (s.1 : Int))]) [(1, .sl (ls.map encL)), (3, .ptr 0 0 0 0), (7, .ptr 2 0 0 0), (5, .ptr 1 0 0 0)]
              (fun s => tpB (.agg [I64 r1, I64 r2, I64 r3, I64 r4, I64 r5]) sp gap fixed lead (sp * ((ls.length : Int) + 1)) (rowO s.2.1 (lnF sp (bsT ⟨r1, r2, r3, r4, r5⟩ ls) s.1).length) (rowO s.2.2.1 (lnF sp (fun j => !bsT ⟨r1, r2, r3, r4, r5⟩ ls j) s.1).length) s.2.2.2)
              (fun s => ls.length - s.1) (0, none, none, []) [8] (fun _ => rfl) (by ((repeat (refine Hold.cons (by exact rfl) ?_)); exact Hold.nil)) (by ((repeat (refine Hold.cons (by exact rfl) ?_)); exact Hold.nil)) rfl rfl rfl ⟨by simp, rfl, rfl, fun _ _ _ _ h => by cases h⟩ (by simp; omega) ?_
            rintro ⟨i, fo, lo, G⟩ ⟨hi, hF, hL, hD⟩
            simp only at hi hF hL hD ⊢
            by_cases hlt : i < ls.length
            · have e1 := at_map encL ls i hlt
              have hll := hl ls[i] (List.getElem_mem hlt)
              have HB := Lib.hid (bsT_at (r := ⟨r1, r2, r3, r4, r5⟩) hlt)
              have E1 := lnF_succ sp (bsT ⟨r1, r2, r3, r4, r5⟩ ls) i
              have E2 := lnF_succ sp (fun j => !bsT ⟨r1, r2, r3, r4, r5⟩ ls j) i
              have n1 := lnF_len sp (bsT ⟨r1, r2, r3, r4, r5⟩ ls) i
              have n2 := lnF_len sp (fun j => !bsT ⟨r1, r2, r3, r4, r5⟩ ls j) i
              generalize ls[i] = l at e1 hll HB
              have hsl2 : (encL l).slen = some l.length := by simp [MV.slen]
              by_cases h200 : l.length ≤ 200
              · obtain ⟨e3, he3⟩ : ∃ e, fixesE l = e := ⟨_, rfl⟩
                have hfe : ∀ h, orT 83 [encL l] h = some (I64 e3, h) := fun h => (orT_at rfl rfl).trans (rFixesErr_c 10 l h (v := encL l) (by omega) (frz_sl (ltL_X 0 l)) he3)
                by_cases h03 : e3 = 0
                · have hfix : fixE ⟨r1, r2, r3, r4, r5⟩ l = 0 := by simp [fixE, firstE, he, he3, h0, h03]
                  have hcf : ∀ h, orT 79 [encL l] h = some (.arr h.length 0 l.length 0, h ++ [⟨0, false, 3, l.map encX⟩]) := fun h => (orT_at rfl rfl).trans (rCopyFixes_c 11 l h (v := encL l) (by omega) (frz_sl (ltL_X 0 l)))
                  have hspo := fun h v (hv : frz 0 [] h 8 v = some (encL l)) => (orT_at (f := 80) rfl rfl).trans (SpoiltIn_gc 4 r1 r2 r3 r4 r5 l h (by omega) hfix hv)
                  have hxl := spoilt_len ⟨r1, r2, r3, r4, r5⟩ l
                  have hpc := spoilt_pc (r := ⟨r1, r2, r3, r4, r5⟩) h200
                  generalize spoilt ⟨r1, r2, r3, r4, r5⟩ l = xs at hspo hxl hpc HB
                  have m1 := mul_step (sp := sp) (n := ls.length) (by omega) hlt
                  have m2 := mul_pos' (sp := sp) (j := i) b1.1
                  repeat (first | apply ef_seq | (apply ef_mv; exact rfl; exact rfl) | (apply ef_bin; exact rfl; exact rfl; exact rfl; (first | exact cmp_t rfl (by first | exact rfl | (simp only [cmpP]; omega)) | exact cmp_f rfl (by simp only [cmpP]; omega))) | (apply ef_gy; exact rfl; (exact (rfl : false = false))) | (apply ef_pick; exact rfl; exact rfl; exact rfl) | (apply ef_len; exact rfl; exact rfl; (assumption)) | (apply ef_ldr; exact rfl; exact rfl; (exact rfl)) | (apply ef_ldp; exact rfl; exact rfl; exact rfl; exact rfl; (exact rfl); (exact rd_5 rfl rfl rfl rfl rfl)) | (apply ef_ias; exact rfl; exact rfl; exact rfl; (omega); assumption; exact rfl) | apply ef_nil | apply seqQ.normal | apply ef_block | apply ef_skip | (apply ef_condt; exact rfl; (exact (rfl : true = true))) | (apply ef_condf; exact rfl; (exact (rfl : false = false))) | (apply ef_call; exact rfl; ((repeat (apply XVs.cons; exact rfl)); exact XVs.nil); (with_reducible first | exact hfe _ | exact hcf _)))
                  (apply ef_call; (· exact rfl); (· ((repeat (apply XVs.cons; exact rfl)); exact XVs.nil)); · exact hspo _ _ (fz_arr (at_end _ _) rfl (by simp) (ltL_X 0 l) rfl).now)
                  rcases Nat.eq_zero_or_pos xs.length with hz | hz
                  · obtain rfl : xs = [] := List.eq_nil_of_length_eq_zero hz
                    have HB1 := Lib.hid (show bsT ⟨r1, r2, r3, r4, r5⟩ ls i = true by rw [HB.out]; rfl)
                    repeat (first | apply ef_seq | (apply ef_mv; exact rfl; exact rfl) | (apply ef_bin; exact rfl; exact rfl; exact rfl; (first | exact cmp_t rfl (by first | exact rfl | (simp only [cmpP]; omega)) | exact cmp_f rfl (by simp only [cmpP]; omega) | ((with_reducible refine bin_add (wrap_of ?_ ?_)) <;> omega) | ((with_reducible refine bin_mul (wrap_of ?_ ?_)) <;> omega))) | (apply ef_gy; exact rfl; (exact (rfl : false = false))) | (apply ef_pick; exact rfl; exact rfl; exact rfl) | (apply ef_len; exact rfl; exact rfl; (first | assumption | exact rfl)) | (apply ef_ldr; exact rfl; exact rfl; (exact rfl)) | (apply ef_ldp; exact rfl; exact rfl; exact rfl; exact rfl; (exact rfl); (exact rfl)) | (apply ef_ias; exact rfl; exact rfl; exact rfl; (omega); assumption; exact rfl) | (apply ef_fap; exact rfl; exact rfl) | (apply ef_ext; exact rfl; exact rfl; exact rfl) | (apply ef_bsl; exact rfl; (repeat (apply XVs.cons; exact rfl)); exact XVs.nil; exact rfl) | apply ef_nil | apply seqQ.normal | apply ef_skip | (apply ef_condt; exact rfl; (exact (rfl : true = true))) | (apply ef_condf; exact rfl; (exact (rfl : false = false))))
                    refine ef_grow (xv := (sp * ((i : Int) + 1))) (fun v => [I64 0, I64 (sp * ((ls.length : Int) + 1)), I64 gap, v, rowO lo (lnF sp (fun j => !bsT ⟨r1, r2, r3, r4, r5⟩ ls j) i).length]) rfl rfl rfl rfl (fun _ => rfl) (fun _ _ => rfl) ((hF.app _).app _) rfl (by simp) (fun id g e => by have := (hF.ge e).1; omega) (by omega) (fun _ _ _ => rfl) ?_
                    intro h' id' g' hR hnew hS hrest hlen
                    have k0 : h'[0]? = some ⟨0, false, 5, [(.agg [I64 r1, I64 r2, I64 r3, I64 r4, I64 r5])]⟩ := (hrest 0 (by simp) (by decide) (fun id g e => by have := (hF.ge e).1; omega)).trans rfl
                    have k1 : h'[1]? = some ⟨0, false, 4, [.agg [I64 sp, I64 gap, I64 fixed, I64 lead]]⟩ := (hrest 1 (by simp) (by decide) (fun id g e => by have := (hF.ge e).1; omega)).trans rfl
                    have k2 : h'[2]? = some ⟨0, false, 5, [.agg [I64 0, I64 (sp * ((ls.length : Int) + 1)), I64 gap, rowO (some (id', g')) ((lnF sp (bsT ⟨r1, r2, r3, r4, r5⟩ ls) i) ++ [(sp * ((i : Int) + 1))]).length, rowO lo (lnF sp (fun j => !bsT ⟨r1, r2, r3, r4, r5⟩ ls j) i).length]]⟩ := hS
                    have hO : RowIn h' lo (lnF sp (fun j => !bsT ⟨r1, r2, r3, r4, r5⟩ ls j) i) := hL.mono fun id g e hid => by
                      rw [hrest id (by simp at hid ⊢; omega) (by have := (hL.ge e).1; omega) (fun id2 g2 e2 => (hD id2 g2 id g e2 e).symm)]
                      rw [List.getElem?_append_left (by simp at hid ⊢; omega), List.getElem?_append_left hid]
                    have hDJ : ∀ id2 g2, lo = some (id2, g2) → id' ≠ id2 := fun id2 g2 e2 => by
                      rcases hnew with ⟨g0, e0⟩ | hge
                      · exact hD id' g0 id2 g2 e0 e2
                      · have := (hL.ge e2).2
                        simp at this hge
                        omega
                    have hid3 := hR.2.1
                    have F1 : lnF sp (bsT ⟨r1, r2, r3, r4, r5⟩ ls) (i + 1) = (lnF sp (bsT ⟨r1, r2, r3, r4, r5⟩ ls) i) ++ [(sp * ((i : Int) + 1))] := by rw [E1, HB1.out]; rfl
                    have F2 : lnF sp (fun j => !bsT ⟨r1, r2, r3, r4, r5⟩ ls j) (i + 1) = (lnF sp (fun j => !bsT ⟨r1, r2, r3, r4, r5⟩ ls j) i) := by rw [E2]; simp [HB1.out]
                    obtain ⟨G', rfl⟩ := cons3 k0 k1 k2
                    repeat (first | (apply ef_mv; exact rfl; exact rfl) | (apply ef_bin; exact rfl; exact rfl; exact rfl; (((with_reducible refine bin_add (wrap_of ?_ ?_)) <;> omega))) | apply ef_nil | apply seqQ.normal | apply ef_exit | apply seqQ.exit | apply blockQ.here)
                    refine loopQ.normal _ _ ⟨(i + 1, some (id', g'), lo, G'), ⟨hlt, ?_, ?_, fun id g id2 g2 e e2 => by cases e; exact hDJ id2 g2 e2⟩, (by simp only; omega), ⟨by ((repeat (refine Hold.cons (by exact rfl) ?_)); exact Hold.nil), by ((repeat (refine Hold.cons (by exact rfl) ?_)); exact Hold.nil)⟩, ?_⟩
                    · simp only [F1, F2]; exact hR
                    · simp only [F1, F2]; exact hO
                    · simp only [F1, F2]
                      exact HeadIs.cell (hltL_no (m := 3) (j := 2) (o := ⟨0, false, 5, [.agg [I64 0, I64 (sp * ((ls.length : Int) + 1)), I64 gap, rowO (some (id', g')) ((lnF sp (bsT ⟨r1, r2, r3, r4, r5⟩ ls) i) ++ [(sp * ((i : Int) + 1))]).length, rowO lo (lnF sp (fun j => !bsT ⟨r1, r2, r3, r4, r5⟩ ls j) i).length]]⟩) (by decide) rfl (by simp [ltL, MV.lt, rowO]; omega))
                  · have HB1 := Lib.hid (show bsT ⟨r1, r2, r3, r4, r5⟩ ls i = false by rw [HB.out]; cases xs with | nil => cases hz | cons => rfl)
                    repeat (first | apply ef_seq | (apply ef_mv; exact rfl; exact rfl) | (apply ef_bin; exact rfl; exact rfl; exact rfl; (first | exact cmp_f rfl (by simp only [cmpP]; omega) | ((with_reducible refine bin_add (wrap_of ?_ ?_)) <;> omega) | ((with_reducible refine bin_mul (wrap_of ?_ ?_)) <;> omega))) | (apply ef_gy; exact rfl; (exact (rfl : false = false))) | (apply ef_pick; exact rfl; exact rfl; exact rfl) | (apply ef_len; exact rfl; exact rfl; (first | assumption | exact rfl)) | (apply ef_ldr; exact rfl; exact rfl; (exact rfl)) | (apply ef_ldp; exact rfl; exact rfl; exact rfl; exact rfl; (exact rfl); (exact rfl)) | (apply ef_ias; exact rfl; exact rfl; exact rfl; (omega); assumption; exact rfl) | (apply ef_fap; exact rfl; exact rfl) | (apply ef_ext; exact rfl; exact rfl; exact rfl) | (apply ef_bsl; exact rfl; (repeat (apply XVs.cons; exact rfl)); exact XVs.nil; exact rfl) | apply ef_nil | apply seqQ.normal | apply ef_skip | (apply ef_condf; exact rfl; (exact (rfl : false = false))))
                    refine ef_grow (xv := (sp * ((i : Int) + 1))) (fun v => [I64 0, I64 (sp * ((ls.length : Int) + 1)), I64 gap, rowO fo (lnF sp (bsT ⟨r1, r2, r3, r4, r5⟩ ls) i).length, v]) rfl rfl rfl rfl (fun _ => rfl) (fun _ _ => rfl) ((hL.app _).app _) rfl (by simp) (fun id g e => by have := (hL.ge e).1; omega) (by omega) (fun _ _ _ => rfl) ?_
                    intro h' id' g' hR hnew hS hrest hlen
                    have k0 : h'[0]? = some ⟨0, false, 5, [(.agg [I64 r1, I64 r2, I64 r3, I64 r4, I64 r5])]⟩ := (hrest 0 (by simp) (by decide) (fun id g e => by have := (hL.ge e).1; omega)).trans rfl
                    have k1 : h'[1]? = some ⟨0, false, 4, [.agg [I64 sp, I64 gap, I64 fixed, I64 lead]]⟩ := (hrest 1 (by simp) (by decide) (fun id g e => by have := (hL.ge e).1; omega)).trans rfl
                    have k2 : h'[2]? = some ⟨0, false, 5, [.agg [I64 0, I64 (sp * ((ls.length : Int) + 1)), I64 gap, rowO fo (lnF sp (bsT ⟨r1, r2, r3, r4, r5⟩ ls) i).length, rowO (some (id', g')) ((lnF sp (fun j => !bsT ⟨r1, r2, r3, r4, r5⟩ ls j) i) ++ [(sp * ((i : Int) + 1))]).length]]⟩ := hS
                    have hO : RowIn h' fo (lnF sp (bsT ⟨r1, r2, r3, r4, r5⟩ ls) i) := hF.mono fun id g e hid => by
                      rw [hrest id (by simp at hid ⊢; omega) (by have := (hF.ge e).1; omega) (fun id2 g2 e2 => hD id g id2 g2 e e2)]
                      rw [List.getElem?_append_left (by simp at hid ⊢; omega), List.getElem?_append_left hid]
                    have hDJ : ∀ id2 g2, fo = some (id2, g2) → id' ≠ id2 := fun id2 g2 e2 => by
                      rcases hnew with ⟨g0, e0⟩ | hge
                      · exact (hD id2 g2 id' g0 e2 e0).symm
                      · have := (hF.ge e2).2
                        simp at this hge
                        omega
                    have hid3 := hR.2.1
                    have F1 : lnF sp (bsT ⟨r1, r2, r3, r4, r5⟩ ls) (i + 1) = (lnF sp (bsT ⟨r1, r2, r3, r4, r5⟩ ls) i) := by rw [E1, HB1.out]; simp
                    have F2 : lnF sp (fun j => !bsT ⟨r1, r2, r3, r4, r5⟩ ls j) (i + 1) = (lnF sp (fun j => !bsT ⟨r1, r2, r3, r4, r5⟩ ls j) i) ++ [(sp * ((i : Int) + 1))] := by rw [E2]; simp [HB1.out]
                    have hob := (hrest _ (by simp) (by simp) (fun id g e => by have := (hL.ge e).2; simp at this ⊢; omega)).trans (at_end (tpB (.agg [I64 r1, I64 r2, I64 r3, I64 r4, I64 r5]) sp gap fixed lead (sp * ((ls.length : Int) + 1)) (rowO fo (lnF sp (bsT ⟨r1, r2, r3, r4, r5⟩ ls) i).length) (rowO lo (lnF sp (fun j => !bsT ⟨r1, r2, r3, r4, r5⟩ ls j) i).length) G ++ [⟨0, false, 3, l.map encX⟩]) ⟨0, nlN xs.length, 2, xs.map encR⟩)
                    obtain ⟨G', rfl⟩ := cons3 k0 k1 k2
                    by_cases h30 : xs.length ≤ 30
                    · have hpa : piecesAll xs = 0 := by unfold piecesAll; rw [if_neg (by omega)]; exact hpc
                      have hge : groupsErr fixed lead xs = 0 := by
                        have p1 := inB_iff.2 q1
                        have p2 := inB_iff.2 q2
                        unfold groupsErr
                        rw [p1, p2, hpa]; rfl
                      have hpe : ∀ h v, frz 0 [] h 8 v = some (.sl (xs.map encR)) → orT 19 [v] h = some (I64 0, h) := fun h v hv => (orT_at rfl rfl).trans (rPiecesErr_c 10 xs h (by omega) hv hpa)
                      have hcr : ∀ h v, frz 0 [] h 8 v = some (.sl (xs.map encR)) → orT 17 [v] h = some (.arr h.length 0 xs.length 0, h ++ [⟨0, false, 2, xs.map encR⟩]) := fun h v hv => (orT_at rfl rfl).trans (rCopyRanges_c 11 xs h (by omega) hv)
                      obtain ⟨pid, hpid⟩ : ∃ p, p = (tpB (.agg [I64 r1, I64 r2, I64 r3, I64 r4, I64 r5]) sp gap fixed lead (sp * ((ls.length : Int) + 1)) (rowO fo (lnF sp (bsT ⟨r1, r2, r3, r4, r5⟩ ls) i).length) (rowO lo (lnF sp (fun j => !bsT ⟨r1, r2, r3, r4, r5⟩ ls j) i).length) G ++ [(⟨0, false, 3, l.map encX⟩ : MObj)]).length := ⟨_, rfl⟩
                      rw [← hpid] at hob
                      have hfz : frz 0 [] (tpB (.agg [I64 r1, I64 r2, I64 r3, I64 r4, I64 r5]) sp gap fixed lead (sp * ((ls.length : Int) + 1)) (rowO fo (lnF sp (bsT ⟨r1, r2, r3, r4, r5⟩ ls) i).length) (rowO (some (id', g')) ((lnF sp (fun j => !bsT ⟨r1, r2, r3, r4, r5⟩ ls j) i) ++ [(sp * ((i : Int) + 1))]).length) G') 8 (.arr pid 0 xs.length 0) = some (.sl (xs.map encR)) := frz_arr hob rfl (by simp) (ltL_R 0 xs) (by rw [List.drop_zero, List.take_of_length_le (by simp)])
                      obtain ⟨u, H, hg1, hu⟩ := GroupsOf_gc 11 fixed lead xs (tpB (.agg [I64 r1, I64 r2, I64 r3, I64 r4, I64 r5]) sp gap fixed lead (sp * ((ls.length : Int) + 1)) (rowO fo (lnF sp (bsT ⟨r1, r2, r3, r4, r5⟩ ls) i).length) (rowO (some (id', g')) ((lnF sp (fun j => !bsT ⟨r1, r2, r3, r4, r5⟩ ls j) i) ++ [(sp * ((i : Int) + 1))]).length) G' ++ [⟨0, false, 2, xs.map encR⟩]) (v := .arr (tpB (.agg [I64 r1, I64 r2, I64 r3, I64 r4, I64 r5]) sp gap fixed lead (sp * ((ls.length : Int) + 1)) (rowO fo (lnF sp (bsT ⟨r1, r2, r3, r4, r5⟩ ls) i).length) (rowO (some (id', g')) ((lnF sp (fun j => !bsT ⟨r1, r2, r3, r4, r5⟩ ls j) i) ++ [(sp * ((i : Int) + 1))]).length) G').length 0 xs.length 0) hge (fz_arr (at_end _ _) rfl (by simp) (ltL_R 0 xs) rfl).now
                      have hul := hu.1
                      rw [List.length_map] at hul
                      have hzp := gSizes_pos (fixed := fixed) (lead := lead) hz
                      have hob2 : ((tpB (.agg [I64 r1, I64 r2, I64 r3, I64 r4, I64 r5]) sp gap fixed lead (sp * ((ls.length : Int) + 1)) (rowO fo (lnF sp (bsT ⟨r1, r2, r3, r4, r5⟩ ls) i).length) (rowO (some (id', g')) ((lnF sp (fun j => !bsT ⟨r1, r2, r3, r4, r5⟩ ls j) i) ++ [(sp * ((i : Int) + 1))]).length) G' ++ [⟨0, false, 2, xs.map encR⟩]) ++ H)[pid]? = some ⟨0, nlN xs.length, 2, xs.map encR⟩ := by
                        rw [List.append_assoc, List.getElem?_append_left (List.getElem?_eq_some_iff.1 hob).1]; exact hob
                      have hsub : ∀ a m, a + m ≤ xs.length → frz 0 [] ((tpB (.agg [I64 r1, I64 r2, I64 r3, I64 r4, I64 r5]) sp gap fixed lead (sp * ((ls.length : Int) + 1)) (rowO fo (lnF sp (bsT ⟨r1, r2, r3, r4, r5⟩ ls) i).length) (rowO (some (id', g')) ((lnF sp (fun j => !bsT ⟨r1, r2, r3, r4, r5⟩ ls j) i) ++ [(sp * ((i : Int) + 1))]).length) G' ++ [⟨0, false, 2, xs.map encR⟩]) ++ H) 8 (.arr pid a m 0) = some (.sl (((xs.drop a).take m).map encR)) := fun a m ha => frz_arr hob2 rfl (by simp; omega) (ltL_R 0 xs) (by rw [List.map_take, List.map_drop])
                      have hcost : ∀ a m, a + (m + 1) ≤ xs.length → orT 23 [.agg [I64 fixed, I64 lead], .arr pid a (m + 1) 0] ((tpB (.agg [I64 r1, I64 r2, I64 r3, I64 r4, I64 r5]) sp gap fixed lead (sp * ((ls.length : Int) + 1)) (rowO fo (lnF sp (bsT ⟨r1, r2, r3, r4, r5⟩ ls) i).length) (rowO (some (id', g')) ((lnF sp (fun j => !bsT ⟨r1, r2, r3, r4, r5⟩ ls j) i) ++ [(sp * ((i : Int) + 1))]).length) G' ++ [⟨0, false, 2, xs.map encR⟩]) ++ H) = some (I64 (grpCost fixed lead ((xs.drop a).take (m + 1))), (tpB (.agg [I64 r1, I64 r2, I64 r3, I64 r4, I64 r5]) sp gap fixed lead (sp * ((ls.length : Int) + 1)) (rowO fo (lnF sp (bsT ⟨r1, r2, r3, r4, r5⟩ ls) i).length) (rowO (some (id', g')) ((lnF sp (fun j => !bsT ⟨r1, r2, r3, r4, r5⟩ ls j) i) ++ [(sp * ((i : Int) + 1))]).length) G' ++ [⟨0, false, 2, xs.map encR⟩]) ++ H) := fun a m ha =>
                        (orT_at rfl rfl).trans (rCost_c 11 fixed lead ((xs.drop a).take (m + 1)) _ q1 q2 (fun p hp => piecesE_range xs (-2) hpc p (List.mem_of_mem_drop (List.mem_of_mem_take hp))) (by rw [List.length_take, List.length_drop]; omega) (by rw [List.length_take]; omega) (hsub a (m + 1) ha))
                      have hc1 : ∀ k, k < xs.length → orT 23 [.agg [I64 fixed, I64 lead], .arr pid (0 + ((k : Nat) : Int).toNat) (((k : Int) + 1) - (k : Int)).toNat 0] ((tpB (.agg [I64 r1, I64 r2, I64 r3, I64 r4, I64 r5]) sp gap fixed lead (sp * ((ls.length : Int) + 1)) (rowO fo (lnF sp (bsT ⟨r1, r2, r3, r4, r5⟩ ls) i).length) (rowO (some (id', g')) ((lnF sp (fun j => !bsT ⟨r1, r2, r3, r4, r5⟩ ls j) i) ++ [(sp * ((i : Int) + 1))]).length) G' ++ [⟨0, false, 2, xs.map encR⟩]) ++ H) = some (I64 (grpCost fixed lead ((xs.drop k).take (0 + 1))), (tpB (.agg [I64 r1, I64 r2, I64 r3, I64 r4, I64 r5]) sp gap fixed lead (sp * ((ls.length : Int) + 1)) (rowO fo (lnF sp (bsT ⟨r1, r2, r3, r4, r5⟩ ls) i).length) (rowO (some (id', g')) ((lnF sp (fun j => !bsT ⟨r1, r2, r3, r4, r5⟩ ls j) i) ++ [(sp * ((i : Int) + 1))]).length) G' ++ [⟨0, false, 2, xs.map encR⟩]) ++ H) := fun k hk => by
                        rw [show 0 + ((k : Nat) : Int).toNat = k by omega, show (((k : Int) + 1) - (k : Int)).toNat = 0 + 1 by omega]
                        exact hcost k 0 (by omega)
                      have hcw : orT 23 [.agg [I64 fixed, I64 lead], .arr pid 0 xs.length 0] ((tpB (.agg [I64 r1, I64 r2, I64 r3, I64 r4, I64 r5]) sp gap fixed lead (sp * ((ls.length : Int) + 1)) (rowO fo (lnF sp (bsT ⟨r1, r2, r3, r4, r5⟩ ls) i).length) (rowO (some (id', g')) ((lnF sp (fun j => !bsT ⟨r1, r2, r3, r4, r5⟩ ls j) i) ++ [(sp * ((i : Int) + 1))]).length) G' ++ [⟨0, false, 2, xs.map encR⟩]) ++ H) = some (I64 (grpCost fixed lead xs), (tpB (.agg [I64 r1, I64 r2, I64 r3, I64 r4, I64 r5]) sp gap fixed lead (sp * ((ls.length : Int) + 1)) (rowO fo (lnF sp (bsT ⟨r1, r2, r3, r4, r5⟩ ls) i).length) (rowO (some (id', g')) ((lnF sp (fun j => !bsT ⟨r1, r2, r3, r4, r5⟩ ls j) i) ++ [(sp * ((i : Int) + 1))]).length) G' ++ [⟨0, false, 2, xs.map encR⟩]) ++ H) := by
                        have := hcost 0 (xs.length - 1) (by omega)
                        rw [show xs.length - 1 + 1 = xs.length by omega, List.drop_zero, List.take_length] at this
                        exact this
                      have hbest := fun a m h => best_le fixed lead xs a m h
                      have hgb : ∀ a m, a + (m + 1) ≤ xs.length → -31000 ≤ grpCost fixed lead ((xs.drop a).take (m + 1)) ∧ grpCost fixed lead ((xs.drop a).take (m + 1)) ≤ 31000 := fun at_ m h => by
                        rw [grpCost_sub fixed lead xs at_ m h]
                        have q1 := piecesE_range xs (-2) hpc xs[at_ + m] (List.getElem_mem _)
                        have q2 := piecesE_range xs (-2) hpc xs[at_] (List.getElem_mem _)
                        have e1 : pHi xs (at_ + m) = (xs[at_ + m]).2 := by simp [pHi, show at_ + m < xs.length by omega]
                        have e2 : pLo xs at_ = (xs[at_]).1 := by simp [pLo, show at_ < xs.length by omega]
                        omega
                      have hD0 : tabC (fixed + 2 * lead) (pLo xs) (pHi xs) xs.length xs.length xs.length = 0 := tabC_end _ (Nat.le_refl _) _ (Nat.le_refl _)
                      have hgc : gCost fixed lead xs = tabC (fixed + 2 * lead) (pLo xs) (pHi xs) xs.length xs.length 0 := rfl
                      have hgw : gCost fixed lead xs ≤ grpCost fixed lead xs := by
                        have := hbest 0 (xs.length - 1) (by omega)
                        rw [show xs.length - 1 + 1 = xs.length by omega, List.drop_zero, List.take_length, Nat.zero_add, hD0] at this
                        rw [hgc]; omega
                      generalize gSizes fixed lead xs = zs at *
                      generalize gCost fixed lead xs = gc at *
                      generalize tabC (fixed + 2 * lead) (pLo xs) (pHi xs) xs.length xs.length = D at *
                      generalize grpCost fixed lead xs = gw at hcw hgw
                      subst hpid
                      repeat (first | apply ef_seq | (apply ef_mv; exact rfl; exact rfl) | (apply ef_bin; exact rfl; exact rfl; exact rfl; (exact cmp_f rfl (by simp only [cmpP]; omega))) | (apply ef_len; exact rfl; exact rfl; (exact rfl)) | apply ef_nil | apply seqQ.normal | apply ef_skip | (apply ef_condf; exact rfl; (exact (rfl : false = false))))
                      (apply ef_call; (· exact rfl); (· ((repeat (apply XVs.cons; exact rfl)); exact XVs.nil)); · exact hpe _ _ hfz)
                      repeat (first | apply ef_seq | (apply ef_mv; exact rfl; exact rfl) | (apply ef_bin; exact rfl; exact rfl; exact rfl; (exact cmp_f rfl (by simp only [cmpP]; omega))) | (apply ef_ldp; exact rfl; exact rfl; exact rfl; exact rfl; (exact rfl); (exact rd_2 rfl rfl)) | (apply ef_fap; exact rfl; exact rfl) | apply ef_nil | apply seqQ.normal | apply ef_skip | (apply ef_condf; exact rfl; (exact (rfl : false = false))))
                      (apply ef_call; (· exact rfl); (· ((repeat (apply XVs.cons; exact rfl)); exact XVs.nil)); · exact hcr _ _ hfz)
                      (apply ef_call; (· exact rfl); (· ((repeat (apply XVs.cons; exact rfl)); exact XVs.nil)); · exact (orT_at rfl rfl).trans hg1)
                      repeat (first | apply ef_seq | (apply ef_mv; exact rfl; exact rfl) | (apply ef_ext; exact rfl; exact rfl; exact rfl) | apply ef_nil | apply seqQ.normal | apply ef_block)
                      refine ef_loopf (α := Nat × Int) (fun s => s.1 ≤ xs.length ∧ -(s.1 * 31000 : Int) ≤ s.2 ∧ s.2 ≤ s.1 * 31000 ∧ gc ≤ s.2 + D s.1) (fun s => [(15, I64 (s.1 : Int)), (14, I64 s.2)]) [(9, _), (5, .ptr 1 0 0 0), (13, I64 0), (11, u), (12, I64 gc), (8, I64 (i : Int)), (1, .sl (ls.map encL)), (3, .ptr 0 0 0 0), (7, .ptr 2 0 0 0)] (fun _ => _) (fun s => xs.length - s.1) (0, 0) [15, 14] (fun _ => rfl) (by ((repeat (refine Hold.cons (by exact rfl) ?_)); exact Hold.nil)) (by ((repeat (refine Hold.cons (by exact rfl) ?_)); exact Hold.nil)) rfl rfl ⟨by simp, by simp, by simp, by simp [hgc]⟩ (by simp; omega) ?_
                      rintro ⟨k, ap⟩ ⟨hk, ha1, ha2, hle⟩
                      simp only at hk ha1 ha2 hle ⊢
                      by_cases hkl : k < xs.length
                      · have hc1 := hc1 k hkl
                        obtain ⟨g1, g2⟩ := hgb k 0 (by omega)
                        have g3 := hbest k 0 (by omega)
                        rw [show k + (0 + 1) = k + 1 by omega] at g3
                        generalize grpCost fixed lead ((xs.drop k).take (0 + 1)) = gv at hc1 g1 g2 g3
                        repeat (first | apply ef_seq | (apply ef_mv; exact rfl; exact rfl) | (apply ef_bin; exact rfl; exact rfl; exact rfl; (first | exact cmp_t rfl (by first | exact rfl | (simp only [cmpP]; omega)) | ((with_reducible refine bin_add (wrap_of ?_ ?_)) <;> omega))) | (apply ef_len; exact rfl; exact rfl; (exact rfl)) | (apply ef_ldp; exact rfl; exact rfl; exact rfl; exact rfl; (exact rfl); (exact rd_2 rfl rfl)) | (apply ef_fap; exact rfl; exact rfl) | apply ef_nil | apply seqQ.normal | apply ef_block | apply ef_skip | (apply ef_condt; exact rfl; (exact (rfl : true = true))))
                        (apply ef_slca; (· exact rfl); (· exact rfl); (· exact rfl); (· exact rfl); (· omega); (· unfold MHeap.ok; rw [hob2]; rfl))
                        repeat (fail)
                        (apply ef_call; (· exact rfl); (· ((repeat (apply XVs.cons; exact rfl)); exact XVs.nil)); · exact hc1)
                        repeat (first | (apply ef_mv; exact rfl; exact rfl) | (apply ef_bin; exact rfl; exact rfl; exact rfl; (((with_reducible refine bin_add (wrap_of ?_ ?_)) <;> omega))) | apply ef_nil | apply seqQ.normal | apply blockQ.normal)
                        (refine loopQ.normal _ _ ⟨(k + 1, ap + gv), ⟨by simp only; omega, by simp only; omega, by simp only; omega, by simp only; omega⟩, (by simp only; omega), ⟨by ((repeat (refine Hold.cons (by exact rfl) ?_)); exact Hold.nil), by ((repeat (refine Hold.cons (by exact rfl) ?_)); exact Hold.nil)⟩, .inl (Nat.le_refl _), (by first | exact List.take_length | exact rfl | exact takeF rfl rfl)⟩)
                      · obtain rfl : k = xs.length := by omega
                        rw [hD0] at hle
                        repeat (first | apply ef_seq | (apply ef_mv; exact rfl; exact rfl) | (apply ef_bin; exact rfl; exact rfl; exact rfl; (exact cmp_f rfl (by simp only [cmpP]; omega))) | (apply ef_gy; exact rfl; (exact (rfl : false = false))) | (apply ef_pick; exact rfl; exact rfl; exact rfl) | (apply ef_len; exact rfl; exact rfl; (first | assumption | exact rfl)) | (apply ef_ldp; exact rfl; exact rfl; exact rfl; exact rfl; (exact rfl); (exact rd_2 rfl rfl)) | (apply ef_fap; exact rfl; exact rfl) | apply ef_nil | apply seqQ.normal | apply loopQ.exit | apply ef_exit | apply seqQ.exit | apply blockQ.here | (apply ef_condf; exact rfl; (exact (rfl : false = false))))
                        (apply ef_call; (· exact rfl); (· ((repeat (apply XVs.cons; exact rfl)); exact XVs.nil)); · exact hcw)
                        repeat (first | (apply ef_mv; exact rfl; exact rfl) | (apply ef_bin; exact rfl; exact rfl; exact rfl; (first | exact cmp_f rfl (by simp only [cmpP]; omega) | ((with_reducible refine bin_add (wrap_of ?_ ?_)) <;> omega))) | (apply ef_gy; exact rfl; (exact (rfl : false = false))) | (apply ef_pick; exact rfl; exact rfl; exact rfl) | apply ef_nil | apply seqQ.normal | apply blockQ.normal | apply ef_skip | (apply ef_condf; exact rfl; (exact (rfl : false = false))))
                        refine loopQ.normal _ _ ⟨(i + 1, fo, some (id', g'), G' ++ [⟨0, false, 2, xs.map encR⟩] ++ H), ⟨hlt, ?_, ?_, fun id2 g2 id g e2 e => by cases e; exact (hDJ id2 g2 e2).symm⟩, (by simp only; omega), ⟨by ((repeat (refine Hold.cons (by exact rfl) ?_)); exact Hold.nil), by ((repeat (refine Hold.cons (by exact rfl) ?_)); exact Hold.nil)⟩, ?_⟩
                        · simp only [F1, F2]; exact (hO.app [⟨0, false, 2, xs.map encR⟩]).app H
                        · simp only [F1, F2]; exact (hR.app [⟨0, false, 2, xs.map encR⟩]).app H
                        · simp only [F1, F2]
                          exact HeadIs.cell (hltL_no (m := 3) (j := 2) (o := ⟨0, false, 5, [.agg [I64 0, I64 (sp * ((ls.length : Int) + 1)), I64 gap, rowO fo (lnF sp (bsT ⟨r1, r2, r3, r4, r5⟩ ls) i).length, rowO (some (id', g')) ((lnF sp (fun j => !bsT ⟨r1, r2, r3, r4, r5⟩ ls j) i) ++ [(sp * ((i : Int) + 1))]).length]]⟩) (by decide) rfl (by simp [ltL, MV.lt, rowO]; omega))
                    · repeat (first | apply ef_seq | (apply ef_mv; exact rfl; exact rfl) | (apply ef_bin; exact rfl; exact rfl; exact rfl; (first | exact cmp_t rfl (by first | exact rfl | (simp only [cmpP]; omega)) | ((with_reducible refine bin_add (wrap_of ?_ ?_)) <;> omega))) | (apply ef_len; exact rfl; exact rfl; (exact rfl)) | apply ef_nil | apply seqQ.normal | apply ef_exit | apply seqQ.exit | apply blockQ.here | (apply ef_condt; exact rfl; (exact (rfl : true = true))))
                      refine loopQ.normal _ _ ⟨(i + 1, fo, some (id', g'), G'), ⟨hlt, ?_, ?_, fun id2 g2 id g e2 e => by cases e; exact (hDJ id2 g2 e2).symm⟩, (by simp only; omega), ⟨by ((repeat (refine Hold.cons (by exact rfl) ?_)); exact Hold.nil), by ((repeat (refine Hold.cons (by exact rfl) ?_)); exact Hold.nil)⟩, ?_⟩
                      · simp only [F1, F2]; exact hO
                      · simp only [F1, F2]; exact hR
                      · simp only [F1, F2]
                        exact HeadIs.cell (hltL_no (m := 3) (j := 2) (o := ⟨0, false, 5, [.agg [I64 0, I64 (sp * ((ls.length : Int) + 1)), I64 gap, rowO fo (lnF sp (bsT ⟨r1, r2, r3, r4, r5⟩ ls) i).length, rowO (some (id', g')) ((lnF sp (fun j => !bsT ⟨r1, r2, r3, r4, r5⟩ ls j) i) ++ [(sp * ((i : Int) + 1))]).length]]⟩) (by decide) rfl (by simp [ltL, MV.lt, rowO]; omega))
                · repeat (first | apply ef_seq | (apply ef_mv; exact rfl; exact rfl) | (apply ef_bin; exact rfl; exact rfl; exact rfl; (first | exact cmp_t rfl (by first | exact rfl | (simp only [cmpP]; omega)) | exact cmp_f rfl (by simp only [cmpP]; omega))) | (apply ef_gy; exact rfl; (exact (rfl : false = false))) | (apply ef_pick; exact rfl; exact rfl; exact rfl) | (apply ef_len; exact rfl; exact rfl; (assumption)) | (apply ef_ldr; exact rfl; exact rfl; (exact rfl)) | (apply ef_ias; exact rfl; exact rfl; exact rfl; (omega); assumption; exact rfl) | apply ef_nil | apply seqQ.normal | apply loopQ.ret | apply ef_ret | apply seqQ.ret | apply blockQ.ret | apply ef_block | apply ef_skip | (apply ef_condt; exact rfl; (exact (rfl : true = true))) | (apply ef_call; exact rfl; ((repeat (apply XVs.cons; exact rfl)); exact XVs.nil); (with_reducible exact hfe _)))
                  (refine fin1 rfl (by exact rfl) rfl ?_)
                  rfl
              · repeat (first | apply ef_seq | (apply ef_mv; exact rfl; exact rfl) | (apply ef_bin; exact rfl; exact rfl; exact rfl; (exact cmp_t rfl (by first | exact rfl | (simp only [cmpP]; omega)))) | (apply ef_gn; exact rfl; (exact (rfl : true = true)); exact rfl) | (apply ef_pick; exact rfl; exact rfl; exact rfl) | (apply ef_len; exact rfl; exact rfl; (assumption)) | (apply ef_ldr; exact rfl; exact rfl; (exact rfl)) | (apply ef_ias; exact rfl; exact rfl; exact rfl; (omega); assumption; exact rfl) | apply ef_nil | apply seqQ.normal | apply loopQ.ret | apply ef_ret | apply seqQ.ret | apply blockQ.ret | apply ef_block | apply ef_skip | (apply ef_condt; exact rfl; (exact (rfl : true = true))))
                (refine fin1 rfl (by exact rfl) rfl ?_)
                rfl
            · obtain rfl : i = ls.length := by omega
              repeat (first | apply ef_seq | (apply ef_mv; exact rfl; exact rfl) | (apply ef_bin; exact rfl; exact rfl; exact rfl; (exact cmp_f rfl (by simp only [cmpP]; omega))) | (apply ef_len; exact rfl; exact rfl; (assumption)) | (apply ef_ldp; exact rfl; exact rfl; exact rfl; exact rfl; (exact rfl); (exact rd_5 rfl rfl rfl rfl rfl)) | apply ef_nil | apply seqQ.normal | apply loopQ.exit | apply ef_exit | apply seqQ.exit | apply blockQ.here | (apply ef_condf; exact rfl; (exact (rfl : false = false))))
              have hok := strip_ok (n := ls.length) (bsT ⟨r1, r2, r3, r4, r5⟩ ls) b1 b2 b5
              have n1 := lnF_len sp (bsT ⟨r1, r2, r3, r4, r5⟩ ls) ls.length
              have n2 := lnF_len sp (fun j => !bsT ⟨r1, r2, r3, r4, r5⟩ ls j) ls.length
              have hng := none_gap (b := bsT ⟨r1, r2, r3, r4, r5⟩ ls) b1 b2 b5
              have hag := fun (b' : Nat → Bool) (q : List Int) => again_none (sp := sp) (gap := gap) (n := ls.length) (b := bsT ⟨r1, r2, r3, r4, r5⟩ ls) (b' := b') (q := q)
              generalize lnF sp (bsT ⟨r1, r2, r3, r4, r5⟩ ls) ls.length = F at *
              generalize lnF sp (fun j => !bsT ⟨r1, r2, r3, r4, r5⟩ ls j) ls.length = L at *
              have hcp0 := CopyStrip_t 0 (sp * ((ls.length : Int) + 1)) gap hF hL (by omega) (by omega)
              have hcp := fun X => CopyStrip_t 0 (sp * ((ls.length : Int) + 1)) gap (hF.app X) (hL.app X) (by omega) (by omega)
              have hio := InfillOf_t2 0 (sp * ((ls.length : Int) + 1)) gap F L hok (tpB (.agg [I64 r1, I64 r2, I64 r3, I64 r4, I64 r5]) sp gap fixed lead (sp * ((ls.length : Int) + 1)) (rowO fo F.length) (rowO lo L.length) G)
              (apply ef_call; (· exact rfl); (· ((repeat (apply XVs.cons; exact rfl)); exact XVs.nil)); · exact hcp0)
              cases hp : packF ⟨0, (sp * ((ls.length : Int) + 1)), gap, F, L⟩ with
              | none =>
                have hin : infillF ⟨0, (sp * ((ls.length : Int) + 1)), gap, F, L⟩ = none := by simp [infillF, hp]
                rw [hin] at hio
                have hgs := hng hp
                (apply ef_call; (· exact rfl); (· ((repeat (apply XVs.cons; exact rfl)); exact XVs.nil)); · exact hio)
                repeat (first | apply ef_seq | (apply ef_mv; exact rfl; exact rfl) | (apply ef_bin; exact rfl; exact rfl; exact rfl; (exact cmp_t rfl (by first | exact rfl | (simp only [cmpP]; omega)))) | (apply ef_gy; exact rfl; (exact (rfl : true = true))) | (apply ef_pick; exact rfl; exact rfl; exact rfl) | (apply ef_ldp; exact rfl; exact rfl; exact rfl; exact rfl; (exact rfl); (exact rfl)) | (apply ef_fap; exact rfl; exact rfl) | (apply ef_ext; exact rfl; exact rfl; exact rfl) | apply ef_nil | apply seqQ.normal | apply ef_ret | apply seqQ.ret | (apply ef_condt; exact rfl; (exact (rfl : true = true))))
                (refine fin1 rfl (by exact rfl) rfl ?_)
                rfl
              | some p =>
                obtain ⟨a1, a2, a3, a4⟩ := infill_ok (s := ⟨0, (sp * ((ls.length : Int) + 1)), gap, F, L⟩) hok.good (Int.le_refl 0) hp
                have hin : infillF ⟨0, (sp * ((ls.length : Int) + 1)), gap, F, L⟩ = some (infF ⟨0, (sp * ((ls.length : Int) + 1)), gap, F, L⟩ p.length L []) := by simp [infillF, hp]
                simp only at a4 a2 a1
                generalize infF ⟨0, (sp * ((ls.length : Int) + 1)), gap, F, L⟩ p.length L [] = q at *
                have a5 : q.length ≤ L.length := a4.length_le
                have hql : q.length ≤ 12 := by omega
                obtain ⟨v18, P, hpo, hvl, hvf⟩ := PackingOf_t 0 (sp * ((ls.length : Int) + 1)) gap F L p hok hp (tpB (.agg [I64 r1, I64 r2, I64 r3, I64 r4, I64 r5]) sp gap fixed lead (sp * ((ls.length : Int) + 1)) (rowO fo F.length) (rowO lo L.length) G ++ [⟨0, q.isEmpty, 1, q.map I64⟩])
                have hci := CopyInts_t p _ (v := v18) (by omega) hvf
                have hcpP := CopyStrip_t 0 (sp * ((ls.length : Int) + 1)) gap ((hF.app [⟨0, q.isEmpty, 1, q.map I64⟩]).app P) ((hL.app [⟨0, q.isEmpty, 1, q.map I64⟩]).app P) (by omega) (by omega)
                have hck := fun h v hv => CheckPacking_t 0 (sp * ((ls.length : Int) + 1)) gap F L p hok (by omega) h (v := v) hv (pkE_fst (pkE_zero.2 ⟨by omega, a3⟩))
                have hLs := hL.slen
                have HA := Bx.mk (And.intro a1 (And.intro a2 (And.intro a3 (And.intro a4 (And.intro hag hng)))))
                have HP := Bx.mk (And.intro hin (And.intro hp hok))
                replace hpo := Bx.mk hpo
                replace hci := Bx.mk hci
                replace hcpP := Bx.mk hcpP
                replace hvf := Bx.mk hvf
                clear a1 a2 a3 a4 hag hng hin hp hok hio
                (apply ef_call; (· exact rfl); (· ((repeat (apply XVs.cons; exact rfl)); exact XVs.nil)); · exact InfillOf_s 0 (sp * ((ls.length : Int) + 1)) gap F L q HP.out.2.2 HP.out.1 _)
                iterate 13 (try first | apply ef_seq | (apply ef_mv; exact rfl; exact rfl) | (apply ef_bin; exact rfl; exact rfl; exact rfl; (first | exact cmp_t rfl (by first | exact rfl | (simp only [cmpP]; omega)) | exact cmp_f rfl (by simp only [cmpP]; omega) | ((with_reducible refine bin_add (wrap_of ?_ ?_)) <;> omega) | ((with_reducible refine bin_mul (wrap_of ?_ ?_)) <;> omega) | with_reducible exact bin_add (by assumption) | with_reducible exact bin_mul (by assumption) | exact rfl)) | (apply ef_gy; exact rfl; (first | exact (rfl : true = true) | exact (rfl : false = false) | exact (rfl : true = !false) | exact (rfl : false = !true) | assumption | exact decide_eq_true (by omega) | exact decide_eq_false (by omega))) | (apply ef_gn; exact rfl; (first | exact (rfl : true = true) | exact (rfl : false = false) | exact (rfl : true = !false) | exact (rfl : false = !true) | assumption | exact decide_eq_true (by omega) | exact decide_eq_false (by omega)); exact rfl) | (apply ef_gu; exact rfl; exact rfl) | (apply ef_pick; exact rfl; exact rfl; exact rfl) | (apply ef_pickb; exact rfl; exact rfl; exact rfl; exact rfl) | (apply ef_len; exact rfl; exact rfl; (first | assumption | exact rfl)) | (apply ef_ldr; exact rfl; exact rfl; (first | exact rd_2 rfl rfl | exact rd_5 rfl rfl rfl rfl rfl | exact rfl)) | (apply ef_ldp; exact rfl; exact rfl; exact rfl; exact rfl; (first | exact rfl | assumption); (first | exact rd_2 rfl rfl | exact rd_5 rfl rfl rfl rfl rfl | exact rfl)) | (apply ef_ias; exact rfl; exact rfl; exact rfl; (first | omega | assumption); assumption; exact rfl) | (apply ef_iaa; exact rfl; exact rfl; exact rfl; (first | omega | assumption); (first | omega | assumption); (first | exact rfl | exact ok_of rfl rfl rfl)) | (apply ef_fap; exact rfl; exact rfl) | (apply ef_far; exact rfl; exact rfl) | (apply ef_notT; exact rfl; exact rfl) | (apply ef_notF; exact rfl; exact rfl) | (apply ef_not; exact rfl; exact rfl; exact rfl) | (apply ef_ext; exact rfl; exact rfl; exact rfl) | (apply ef_box; exact rfl; exact rfl; exact rfl; exact rfl) | (apply ef_new; exact rfl) | (apply ef_build; exact rfl; (repeat (apply XVs.cons; exact rfl)); exact XVs.nil; exact rfl; exact rfl) | (apply ef_bsl; exact rfl; (repeat (apply XVs.cons; exact rfl)); exact XVs.nil; exact rfl) | (apply ef_st; exact rfl; exact rfl; exact rfl; exact rfl; exact rfl; exact rfl; (first | exact rfl | assumption); exact rfl) | apply ef_nil | apply seqQ.normal | apply loopQ.ret | apply loopQ.exit | apply ef_ret | apply seqQ.ret | apply ef_exit | apply seqQ.exit | apply blockQ.normal | apply blockQ.ret | apply blockQ.here | (apply blockQ_there; exact rfl) | apply ef_block | apply ef_skip | (apply ef_condt; exact rfl; (first | exact (rfl : true = true) | assumption | exact decide_eq_true (by omega))) | (apply ef_condf; exact rfl; (first | exact (rfl : false = false) | assumption | exact decide_eq_false (by omega))))
                refine ef_condf (t := false) (by exact rfl) rfl ?_
                repeat (first | apply ef_seq | (apply ef_ldp; exact rfl; exact rfl; exact rfl; exact rfl; (exact rfl); (exact rd_5 rfl rfl rfl rfl rfl)) | apply seqQ.normal | apply ef_skip)
                (apply ef_call; (· exact rfl); (· ((repeat (apply XVs.cons; exact rfl)); exact XVs.nil)); · exact hcp _)
                (apply ef_call; (· exact rfl); (· ((repeat (apply XVs.cons; exact rfl)); exact XVs.nil)); · exact hpo.out)
                repeat (first | apply ef_seq | (apply ef_mv; exact rfl; exact rfl) | (apply ef_ldp; exact rfl; exact rfl; exact rfl; exact rfl; (exact rfl); (exact rd_5 rfl rfl rfl rfl rfl)) | (apply ef_ext; exact rfl; exact rfl; exact rfl) | apply ef_nil | apply seqQ.normal)
                (apply ef_call; (· exact rfl); (· ((repeat (apply XVs.cons; exact rfl)); exact XVs.nil)); · exact hcpP.out)
                repeat (first | (apply ef_mv; exact rfl; exact rfl))
                (apply ef_call; (· exact rfl); (· ((repeat (apply XVs.cons; exact rfl)); exact XVs.nil)); · exact hci.out)
                (apply ef_call; (· exact rfl); (· ((repeat (apply XVs.cons; exact rfl)); exact XVs.nil)); · exact hck _ _ (fz_arr (at_end _ _) rfl (by simp) (ltL_I 0 p) rfl).now)
                clear hck hcp hcp0 hpo hci hcpP
                have hqp := HA.out.2.1
                repeat (first | apply ef_seq | (apply ef_mv; exact rfl; exact rfl) | (apply ef_bin; exact rfl; exact rfl; exact rfl; (exact cmp_f rfl (by simp only [cmpP]; omega))) | (apply ef_gy; exact rfl; (exact (rfl : false = false))) | (apply ef_pick; exact rfl; exact rfl; exact rfl) | (apply ef_len; exact rfl; exact rfl; (first | assumption | exact rfl)) | (apply ef_ldp; exact rfl; exact rfl; exact rfl; exact rfl; (exact rfl); (exact rfl)) | (apply ef_fap; exact rfl; exact rfl) | (apply ef_ext; exact rfl; exact rfl; exact rfl) | (apply ef_new; exact rfl) | (apply ef_build; exact rfl; (repeat (apply XVs.cons; exact rfl)); exact XVs.nil; exact rfl; exact rfl) | apply ef_nil | apply seqQ.normal | apply ef_skip | (apply ef_condf; exact rfl; (exact (rfl : false = false))))
                have K1 : (tpB (.agg [I64 r1, I64 r2, I64 r3, I64 r4, I64 r5]) sp gap fixed lead (sp * ((ls.length : Int) + 1)) (rowO fo F.length) (rowO lo L.length) G ++ [(⟨0, q.isEmpty, 1, q.map I64⟩ : MObj)] ++ P ++ [(⟨0, false, 1, p.map I64⟩ : MObj)])[1]? = some ⟨0, false, 4, [.agg [I64 sp, I64 gap, I64 fixed, I64 lead]]⟩ := rfl
                have K2 : (tpB (.agg [I64 r1, I64 r2, I64 r3, I64 r4, I64 r5]) sp gap fixed lead (sp * ((ls.length : Int) + 1)) (rowO fo F.length) (rowO lo L.length) G ++ [(⟨0, q.isEmpty, 1, q.map I64⟩ : MObj)] ++ P ++ [(⟨0, false, 1, p.map I64⟩ : MObj)])[2]? = some (agO (sp * ((ls.length : Int) + 1)) gap (rowO fo F.length) (rowO lo L.length)) := rfl
                have KF : RowIn (tpB (.agg [I64 r1, I64 r2, I64 r3, I64 r4, I64 r5]) sp gap fixed lead (sp * ((ls.length : Int) + 1)) (rowO fo F.length) (rowO lo L.length) G ++ [(⟨0, q.isEmpty, 1, q.map I64⟩ : MObj)] ++ P ++ [(⟨0, false, 1, p.map I64⟩ : MObj)]) fo F := ((hF.app _).app _).app _
                have KQ : (tpB (.agg [I64 r1, I64 r2, I64 r3, I64 r4, I64 r5]) sp gap fixed lead (sp * ((ls.length : Int) + 1)) (rowO fo F.length) (rowO lo L.length) G ++ [(⟨0, q.isEmpty, 1, q.map I64⟩ : MObj)] ++ P ++ [(⟨0, false, 1, p.map I64⟩ : MObj)])[(tpB (.agg [I64 r1, I64 r2, I64 r3, I64 r4, I64 r5]) sp gap fixed lead (sp * ((ls.length : Int) + 1)) (rowO fo F.length) (rowO lo L.length) G).length]? = some ⟨0, q.isEmpty, 1, q.map I64⟩ := at_app (at_app (at_end _ _) _) _
                have K3 : 3 ≤ (tpB (.agg [I64 r1, I64 r2, I64 r3, I64 r4, I64 r5]) sp gap fixed lead (sp * ((ls.length : Int) + 1)) (rowO fo F.length) (rowO lo L.length) G ++ [(⟨0, q.isEmpty, 1, q.map I64⟩ : MObj)] ++ P ++ [(⟨0, false, 1, p.map I64⟩ : MObj)]).length := by simp
                generalize (tpB (.agg [I64 r1, I64 r2, I64 r3, I64 r4, I64 r5]) sp gap fixed lead (sp * ((ls.length : Int) + 1)) (rowO fo F.length) (rowO lo L.length) G ++ [(⟨0, q.isEmpty, 1, q.map I64⟩ : MObj)] ++ P ++ [(⟨0, false, 1, p.map I64⟩ : MObj)]) = H0 at *
                generalize (tpB (.agg [I64 r1, I64 r2, I64 r3, I64 r4, I64 r5]) sp gap fixed lead (sp * ((ls.length : Int) + 1)) (rowO fo F.length) (rowO lo L.length) G).length = n16 at *
                refine ef_st (by exact rfl) (by exact rfl) (by exact rfl) (at_end _ _) rfl rfl rfl (by exact rfl) ?_
                rw [set_end]
                show Ef _ _ _ _ _ _ _ (H0 ++ [agO (sp * ((ls.length : Int) + 1)) gap (.lit (.slice none 0 0)) (.lit (.slice none 0 0))]) _
                obtain ⟨b', hb'⟩ : ∃ b' : Nat → Bool, b' = fun (j : Nat) => (F.contains (sp * ((j : Int) + 1)) || q.contains (sp * ((j : Int) + 1))) := ⟨_, rfl⟩
                have hbj : ∀ j, b' j = (F.contains (sp * ((j : Int) + 1)) || q.contains (sp * ((j : Int) + 1))) := fun j => by rw [hb']
                have hagn := HA.out.2.2.2.2.1 b' q HA.out.1.2.2 HA.out.1.1 hbj
                have hok2 := strip_ok (n := ls.length) b' b1 b2 b5
                replace hagn := Bx.mk (And.intro hagn hok2)
                have K2' := K2
                clear hb' hok2 HA HP hvf hF hL hLs hvl a5
                repeat (first | apply ef_seq | (apply ef_mv; exact rfl; exact rfl) | apply ef_nil | apply seqQ.normal | apply ef_block)
                refine ef_loopg (α := Nat × Option (Nat × Nat) × Option (Nat × Nat) × MHeap)
                  (fun s => s.1 ≤ ls.length ∧ RowIn (H0 ++ agO (sp * ((ls.length : Int) + 1)) gap (rowO s.2.1 (lnF sp b' s.1).length) (rowO s.2.2.1 (lnF sp (fun j => !b' j) s.1).length) :: s.2.2.2) s.2.1 (lnF sp b' s.1) ∧ RowIn (H0 ++ agO (sp * ((ls.length : Int) + 1)) gap (rowO s.2.1 (lnF sp b' s.1).length) (rowO s.2.2.1 (lnF sp (fun j => !b' j) s.1).length) :: s.2.2.2) s.2.2.1 (lnF sp (fun j => !b' j) s.1) ∧ DJ s.2.1 s.2.2.1 ∧ (∀ id g, s.2.1 = some (id, g) → H0.length < id) ∧ (∀ id g, s.2.2.1 = some (id, g) → H0.length < id))
                  (fun s => [(23, I64 ((s.1 : Int) + 1))]) [(1, .sl (ls.map encL)), (5, .ptr 1 0 0 0), (7, .ptr 2 0 0 0), (16, .arr n16 0 q.length 0), (22, .ptr H0.length 0 0 0)]
                  (fun s => H0 ++ agO (sp * ((ls.length : Int) + 1)) gap (rowO s.2.1 (lnF sp b' s.1).length) (rowO s.2.2.1 (lnF sp (fun j => !b' j) s.1).length) :: s.2.2.2)
                  (fun s => ls.length - s.1) (0, none, none, []) [23] (fun _ => rfl) (by ((repeat (refine Hold.cons (by exact rfl) ?_)); exact Hold.nil)) (by ((repeat (refine Hold.cons (by exact rfl) ?_)); exact Hold.nil)) rfl rfl rfl ⟨by simp, rfl, rfl, (fun _ _ _ _ h => by cases h), (fun _ _ h => by cases h), (fun _ _ h => by cases h)⟩ (by simp; omega) ?_
                rintro ⟨j, fo', lo', G'⟩ ⟨hj, hF', hL', hD', hI1, hI2⟩
                simp only at hj hF' hL' hD' hI1 hI2 ⊢
                have kS := mid_app H0 (agO (sp * ((ls.length : Int) + 1)) gap (rowO fo' (lnF sp b' j).length) (rowO lo' (lnF sp (fun j => !b' j) j).length)) G'
                have k1 := at_app K1 (agO (sp * ((ls.length : Int) + 1)) gap (rowO fo' (lnF sp b' j).length) (rowO lo' (lnF sp (fun j => !b' j) j).length) :: G')
                by_cases hj1 : j < ls.length
                · have k2 := at_app K2' (agO (sp * ((ls.length : Int) + 1)) gap (rowO fo' (lnF sp b' j).length) (rowO lo' (lnF sp (fun j => !b' j) j).length) :: G')
                  have kq := at_app KQ (agO (sp * ((ls.length : Int) + 1)) gap (rowO fo' (lnF sp b' j).length) (rowO lo' (lnF sp (fun j => !b' j) j).length) :: G')
                  have kf := KF.app (agO (sp * ((ls.length : Int) + 1)) gap (rowO fo' (lnF sp b' j).length) (rowO lo' (lnF sp (fun j => !b' j) j).length) :: G')
                  have m1 := mul_step (sp := sp) (n := ls.length) (by omega) hj1
                  have m2 := mul_pos' (sp := sp) (j := j) b1.1
                  have E1 := lnF_succ sp b' j
                  have E2 := lnF_succ sp (fun j => !b' j) j
                  have hbt0 := hbj j
                  have hq2 := frz_arr (i := 0) (k := q.length) kq rfl (by simp) (ltL_I 0 q) (es := q.map I64) (by rw [List.drop_zero, List.take_of_length_le (by simp)])
                  cases hc1 : F.contains (sp * ((j : Int) + 1)) with
                  | true =>
                    have hbt : b' j = true := by rw [hbt0, hc1]; rfl
                    have hh1 := Has_t (sp * ((j : Int) + 1)) kf (by omega) hc1
                    repeat (first | apply ef_seq | (apply ef_mv; exact rfl; exact rfl) | (apply ef_bin; exact rfl; exact rfl; exact rfl; (exact cmp_t rfl (by first | exact rfl | (simp only [cmpP]; omega)))) | (apply ef_len; exact rfl; exact rfl; (assumption)) | (apply ef_fap; exact rfl; exact rfl) | apply ef_nil | apply seqQ.normal | apply ef_block | apply ef_skip | (apply ef_condt; exact rfl; (exact (rfl : true = true))))
                    (refine ef_ldp (ht := by exact rfl) (by exact rfl) k1 rfl rfl rfl ?_)
                    repeat (first | apply ef_seq | (apply ef_mv; exact rfl; exact rfl) | (apply ef_bin; exact rfl; exact rfl; exact rfl; (((with_reducible refine bin_mul (wrap_of ?_ ?_)) <;> omega))) | (apply ef_fap; exact rfl; exact rfl) | apply ef_nil | apply seqQ.normal)
                    (refine ef_ldp (ht := by exact rfl) (by exact rfl) k2 rfl rfl rfl ?_)
                    repeat (first | (apply ef_mv; exact rfl; exact rfl))
                    (apply ef_call; (· exact rfl); (· ((repeat (apply XVs.cons; exact rfl)); exact XVs.nil)); · exact hh1)
                    repeat (first | (apply ef_mv; exact rfl; exact rfl) | (apply ef_gn; exact rfl; (exact (rfl : true = true)); exact rfl) | (apply ef_pick; exact rfl; exact rfl; exact rfl) | (apply ef_fap; exact rfl; exact rfl) | apply ef_nil | apply seqQ.normal | (apply ef_condt; exact rfl; (exact (rfl : true = true))))
                    (refine ef_ldp (ht := by exact rfl) (by exact rfl) kS rfl rfl rfl ?_)
                    repeat (first | (apply ef_mv; exact rfl; exact rfl) | (apply ef_bsl; exact rfl; (repeat (apply XVs.cons; exact rfl)); exact XVs.nil; exact rfl))
                    refine ef_grow (xv := (sp * ((j : Int) + 1))) (fun v => [I64 0, I64 (sp * ((ls.length : Int) + 1)), I64 gap, v, rowO lo' (lnF sp (fun j => !b' j) j).length]) rfl rfl rfl rfl (fun _ => rfl) (fun _ _ => rfl) hF' kS (by simp; omega) (fun id g e => by have := hI1 id g e; omega) (by have := lnF_len sp b' j; omega) (fun _ _ _ => rfl) ?_
                    intro h' id' g' hR hnew hS hrest hlen
                    have kH : ∀ i, i < H0.length → h'[i]? = H0[i]? := fun i hi' => by
                      rw [hrest i (by simp; omega) (by omega) (fun id g e => by have := hI1 id g e; omega)]
                      exact List.getElem?_append_left hi'
                    have hnid : H0.length < id' := by
                      rcases hnew with ⟨g0, e0⟩ | hge
                      · exact hI1 id' g0 e0
                      · simp at hge; omega
                    have hO : RowIn h' lo' (lnF sp (fun j => !b' j) j) := hL'.mono fun id g e hid => by
                      have := hI2 id g e
                      exact hrest id hid (by omega) (fun id2 g2 e2 => (hD' id2 g2 id g e2 e).symm)
                    have hDJ : ∀ id2 g2, lo' = some (id2, g2) → id' ≠ id2 := fun id2 g2 e2 => by
                      rcases hnew with ⟨g0, e0⟩ | hge
                      · exact hD' id' g0 id2 g2 e0 e2
                      · have := (hL'.ge e2).2
                        omega
                    have F1 : lnF sp b' (j + 1) = (lnF sp b' j) ++ [(sp * ((j : Int) + 1))] := by rw [E1, hbt]; rfl
                    have F2 : lnF sp (fun j => !b' j) (j + 1) = (lnF sp (fun j => !b' j) j) := by rw [E2]; simp [hbt]
                    obtain ⟨G2, rfl⟩ := splitH kH hS
                    repeat (first | (apply ef_mv; exact rfl; exact rfl) | (apply ef_bin; exact rfl; exact rfl; exact rfl; (((with_reducible refine bin_add (wrap_of ?_ ?_)) <;> omega))) | apply ef_nil | apply seqQ.normal | apply blockQ.normal)
                    refine loopQ.normal _ _ ⟨(j + 1, some (id', g'), lo', G2), ⟨hj1, ?_, ?_, fun id g id2 g2 e e2 => by cases e; exact hDJ id2 g2 e2, fun id g e => by cases e; exact hnid, hI2⟩, (by simp only; omega), ⟨by ((repeat (refine Hold.cons (by exact rfl) ?_)); exact Hold.nil), by ((repeat (refine Hold.cons (by exact rfl) ?_)); exact Hold.nil)⟩, ?_⟩
                    · simp only [F1, F2]; exact hR
                    · simp only [F1, F2]; exact hO
                    · simp only [F1, F2]
                      exact HeadIs.cell (hltL_no (j := H0.length) (o := agO (sp * ((ls.length : Int) + 1)) gap (rowO (some (id', g')) ((lnF sp b' j) ++ [(sp * ((j : Int) + 1))]).length) (rowO lo' (lnF sp (fun j => !b' j) j).length)) (by simp) (mid_app _ _ _) (by simp [ltL, MV.lt, rowO]; omega))
                  | false =>
                    have hh1 := Has_t (sp * ((j : Int) + 1)) kf (by omega) hc1
                    cases hc2 : q.contains (sp * ((j : Int) + 1)) with
                    | true =>
                      have hbt : b' j = true := by rw [hbt0, hc1, hc2]; rfl
                      have hh2 := Has_v (sp * ((j : Int) + 1)) (v := .arr n16 0 q.length 0) (by omega) hq2 hc2
                      repeat (first | apply ef_seq | (apply ef_mv; exact rfl; exact rfl) | (apply ef_bin; exact rfl; exact rfl; exact rfl; (exact cmp_t rfl (by first | exact rfl | (simp only [cmpP]; omega)))) | (apply ef_len; exact rfl; exact rfl; (assumption)) | (apply ef_fap; exact rfl; exact rfl) | apply ef_nil | apply seqQ.normal | apply ef_block | apply ef_skip | (apply ef_condt; exact rfl; (exact (rfl : true = true))))
                      (refine ef_ldp (ht := by exact rfl) (by exact rfl) k1 rfl rfl rfl ?_)
                      repeat (first | apply ef_seq | (apply ef_mv; exact rfl; exact rfl) | (apply ef_bin; exact rfl; exact rfl; exact rfl; (((with_reducible refine bin_mul (wrap_of ?_ ?_)) <;> omega))) | (apply ef_fap; exact rfl; exact rfl) | apply ef_nil | apply seqQ.normal)
                      (refine ef_ldp (ht := by exact rfl) (by exact rfl) k2 rfl rfl rfl ?_)
                      repeat (first | (apply ef_mv; exact rfl; exact rfl))
                      (apply ef_call; (· exact rfl); (· ((repeat (apply XVs.cons; exact rfl)); exact XVs.nil)); · exact hh1)
                      repeat (first | (apply ef_mv; exact rfl; exact rfl) | (apply ef_gy; exact rfl; (exact (rfl : false = false))))
                      (apply ef_call; (· exact rfl); (· ((repeat (apply XVs.cons; exact rfl)); exact XVs.nil)); · exact hh2)
                      repeat (first | (apply ef_pick; exact rfl; exact rfl; exact rfl) | (apply ef_fap; exact rfl; exact rfl) | apply ef_nil | apply seqQ.normal | (apply ef_condt; exact rfl; (exact (rfl : true = true))))
                      (refine ef_ldp (ht := by exact rfl) (by exact rfl) kS rfl rfl rfl ?_)
                      repeat (first | (apply ef_mv; exact rfl; exact rfl) | (apply ef_bsl; exact rfl; (repeat (apply XVs.cons; exact rfl)); exact XVs.nil; exact rfl))
                      refine ef_grow (xv := (sp * ((j : Int) + 1))) (fun v => [I64 0, I64 (sp * ((ls.length : Int) + 1)), I64 gap, v, rowO lo' (lnF sp (fun j => !b' j) j).length]) rfl rfl rfl rfl (fun _ => rfl) (fun _ _ => rfl) hF' kS (by simp; omega) (fun id g e => by have := hI1 id g e; omega) (by have := lnF_len sp b' j; omega) (fun _ _ _ => rfl) ?_
                      intro h' id' g' hR hnew hS hrest hlen
                      have kH : ∀ i, i < H0.length → h'[i]? = H0[i]? := fun i hi' => by
                        rw [hrest i (by simp; omega) (by omega) (fun id g e => by have := hI1 id g e; omega)]
                        exact List.getElem?_append_left hi'
                      have hnid : H0.length < id' := by
                        rcases hnew with ⟨g0, e0⟩ | hge
                        · exact hI1 id' g0 e0
                        · simp at hge; omega
                      have hO : RowIn h' lo' (lnF sp (fun j => !b' j) j) := hL'.mono fun id g e hid => by
                        have := hI2 id g e
                        exact hrest id hid (by omega) (fun id2 g2 e2 => (hD' id2 g2 id g e2 e).symm)
                      have hDJ : ∀ id2 g2, lo' = some (id2, g2) → id' ≠ id2 := fun id2 g2 e2 => by
                        rcases hnew with ⟨g0, e0⟩ | hge
                        · exact hD' id' g0 id2 g2 e0 e2
                        · have := (hL'.ge e2).2
                          omega
                      have F1 : lnF sp b' (j + 1) = (lnF sp b' j) ++ [(sp * ((j : Int) + 1))] := by rw [E1, hbt]; rfl
                      have F2 : lnF sp (fun j => !b' j) (j + 1) = (lnF sp (fun j => !b' j) j) := by rw [E2]; simp [hbt]
                      obtain ⟨G2, rfl⟩ := splitH kH hS
                      repeat (first | (apply ef_mv; exact rfl; exact rfl) | (apply ef_bin; exact rfl; exact rfl; exact rfl; (((with_reducible refine bin_add (wrap_of ?_ ?_)) <;> omega))) | apply ef_nil | apply seqQ.normal | apply blockQ.normal)
                      refine loopQ.normal _ _ ⟨(j + 1, some (id', g'), lo', G2), ⟨hj1, ?_, ?_, fun id g id2 g2 e e2 => by cases e; exact hDJ id2 g2 e2, fun id g e => by cases e; exact hnid, hI2⟩, (by simp only; omega), ⟨by ((repeat (refine Hold.cons (by exact rfl) ?_)); exact Hold.nil), by ((repeat (refine Hold.cons (by exact rfl) ?_)); exact Hold.nil)⟩, ?_⟩
                      · simp only [F1, F2]; exact hR
                      · simp only [F1, F2]; exact hO
                      · simp only [F1, F2]
                        exact HeadIs.cell (hltL_no (j := H0.length) (o := agO (sp * ((ls.length : Int) + 1)) gap (rowO (some (id', g')) ((lnF sp b' j) ++ [(sp * ((j : Int) + 1))]).length) (rowO lo' (lnF sp (fun j => !b' j) j).length)) (by simp) (mid_app _ _ _) (by simp [ltL, MV.lt, rowO]; omega))
                    | false =>
                      have hbt : b' j = false := by rw [hbt0, hc1, hc2]; rfl
                      have hh2 := Has_v (sp * ((j : Int) + 1)) (v := .arr n16 0 q.length 0) (by omega) hq2 hc2
                      repeat (first | apply ef_seq | (apply ef_mv; exact rfl; exact rfl) | (apply ef_bin; exact rfl; exact rfl; exact rfl; (exact cmp_t rfl (by first | exact rfl | (simp only [cmpP]; omega)))) | (apply ef_len; exact rfl; exact rfl; (assumption)) | (apply ef_fap; exact rfl; exact rfl) | apply ef_nil | apply seqQ.normal | apply ef_block | apply ef_skip | (apply ef_condt; exact rfl; (exact (rfl : true = true))))
                      (refine ef_ldp (ht := by exact rfl) (by exact rfl) k1 rfl rfl rfl ?_)
                      repeat (first | apply ef_seq | (apply ef_mv; exact rfl; exact rfl) | (apply ef_bin; exact rfl; exact rfl; exact rfl; (((with_reducible refine bin_mul (wrap_of ?_ ?_)) <;> omega))) | (apply ef_fap; exact rfl; exact rfl) | apply ef_nil | apply seqQ.normal)
                      (refine ef_ldp (ht := by exact rfl) (by exact rfl) k2 rfl rfl rfl ?_)
                      repeat (first | (apply ef_mv; exact rfl; exact rfl))
                      (apply ef_call; (· exact rfl); (· ((repeat (apply XVs.cons; exact rfl)); exact XVs.nil)); · exact hh1)
                      repeat (first | (apply ef_mv; exact rfl; exact rfl) | (apply ef_gy; exact rfl; (exact (rfl : false = false))))
                      (apply ef_call; (· exact rfl); (· ((repeat (apply XVs.cons; exact rfl)); exact XVs.nil)); · exact hh2)
                      repeat (first | (apply ef_pick; exact rfl; exact rfl; exact rfl) | (apply ef_fap; exact rfl; exact rfl) | apply ef_nil | apply seqQ.normal | (apply ef_condf; exact rfl; (exact (rfl : false = false))))
                      (refine ef_ldp (ht := by exact rfl) (by exact rfl) kS rfl rfl rfl ?_)
                      repeat (first | (apply ef_mv; exact rfl; exact rfl) | (apply ef_bsl; exact rfl; (repeat (apply XVs.cons; exact rfl)); exact XVs.nil; exact rfl))
                      refine ef_grow (xv := (sp * ((j : Int) + 1))) (fun v => [I64 0, I64 (sp * ((ls.length : Int) + 1)), I64 gap, rowO fo' (lnF sp b' j).length, v]) rfl rfl rfl rfl (fun _ => rfl) (fun _ _ => rfl) hL' kS (by simp; omega) (fun id g e => by have := hI2 id g e; omega) (by have := lnF_len sp (fun j => !b' j) j; omega) (fun _ _ _ => rfl) ?_
                      intro h' id' g' hR hnew hS hrest hlen
                      have kH : ∀ i, i < H0.length → h'[i]? = H0[i]? := fun i hi' => by
                        rw [hrest i (by simp; omega) (by omega) (fun id g e => by have := hI2 id g e; omega)]
                        exact List.getElem?_append_left hi'
                      have hnid : H0.length < id' := by
                        rcases hnew with ⟨g0, e0⟩ | hge
                        · exact hI2 id' g0 e0
                        · simp at hge; omega
                      have hO : RowIn h' fo' (lnF sp b' j) := hF'.mono fun id g e hid => by
                        have := hI1 id g e
                        exact hrest id hid (by omega) (fun id2 g2 e2 => hD' id g id2 g2 e e2)
                      have hDJ : ∀ id2 g2, fo' = some (id2, g2) → id' ≠ id2 := fun id2 g2 e2 => by
                        rcases hnew with ⟨g0, e0⟩ | hge
                        · exact (hD' id2 g2 id' g0 e2 e0).symm
                        · have := (hF'.ge e2).2
                          omega
                      have F1 : lnF sp b' (j + 1) = (lnF sp b' j) := by rw [E1, hbt]; simp
                      have F2 : lnF sp (fun j => !b' j) (j + 1) = (lnF sp (fun j => !b' j) j) ++ [(sp * ((j : Int) + 1))] := by rw [E2]; simp [hbt]
                      obtain ⟨G2, rfl⟩ := splitH kH hS
                      repeat (first | (apply ef_mv; exact rfl; exact rfl) | (apply ef_bin; exact rfl; exact rfl; exact rfl; (((with_reducible refine bin_add (wrap_of ?_ ?_)) <;> omega))) | apply ef_nil | apply seqQ.normal | apply blockQ.normal)
                      refine loopQ.normal _ _ ⟨(j + 1, fo', some (id', g'), G2), ⟨hj1, ?_, ?_, fun id2 g2 id g e2 e => by cases e; exact (hDJ id2 g2 e2).symm, hI1, fun id g e => by cases e; exact hnid⟩, (by simp only; omega), ⟨by ((repeat (refine Hold.cons (by exact rfl) ?_)); exact Hold.nil), by ((repeat (refine Hold.cons (by exact rfl) ?_)); exact Hold.nil)⟩, ?_⟩
                      · simp only [F1, F2]; exact hO
                      · simp only [F1, F2]; exact hR
                      · simp only [F1, F2]
                        exact HeadIs.cell (hltL_no (j := H0.length) (o := agO (sp * ((ls.length : Int) + 1)) gap (rowO fo' (lnF sp b' j).length) (rowO (some (id', g')) ((lnF sp (fun j => !b' j) j) ++ [(sp * ((j : Int) + 1))]).length)) (by simp) (mid_app _ _ _) (by simp [ltL, MV.lt, rowO]; omega))
                · obtain rfl : j = ls.length := by omega
                  have hio2 := InfillOf_t 0 (sp * ((ls.length : Int) + 1)) gap hF' hL' hagn.out.2
                  have hz := infill_nil hagn.out.1
                  rw [hz] at hio2
                  repeat (first | apply ef_seq | (apply ef_mv; exact rfl; exact rfl) | (apply ef_bin; exact rfl; exact rfl; exact rfl; (exact cmp_f rfl (by simp only [cmpP]; omega))) | (apply ef_len; exact rfl; exact rfl; (assumption)) | apply ef_nil | apply seqQ.normal | apply loopQ.exit | apply ef_exit | apply seqQ.exit | apply blockQ.here | (apply ef_condf; exact rfl; (exact (rfl : false = false))))
                  (refine ef_ldp (ht := by exact rfl) (by exact rfl) kS rfl rfl rfl ?_)
                  repeat (fail)
                  (apply ef_call; (· exact rfl); (· ((repeat (apply XVs.cons; exact rfl)); exact XVs.nil)); · exact hio2)
                  repeat (first | apply ef_seq | (apply ef_mv; exact rfl; exact rfl) | (apply ef_bin; exact rfl; exact rfl; exact rfl; (exact cmp_t rfl (by first | exact rfl | (simp only [cmpP]; omega)))) | (apply ef_gy; exact rfl; (exact (rfl : true = true))) | (apply ef_pick; exact rfl; exact rfl; exact rfl) | (apply ef_len; exact rfl; exact rfl; (exact rfl)) | (apply ef_ext; exact rfl; exact rfl; exact rfl) | apply ef_nil | apply seqQ.normal | apply ef_ret)
                  (refine fin1 rfl (by exact rfl) rfl ?_)
                  rfl
          · repeat (first | apply ef_seq | (apply ef_mv; exact rfl; exact rfl) | (apply ef_bin; exact rfl; exact rfl; exact rfl; (first | exact cmp_t rfl (by first | exact rfl | (simp only [cmpP]; omega)) | exact cmp_f rfl (by simp only [cmpP]; omega))) | (apply ef_gy; exact rfl; (exact (rfl : false = false))) | (apply ef_pick; exact rfl; exact rfl; exact rfl) | (apply ef_len; exact rfl; exact rfl; (assumption)) | (apply ef_ldp; exact rfl; exact rfl; exact rfl; exact rfl; (exact rfl); (first | exact rd_2 rfl rfl | exact rd_5 rfl rfl rfl rfl rfl | exact rfl)) | (apply ef_fap; exact rfl; exact rfl) | (apply ef_notT; exact rfl; exact rfl) | (apply ef_box; exact rfl; exact rfl; exact rfl; exact rfl) | apply ef_nil | apply seqQ.normal | apply ef_ret | apply seqQ.ret | apply ef_skip | (apply ef_condt; exact rfl; (exact (rfl : true = true))) | (apply ef_condf; exact rfl; (exact (rfl : false = false))) | (apply ef_call; exact rfl; ((repeat (apply XVs.cons; exact rfl)); exact XVs.nil); (with_reducible first | exact awakeT_t _ | exact hru _ | exact hwi _ _ _ _ _ (by assumption) | exact hco _)))
            (refine fin1 rfl (by exact rfl) rfl ?_)
            rfl
    · repeat (first | apply ef_seq | (apply ef_mv; exact rfl; exact rfl) | (apply ef_bin; exact rfl; exact rfl; exact rfl; (first | exact cmp_t rfl (by first | exact rfl | (simp only [cmpP]; omega)) | exact cmp_f rfl (by simp only [cmpP]; omega))) | (apply ef_gy; exact rfl; (exact (rfl : false = false))) | (apply ef_gn; exact rfl; (exact (rfl : true = true)); exact rfl) | (apply ef_pick; exact rfl; exact rfl; exact rfl) | (apply ef_len; exact rfl; exact rfl; (assumption)) | (apply ef_ldp; exact rfl; exact rfl; exact rfl; exact rfl; (exact rfl); (exact rd_5 rfl rfl rfl rfl rfl)) | (apply ef_notT; exact rfl; exact rfl) | (apply ef_box; exact rfl; exact rfl; exact rfl; exact rfl) | apply ef_nil | apply seqQ.normal | apply ef_ret | apply seqQ.ret | apply ef_skip | (apply ef_condt; exact rfl; (exact (rfl : true = true))) | (apply ef_condf; exact rfl; (exact (rfl : false = false))) | (apply ef_call; exact rfl; ((repeat (apply XVs.cons; exact rfl)); exact XVs.nil); (with_reducible first | exact awakeT_t _ | exact hru _)))
      (refine fin1 rfl (by exact rfl) rfl ?_)
      rfl
  · repeat (first | apply ef_seq | (apply ef_mv; exact rfl; exact rfl) | (apply ef_bin; exact rfl; exact rfl; exact rfl; (exact cmp_t rfl (by first | exact rfl | (simp only [cmpP]; omega)))) | (apply ef_gn; exact rfl; (exact (rfl : true = true)); exact rfl) | (apply ef_pick; exact rfl; exact rfl; exact rfl) | (apply ef_ldp; exact rfl; exact rfl; exact rfl; exact rfl; (exact rfl); (exact rd_5 rfl rfl rfl rfl rfl)) | (apply ef_notT; exact rfl; exact rfl) | (apply ef_box; exact rfl; exact rfl; exact rfl; exact rfl) | apply ef_nil | apply seqQ.normal | apply ef_ret | apply seqQ.ret | apply ef_skip | (apply ef_condt; exact rfl; (exact (rfl : true = true))) | (apply ef_condf; exact rfl; (exact (rfl : false = false))) | (apply ef_call; exact rfl; ((repeat (apply XVs.cons; exact rfl)); exact XVs.nil); (with_reducible first | exact awakeT_t _ | exact hru _)))
    (refine fin1 rfl (by exact rfl) rfl ?_)
    rfl
end Go.Proofs.Ytgjpdjihjphbdaa

/- The law TopDrapeInfill: for all rules, lines of fixes and layouts it returns true; the arguments read as before. -/
namespace Go.Proofs.Ytgjpdjihjphbdaa
open Go.ChangeShapes Go.WideShapes Go.ChangeAt Go.RowKit

def fixShT : Sh := .agg [.int .i64, .int .i64, .int .i64]
theorem fits_fixT {m : MV} (h : Fits fixShT m) : ∃ z, m = encX z := by
  simp only [fixShT, Fits, FitsL] at h
  obtain ⟨ms, ⟨a1, q1, rfl, ⟨a, rfl, _⟩, a2, q2, rfl, ⟨b, rfl, _⟩, a3, q3, rfl, ⟨c, rfl, _⟩, rfl⟩, rfl⟩ := h
  exact ⟨⟨a, b, c⟩, rfl⟩
theorem fits_fixesT {m : MV} (h : Fits (.slice fixShT) m) : ∃ zs : List Fx, m = encL zs ∧ zs.length ≤ maxLen := by
  rw [Fits] at h
  obtain ⟨es, rfl, hl, he⟩ := h
  induction es with
  | nil => exact ⟨[], rfl, by simp⟩
  | cons e es ih =>
    obtain ⟨z, rfl⟩ := fits_fixT (he e List.mem_cons_self)
    obtain ⟨zs, h1, h2⟩ := ih (by simp at hl; omega) fun e h => he e (List.mem_cons_of_mem _ h)
    have e1 : es = zs.map encX := by simpa using h1
    subst e1
    exact ⟨z :: zs, rfl, by simpa using hl⟩
theorem fits_linesT {m : MV} (h : Fits (.slice (.slice fixShT)) m) : ∃ ls : List (List Fx), m = .sl (ls.map encL) ∧ ls.length ≤ maxLen ∧ ∀ l ∈ ls, l.length ≤ maxLen := by
  rw [Fits] at h
  obtain ⟨es, rfl, hl, he⟩ := h
  induction es with
  | nil => exact ⟨[], rfl, by simp, fun l hl => by cases hl⟩
  | cons e es ih =>
    obtain ⟨z, rfl, hz⟩ := fits_fixesT (he e List.mem_cons_self)
    obtain ⟨zs, h1, h2, h3⟩ := ih (by simp at hl; omega) fun e h => he e (List.mem_cons_of_mem _ h)
    have e1 : es = zs.map encL := by simpa using h1
    subst e1
    refine ⟨z :: zs, rfl, by simpa using hl, fun l hl => ?_⟩
    rcases List.mem_cons.1 hl with rfl | hl
    · exact hz
    · exact h3 l hl

def topShs : List Sh := [.agg [.int .i64, .int .i64, .int .i64, .int .i64, .int .i64], .slice (.slice fixShT), .agg [.int .i64, .int .i64, .agg [.int .i64, .int .i64]]]
theorem top_runs (ms : List MV) (h : FitsL topShs ms) : runZ MT orT (itA 12) 1000000 14 ms [] = some (.lit (.bool true), []) := by
  obtain ⟨m1, r1, rfl, h1, h⟩ := fitsL_cons h
  obtain ⟨m2, r2, rfl, h2, h⟩ := fitsL_cons h
  obtain ⟨m3, r3, rfl, h3, h⟩ := fitsL_cons h
  obtain rfl := fitsL_nil h
  obtain ⟨ns, h6, rfl⟩ := fits_agg h1
  obtain ⟨n1, s1, rfl, g1, h7⟩ := fitsL_cons h6
  obtain ⟨n2, s2, rfl, g2, h7⟩ := fitsL_cons h7
  obtain ⟨n3, s3, rfl, g3, h7⟩ := fitsL_cons h7
  obtain ⟨n4, s4, rfl, g4, h7⟩ := fitsL_cons h7
  obtain ⟨n5, s5, rfl, g5, h7⟩ := fitsL_cons h7
  obtain rfl := fitsL_nil h7
  obtain ⟨a, rfl, _⟩ := fits_int g1
  obtain ⟨b, rfl, _⟩ := fits_int g2
  obtain ⟨c, rfl, _⟩ := fits_int g3
  obtain ⟨d, rfl, _⟩ := fits_int g4
  obtain ⟨e, rfl, _⟩ := fits_int g5
  obtain ⟨ls, rfl, hl, hls⟩ := fits_linesT h2
  obtain ⟨ns, h6, rfl⟩ := fits_agg h3
  obtain ⟨n1, s1, rfl, g1, h7⟩ := fitsL_cons h6
  obtain ⟨n2, s2, rfl, g2, h7⟩ := fitsL_cons h7
  obtain ⟨n3, s3, rfl, g3, h7⟩ := fitsL_cons h7
  obtain rfl := fitsL_nil h7
  obtain ⟨sp, rfl, _⟩ := fits_int g1
  obtain ⟨gap, rfl, _⟩ := fits_int g2
  obtain ⟨x, y, rfl, _⟩ := fits_pair g3
  exact TopDrapeInfill_z a b c d e ls sp gap x y (Nat.le_trans hl maxLen_le) (fun l h => Nat.le_trans (hls l h) maxLen_le)

set_option maxRecDepth 100000 in
theorem top_lifted (os : Os) (started : os.Started) (H : Type) (enc : TypeId × Value → H) :
    ReturnsInHanded {} Try.checked os 14 .any (Rows.topDrapeInfillSpec.pre6 enc Try.prog Try.f14 Rows.topDrapeInfillRow.domain false) (Rows.topDrapeInfillSpec.post enc Try.prog Try.f14 false true false false) := by
  refine returnsInHanded_of_change (C := Try.checked) Try.own started (by kernel_rfl) Try.func14
    (ChangeSpec.witness6 (enc := enc) (C := Try.checked) false ⟨#[], #[.agg #[.int .i64 0, .int .i64 0, .int .i64 0, .int .i64 0, .int .i64 0], .slice none 0 0, .agg #[.int .i64 0, .int .i64 0, .int .i64 0, .int .i64 0]], []⟩ 8 (by kernel_rfl) (by kernel_rfl) (by kernel_rfl) (by kernel_rfl)) ?_
  intro W base args ds gs before hval hW _ _
  exact law_contractO orT_ok orT_app topShs (by kernel_rfl) (by kernel_rfl) rfl rfl (fun ds h => by match ds, h with | [_, _, _], _ => exact ⟨rfl, rfl, rfl⟩) top_runs W base args ds gs before hval hW

theorem topDrapeInfill_holds : Rows.TopDrapeInfillSaid :=
  OpenClaim.holds_of_wide 14 Try.f14 rfl rfl rfl rfl rfl rfl rfl ⟨rfl, rfl, rfl, rfl, rfl⟩ rfl rfl rfl rfl rfl (by kernel_rfl) Try.func14 (by kernel_rfl)
    (of_decide_eq_true (by kernel_rfl)) (by unfold Func.isWrapper; rw [if_neg (of_decide_eq_false (by kernel_rfl))]; exact ⟨rfl, rfl⟩)
    (fun os started H enc _ => top_lifted os started H enc)
#print axioms topDrapeInfill_holds
end Go.Proofs.Ytgjpdjihjphbdaa
