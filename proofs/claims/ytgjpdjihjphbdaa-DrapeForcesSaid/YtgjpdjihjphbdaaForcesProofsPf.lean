/- Open values of tasks. -/
import Derived.Test.YtgjpdjihjphbdaaForcesProofsPe
/- The contract of task.steps: distances along a queue. -/
namespace Go.Proofs.Ytgjpdjihjphbdaa
open Go.RowKit
set_option linter.unusedVariables false

/-- Entries of a map from nodes to numbers. -/
def entM (e : Nd × Nat) : MV := .tup [posM e.1, I64 (e.2 : Int)]
def mF : List (Nd × Nat) → Nd → Option Nat
  | [], _ => none
  | (q, k) :: L, p => if p = q then some k else mF L p
theorem mF_app : ∀ {L : List (Nd × Nat)} {q : Nd} {k : Nat}, mF L q = none → mF (L ++ [(q, k)]) = fSet (mF L) q k
  | [], q, k, _ => by funext p; simp [mF, fSet]
  | (a, j) :: L, q, k, h => by
    funext p
    simp only [mF, List.cons_append] at h ⊢
    have hne : ¬ q = a := fun e => by rw [if_pos e] at h; cases h
    rw [if_neg hne] at h
    rw [mF_app h]
    unfold fSet
    simp only [mF]
    by_cases e : p = q
    · subst e; rw [if_neg hne, if_pos rfl, if_pos rfl]
    · by_cases e2 : p = a
      · rw [if_pos e2, if_neg e, if_pos e2]
      · rw [if_neg e2, if_neg e, if_neg e, if_neg e2]
theorem litEq_pos (a b c d : Int) : litEq [I64 a, I64 b] [I64 c, I64 d] = some (a == c && b == d) := by
  simp [litEq]
theorem mfind_ent (p : Nd) : ∀ (L : List (Nd × Nat)) (i : Nat), match mF L p with
    | none => mfind [I64 (p.2 : Int), I64 (p.1 : Int)] (L.map entM) i = some none
    | some k => ∃ j, mfind [I64 (p.2 : Int), I64 (p.1 : Int)] (L.map entM) i = some (some (j, I64 (k : Int)))
  | [], i => by simp [mF, mfind]
  | ((y, x), k) :: L, i => by
    have e : mfind [I64 (p.2 : Int), I64 (p.1 : Int)] ((((y, x), k) :: L).map entM) i = match litEq [I64 (p.2 : Int), I64 (p.1 : Int)] [I64 (x : Int), I64 (y : Int)] with
      | some true => some (some (i, I64 (k : Int)))
      | some false => mfind [I64 (p.2 : Int), I64 (p.1 : Int)] (L.map entM) (i + 1)
      | none => none := rfl
    rw [litEq_pos] at e
    simp only [mF]
    by_cases h : p = (y, x)
    · subst h
      rw [if_pos rfl]
      exact ⟨i, by rw [e]; simp⟩
    · rw [if_neg h]
      have hb : ((p.2 : Int) == (x : Int) && (p.1 : Int) == (y : Int)) = false := by
        rw [Bool.eq_false_iff]
        intro hc
        simp only [Bool.and_eq_true, beq_iff_eq] at hc
        obtain ⟨a, b⟩ := p
        simp only at hc
        exact h (by rw [show a = y by omega, show b = x by omega])
      rw [hb] at e
      have := mfind_ent p L (i + 1)
      rw [e]
      exact this
theorem mfind_none {L : List (Nd × Nat)} {p : Nd} (h : mF L p = none) : mfind [I64 (p.2 : Int), I64 (p.1 : Int)] (L.map entM) 0 = some none := by
  have := mfind_ent p L 0; rw [h] at this; exact this
theorem mfind_some {L : List (Nd × Nat)} {p : Nd} {k : Nat} (h : mF L p = some k) : ∃ j, mfind [I64 (p.2 : Int), I64 (p.1 : Int)] (L.map entM) 0 = some (some (j, I64 (k : Int))) := by
  have := mfind_ent p L 0; rw [h] at this; exact this
/-- How many nodes are not found yet. -/
def Tk.unf (t : Tk) (f : Nd → Option Nat) : Nat := ((nodesP t.ter.length t.W).filter fun p => (f p).isNone).length
theorem filter_lt {α : Type} {p q : α → Bool} (hpq : ∀ x, q x = true → p x = true) : ∀ {l : List α} {a : α}, a ∈ l → p a = true → q a = false → (l.filter q).length < (l.filter p).length := by
  have le : ∀ l : List α, (l.filter q).length ≤ (l.filter p).length := fun l => by
    induction l with
    | nil => simp
    | cons x l ih =>
      simp only [List.filter_cons]
      by_cases h : q x = true
      · rw [if_pos h, if_pos (hpq x h)]; simp; exact ih
      · rw [if_neg h]
        split
        · simp; omega
        · exact ih
  intro l
  induction l with
  | nil => intro a h; cases h
  | cons x l ih =>
    intro a ha h1 h2
    simp only [List.filter_cons]
    rcases List.mem_cons.1 ha with rfl | ha
    · rw [if_pos h1, if_neg (by rw [h2]; simp)]
      have := le l
      simp; omega
    · have := ih ha h1 h2
      by_cases h : q x = true
      · rw [if_pos h, if_pos (hpq x h)]; simp; exact this
      · rw [if_neg h]
        split
        · simp; omega
        · exact this
theorem Tk.unf_set {t : Tk} {f : Nd → Option Nat} {p : Nd} {k : Nat} (hp : t.inP p) (hf : f p = none) : t.unf (fSet f p k) + 1 ≤ t.unf f := by
  obtain ⟨y, x⟩ := p
  refine filter_lt (fun q hq => ?_) (a := (y, x)) (nodesP_mem.2 ⟨hp.1, hp.2.1⟩) (by simp [hf]) (by simp [fSet])
  simp only [fSet] at hq
  split at hq
  · cases hq
  · exact hq
theorem Tk.unf_le {t : Tk} (ok : OkT t) (f : Nd → Option Nat) : t.unf f ≤ 144 := by
  unfold Tk.unf
  have h1 := List.length_filter_le (fun p => (f p).isNone) (nodesP t.ter.length t.W)
  rw [nodesP_len] at h1
  have := Nat.mul_le_mul ok.h1.2 ok.w1.2
  omega
section
variable {O : Oracle} {I : Iter} {N n : Nat}
/-- Where the result is not known ahead. -/
theorem runZ_ofE {α : Type} {M : Tab} {f : Nat} {rs : List MRes} {b : MC} {args : List MV} {p : α → Prop} {m : α → MV} {news : α → MHeap} (hmf : M.mf f = some ⟨n, rs, b⟩) (hn : args.length ≤ n)
    (hE : Ef O I N n (fun _ => false) b (argsL 0 args) [] (fun x A h => ∃ a, p a ∧ FinF rs (m a) (news a) x A h)) : ∃ a, p a ∧ runZ M O I N f args [] = some (m a, news a) := by
  obtain ⟨x, s', h', k1, A', k2, a, hp, hx, vs, vs', r1, r2, r3, r4⟩ := hE.run (args ++ List.replicate (n - args.length) (.lit undef)) ⟨by simp; omega, fun t v ht => by
    obtain ⟨_, h1⟩ := look_args _ _ _ _ ht
    rw [Nat.sub_zero] at h1
    have hl := (List.getElem?_eq_some_iff.1 h1).1
    rw [List.getD_eq_getElem?_getD, List.getElem?_append_left hl, h1]
    rfl⟩
  refine ⟨a, hp, ?_⟩
  unfold runZ
  rw [hmf]
  unfold runF
  have elk : (fun id => decide (id < ([] : MHeap).length)) = fun _ => false := by funext id; simp
  dsimp only
  rw [elk, k1]
  have hx' : x = .ret ∨ x = .normal := by cases x <;> simp [outX] at hx <;> simp
  dsimp only
  rw [if_pos hx', ResVs.ok k2 r1]
  simp only [List.length_nil, r2, if_true, r3, r4, List.nil_append]
end
abbrev stH (t : Tk) (s : Nd) (L : List (Nd × Nat)) (U : List Nd) (i n gen : Nat) : MHeap := [⟨0, false, 9, [encO t]⟩, ⟨0, false, 2, [posM s]⟩, ⟨0, true, 1, [.tup (L.map entM)]⟩, ⟨0, false, 1, [.mp 2 0]⟩, ⟨gen, false, 2, U.map posM⟩, ⟨0, false, 1, [.arr 4 i n gen]⟩]
theorem entM_lt (k : Nat) (L : List (Nd × Nat)) : ltL k (L.map entM) = true := ltL_iff'.2 fun m hm => by
  obtain ⟨e, _, rfl⟩ := List.mem_map.1 hm
  simp [entM, MV.lt, ltL, posM]
theorem stH_lt (t : Tk) (s : Nd) (L : List (Nd × Nat)) (U : List Nd) (i n gen k : Nat) (hk : 6 ≤ k) : hltL k (stH t s L U i n gen) = true := by
  simp only [hltL, List.all_cons, List.all_nil, Bool.and_true, ltL, MV.lt, encO_lt, entM_lt, ltL_P, ltL_W, ltL_I, ltL_B, Bool.true_and, Bool.and_eq_true, decide_eq_true_eq]
  exact ⟨by omega, by omega⟩
theorem stH_cl (t : Tk) (s : Nd) (L : List (Nd × Nat)) (U : List Nd) (i n gen : Nat) (p : Nd) (X : MHeap) : Cl 7 (stH t s L U i n gen ++ [⟨0, false, 2, [posM p]⟩] ++ X) := by
  refine ⟨by simp, fun j o hj ho => ?_⟩
  rw [List.getElem?_append_left (by simp; omega)] at ho
  rcases List.mem_append.1 (List.mem_of_getElem? ho) with hm | hm
  · exact List.all_eq_true.1 (stH_lt t s L U i n gen 7 (by omega)) _ hm
  · rw [List.mem_singleton] at hm
    subst hm
    rfl
theorem stH_cl6 (t : Tk) (s : Nd) (L : List (Nd × Nat)) (U : List Nd) (i n gen : Nat) (Y X : MHeap) : Cl 6 (stH t s L U i n gen ++ Y ++ X) := by
  refine ⟨by simp, fun j o hj ho => ?_⟩
  rw [List.append_assoc, List.getElem?_append_left (by simp; omega)] at ho
  exact List.all_eq_true.1 (stH_lt t s L U i n gen 6 (by omega)) _ (List.mem_of_getElem? ho)
/-- The state between two rounds. -/
structure StI (t : Tk) (s : Nd) (L : List (Nd × Nat)) (U : List Nd) (i : Nat) (Q : List Nd) (c : Option Nd) : Prop where
  bf : BfI t s (mF L) Q c
  dr : U.drop i = Q
  le : i ≤ U.length
  ul : U.length + t.unf (mF L) ≤ 145
  vl : ∀ p k, mF L p = some k → k + t.unf (mF L) ≤ 144
theorem StI.ql {t : Tk} {s : Nd} {L : List (Nd × Nat)} {U Q : List Nd} {i : Nat} {c : Option Nd} (h : StI t s L U i Q c) : i + Q.length = U.length := by
  have := h.le
  rw [← h.dr, List.length_drop]; omega
theorem StI.start {t : Tk} (ok : OkT t) {s : Nd} (hs : t.inP s) : StI t s [(s, 0)] [s] 0 [s] none := by
  have e : mF [(s, 0)] = fSet (fun _ => none) s 0 := by funext p; simp [mF, fSet]
  have h1 := Tk.unf_set (t := t) (f := fun _ => none) (k := 0) hs rfl
  have h2 := Tk.unf_le ok (fun _ => none)
  refine ⟨by rw [e]; exact BfI.start hs, rfl, by simp, by rw [e]; simp; omega, fun p k hp => ?_⟩
  rw [e] at hp ⊢
  simp only [fSet] at hp
  split at hp
  · cases hp; omega
  · cases hp
theorem StI.pop {t : Tk} {s n : Nd} {L : List (Nd × Nat)} {U Q : List Nd} {i : Nat} (h : StI t s L U i (n :: Q) none) : StI t s L U (i + 1) Q (some n) := by
  have hq := h.ql
  refine ⟨h.bf.pop, ?_, by simp at hq; omega, h.ul, h.vl⟩
  rw [← List.drop_drop, h.dr]; rfl
theorem StI.more {t : Tk} {s n m : Nd} {L : List (Nd × Nat)} {U Q : List Nd} {i k0 : Nat} (h : StI t s L U i Q (some n)) (hk : mF L n = some k0) (hn : t.NbP n m) (hm : mF L m = none) : StI t s (L ++ [(m, k0 + 1)]) (Q ++ [m]) 0 (Q ++ [m]) (some n) := by
  have hq := h.ql
  have h1 := Tk.unf_set (t := t) (f := mF L) (k := k0 + 1) hn.inP hm
  have hul := h.ul
  have hv := h.vl n k0 hk
  rw [← mF_app hm] at h1
  refine ⟨by rw [mF_app hm]; exact h.bf.more hk hn hm, rfl, by simp, by simp only [List.length_append, List.length_cons, List.length_nil]; omega, fun p k hp => ?_⟩
  rw [mF_app hm] at hp
  simp only [fSet] at hp
  split at hp
  · cases hp; omega
  · have := h.vl p k hp; omega
theorem StI.close {t : Tk} {s n : Nd} {L : List (Nd × Nat)} {U Q : List Nd} {i : Nat} (h : StI t s L U i Q (some n)) (hs : ∀ q, t.NbP n q → ∃ j, mF L q = some j) : StI t s L U i Q none :=
  ⟨h.bf.close hs, h.dr, h.le, h.ul, h.vl⟩
theorem mf_steps : MT.mf 120 = some ⟨47, [(.tmp 4)], (.seq (.reg [⟨none, (some 2), (.box 9 (.s 0))⟩, ⟨none, (some 3), (.box 2 (.s 1))⟩, ⟨none, (some 4), (.mv (.c (.lit (.map none))))⟩]) (.seq (.reg [⟨none, (some 11), .mkm⟩, ⟨none, (some 12), (.ld (some 2) (.s 3))⟩, ⟨none, none, (.mup 2 (.s 11) (.s 12) (.c (.lit (.int .i64 0))))⟩, ⟨none, (some 13), (.mv (.s 11))⟩, ⟨none, (some 5), (.new (.lit (.map none)))⟩, ⟨none, none, (.st 1 (.s 5) (.s 13))⟩]) (.seq (.reg [⟨none, (some 14), (.ld (some 2) (.s 3))⟩, ⟨none, (some 15), (.bsl (.agg [(.lit (.int .i64 0)), (.lit (.int .i64 0))]) 2 1 [(0, (.s 14))])⟩, ⟨none, (some 6), (.new (.lit (.slice none 0 0)))⟩, ⟨none, none, (.st 1 (.s 6) (.s 15))⟩]) (.seq (.block 0 (.loop [6, 2, 5] (.seq (.seq (.reg [⟨none, (some 16), (.ld none (.s 6))⟩, ⟨none, (some 17), (.len (.s 16))⟩, ⟨none, (some 18), (.bin .gtr (.s 17) (.c (.lit (.int .i64 0))))⟩]) (.cond (.s 18) .skip (.exit 0))) (.block 1 (.seq (.reg [⟨none, (some 19), (.ld none (.s 6))⟩, ⟨none, (some 20), (.ia 2 (.s 19) (.c (.lit (.int .i64 0))))⟩, ⟨none, (some 21), (.ld (some 2) (.s 20))⟩, ⟨none, (some 7), (.new (.agg [(.lit (.int .i64 0)), (.lit (.int .i64 0))]))⟩, ⟨none, none, (.st 2 (.s 7) (.s 21))⟩]) (.seq (.reg [⟨none, (some 22), (.ld none (.s 6))⟩, ⟨none, (some 23), (.slc 2 (.s 22) (some (.c (.lit (.int .i64 1)))) none)⟩, ⟨none, none, (.st 1 (.s 6) (.s 23))⟩]) (.seq (.reg [⟨none, (some 24), (.ld (some 9) (.s 2))⟩, ⟨none, (some 25), (.ld (some 2) (.s 7))⟩, ⟨none, (some 26), (.call 154 [(.s 24), (.s 25)])⟩]) (.block 2 (.rf [5, 7, 6] (.s 26) [27] (.reg [⟨none, (some 8), (.new (.agg [(.lit (.int .i64 0)), (.lit (.int .i64 0))]))⟩, ⟨none, none, (.st 2 (.s 8) (.s 27))⟩]) (.block 3 (.seq (.reg [⟨none, (some 29), (.ld none (.s 5))⟩, ⟨none, (some 30), (.ld (some 2) (.s 8))⟩, ⟨none, (some 31), (.mlk 2 (.lit (.int .i64 0)) true (.s 29) (.s 30))⟩, ⟨none, (some 28), (.mv (.s 31))⟩, ⟨none, (some 32), (.ext (.s 28) 0)⟩, ⟨none, (some 33), (.ext (.s 28) 1)⟩, ⟨none, (some 9), (.mv (.s 32))⟩, ⟨none, (some 10), (.mv (.s 33))⟩]) (.seq (.reg [⟨none, (some 34), (.mv (.s 10))⟩, ⟨none, (some 35), (.un .not (.s 34))⟩]) (.cond (.s 35) (.seq (.reg [⟨none, (some 36), (.ld none (.s 5))⟩, ⟨none, (some 37), (.ld (some 2) (.s 8))⟩, ⟨none, (some 38), (.ld none (.s 5))⟩, ⟨none, (some 39), (.ld (some 2) (.s 7))⟩, ⟨none, (some 40), (.mlk 2 (.lit (.int .i64 0)) false (.s 38) (.s 39))⟩, ⟨none, (some 41), (.bin .add (.s 40) (.c (.lit (.int .i64 1))))⟩, ⟨none, none, (.mup 2 (.s 36) (.s 37) (.s 41))⟩]) (.reg [⟨none, (some 42), (.ld none (.s 6))⟩, ⟨none, (some 43), (.ld (some 2) (.s 8))⟩, ⟨none, (some 44), (.bsl (.agg [(.lit (.int .i64 0)), (.lit (.int .i64 0))]) 2 1 [(0, (.s 43))])⟩, ⟨none, (some 45), (.app 2 (.s 42) (.s 44))⟩, ⟨none, none, (.st 1 (.s 6) (.s 45))⟩])) .skip))))))))))))) (.seq (.reg [⟨none, (some 46), (.ld none (.s 5))⟩, ⟨none, (some 4), (.mv (.s 46))⟩]) .ret)))))⟩ := by kernel_rfl
set_option maxHeartbeats 4000000 in
theorem steps_z (k : Nat) (t : Tk) (ok : OkT t) {s : Nd} (hs : t.inP s) : ∃ L, (Dst t s (mF L) ∧ ∀ p k, mF L p = some k → k ≤ 144) ∧ runZ MT (orA (k + 4)) (itA (k + 4)) 4000000 120 [encO t, posM s] [] = some (.rm (L.map entM), []) := by
  obtain ⟨h1, h2⟩ := ok.h1
  obtain ⟨w1, w2⟩ := ok.w1
  -- runZ_of mf_steps
  refine runZ_ofE (p := fun L => Dst t s (mF L) ∧ ∀ p k, mF L p = some k → k ≤ 144) (m := fun L => .rm (L.map entM)) (news := fun _ => []) mf_steps (by simp) ?_
  simp only [argsL]
  repeat (first | apply ef_seq | (apply ef_mv; exact rfl; exact rfl) | (apply ef_ldp; exact rfl; exact rfl; (exact rfl); exact rfl; (exact rfl); (exact rd_2 rfl rfl)) | (apply ef_box; exact rfl; exact rfl; exact rfl; exact rfl) | (apply ef_newst; exact rfl; exact rfl; exact rfl; exact rfl; exact rfl) | (apply ef_bsl; exact rfl; (repeat (apply XVs.cons; exact rfl)); exact XVs.nil; exact rfl) | (apply ef_mkm; exact rfl) | (apply ef_mup; exact rfl; exact rfl; exact rfl; (exact rfl); exact rfl; exact rfl; (exact rfl)) | apply ef_nil | apply seqQ.normal | apply ef_block)
  refine ef_loopg (α := List (Nd × Nat) × List Nd × Nat × List Nd × Nat) (fun a => StI t s a.1 a.2.1 a.2.2.1 a.2.2.2.1 none) (fun _ => []) [(6, .ptr 5 0 0 0), (2, .ptr 0 0 0 0), (5, .ptr 3 0 0 0)] (fun a => stH t s a.1 a.2.1 a.2.2.1 a.2.2.2.1.length a.2.2.2.2) (fun a => a.2.2.2.1.length + t.unf (mF a.1))
    ([(s, 0)], [s], 0, [s], 0) [] (fun _ => rfl) (by ((repeat (refine Hold.cons (by exact rfl) ?_)); exact Hold.nil)) (by ((repeat (refine Hold.cons (by exact rfl) ?_)); exact Hold.nil)) rfl rfl rfl (StI.start ok hs) (by have := Tk.unf_le ok (mF [(s, 0)]); simp only [List.length_cons, List.length_nil]; omega) ?_
  rintro ⟨L, U, i, Q, gen⟩ hI
  simp only at hI ⊢
  cases Q with
  | nil =>
    repeat (first | apply ef_seq | (apply ef_mv; exact rfl; exact rfl) | (apply ef_bin; exact rfl; exact rfl; exact rfl; (exact rfl)) | (apply ef_len; exact rfl; exact rfl; (exact rfl)) | (apply ef_ldp; exact rfl; exact rfl; (exact rfl); exact rfl; (exact rfl); (exact rfl)) | apply ef_nil | apply seqQ.normal | apply loopQ.exit | apply ef_ret | apply ef_exit | apply seqQ.exit | apply blockQ.here | (apply ef_condf; exact rfl; (exact (rfl : false = false))))
    exact ⟨L, ⟨hI.bf.done, fun p k hp => by have := hI.vl p k hp; omega⟩, fin_frz rfl (by exact rfl) rfl (fun _ _ _ _ h => by cases h) (by simp [frz, MV.lt, entM_lt])⟩
  | cons q Q =>
    obtain ⟨y, x⟩ := q
    have hp := hI.pop
    have hql := hI.ql
    have hul := hI.ul
    have hok : MHeap.ok (stH t s L U i ((y, x) :: Q).length gen) 4 gen 2 = true := ok_of (by exact rfl) rfl rfl
    have hok1 : MHeap.ok (stH t s L U i ((y, x) :: Q).length gen ++ [(⟨0, false, 2, [posM (y, x)]⟩ : MObj)]) 4 gen 2 = true := ok_of (by exact rfl) rfl rfl
    have hel : (U.map posM)[i + (0 : Int).toNat]? = some (posM (y, x)) := by
      have e := congrArg (fun l => l[0]?) hI.dr
      simp only [List.getElem?_drop, List.getElem?_cons_zero, Nat.add_zero] at e
      simp [e]
    obtain ⟨k0, hk0⟩ := hI.bf.mem (y, x) List.mem_cons_self
    have hin := hI.bf.rng _ _ hk0
    have hlq : ((y, x) :: Q).length = Q.length + 1 := rfl
    repeat (first | apply ef_seq | (apply ef_bin; exact rfl; exact rfl; exact rfl; (exact cmp_t rfl (by first | exact rfl | (simp only [cmpP]; omega)))) | (apply ef_len; exact rfl; exact rfl; (exact rfl)) | (apply ef_ldp; exact rfl; exact rfl; (exact rfl); exact rfl; (first | exact rfl | assumption); (first | exact rd_2 rfl rfl | exact rfl)) | (apply ef_iaa; exact rfl; exact rfl; exact rfl; (omega); (omega); (assumption)) | (apply ef_newst; exact rfl; exact rfl; exact rfl; exact rfl; exact rfl) | apply ef_nil | apply seqQ.normal | apply ef_block | apply ef_skip | (apply ef_condt; exact rfl; (exact (rfl : true = true))))
    refine ef_slca1 (ht := by exact rfl) (l := 1) (m := ((y, x) :: Q).length) (by exact rfl) (by exact rfl) (by omega) hok1 ?_
    (apply ef_st; (· exact rfl); (· exact rfl); (· exact rfl); (· exact rfl); (· exact rfl); (· exact rfl); (· exact rfl); (· exact rfl))
    show Ef _ _ _ _ _ _ _ (stH t s L U (i + 1) Q.length gen ++ [⟨0, false, 2, [posM (y, x)]⟩]) _
    repeat (first | apply ef_seq | (apply ef_ldp; exact rfl; exact rfl; (exact rfl); exact rfl; (exact rfl); (first | exact rd_2 rfl rfl | exact rd_whole rfl)) | apply ef_nil | apply seqQ.normal | apply ef_block | (apply ef_call; exact rfl; ((repeat (apply XVs.cons; exact rfl)); exact XVs.nil); (with_reducible exact neighbours_c (k + 3) t _)))
    refine ef_rf (α := List (Nd × Nat) × List Nd × Nat × List Nd × Nat × MHeap) (ids := [])
      (fun j a => StI t s a.1 a.2.1 a.2.2.1 a.2.2.2.1 (some (y, x)) ∧ mF a.1 (y, x) = some k0 ∧ (∀ p ∈ (t.nbL y x).take j, ∃ i, mF a.1 p = some i) ∧ a.2.2.2.1.length + t.unf (mF a.1) ≤ Q.length + t.unf (mF L))
      [(5, .ptr 3 0 0 0), (7, .ptr 6 0 0 0), (6, .ptr 5 0 0 0)] (fun a => stH t s a.1 a.2.1 a.2.2.1 a.2.2.2.1.length a.2.2.2.2.1 ++ [⟨0, false, 2, [posM (y, x)]⟩] ++ a.2.2.2.2.2) (fun a => stH t s a.1 a.2.1 a.2.2.1 a.2.2.2.1.length a.2.2.2.2.1 ++ [⟨0, false, 2, [posM (y, x)]⟩])
      (L, U, i + 1, Q, gen, []) (by exact rfl) (neighbours1_it (k + 2) t ok hin.1 hin.2.1 _) (by simp [posY]) (idsL_lt0 (by simp [ltL, MV.lt, ltL_I, ltL_W, ltL_B])) (by ((repeat (refine Hold.cons (by exact rfl) ?_)); exact Hold.nil)) rfl rfl rfl
      ⟨hp, hk0, by simp, Nat.le_refl _⟩ rfl ?_ ?_ ?_
    · rintro j ⟨L', U', i', Q', gen', X⟩ _
      simp only
      have e : stH t s L' U' i' Q'.length gen' ++ [(⟨0, false, 2, [posM (y, x)]⟩ : MObj)] = (stH t s L' U' i' Q'.length gen' ++ [(⟨0, false, 2, [posM (y, x)]⟩ : MObj)] ++ X).take 7 := by rfl
      refine e ▸ HeadIs.tk (m := 7) ?_ fun u hu => ?_
      · exact stH_cl t s L' U' i' Q'.length gen' (y, x) X
      · simp only [List.mem_cons, List.not_mem_nil, or_false] at hu
        rcases hu with rfl | rfl | rfl
        · exact ⟨.ptr 3 0 0 0, by exact rfl, rfl⟩
        · exact ⟨.ptr 6 0 0 0, by exact rfl, rfl⟩
        · exact ⟨.ptr 5 0 0 0, by exact rfl, rfl⟩
    · rintro j ⟨L', U', i', Q', gen', X⟩ x' hx' ⟨hI', hk', hall, hms⟩
      simp only at hI' hk' hall hms ⊢
      obtain ⟨⟨y1, x1⟩, hp1, rfl⟩ : ∃ p, (t.nbL y x)[j]? = some p ∧ x' = [posM p] := by
        simp only [posY, List.getElem?_map, Option.map_eq_some_iff] at hx'
        obtain ⟨w, h1, h2⟩ := hx'
        exact ⟨w, h1, h2.symm⟩
      have hnb := (Tk.nbL_mem hin.1 hin.2.1).1 (List.mem_of_getElem? hp1)
      have htk : (t.nbL y x).take (j + 1) = (t.nbL y x).take j ++ [(y1, x1)] := by rw [List.take_add_one, hp1]; rfl
      simp only [putA]
      clear hx' X
      have hv := hI'.vl _ _ hk'
      have hul' := hI'.ul
      have hql' := hI'.ql
      obtain ⟨j2, hf2⟩ := mfind_some hk'
      repeat (first | (apply ef_newst; exact rfl; exact rfl; exact rfl; exact rfl; exact rfl) | apply ef_nil)
      apply preQ.normal
      cases hm : mF L' (y1, x1) with
      | none =>
        have hf1 := mfind_none hm
        repeat (first | apply ef_seq | (apply ef_mv; exact rfl; exact rfl) | (apply ef_bin; exact rfl; exact rfl; exact rfl; (((with_reducible refine bin_add (wrap_of ?_ ?_)) <;> omega))) | (apply ef_ldp; exact rfl; exact rfl; (exact rfl); exact rfl; (exact rfl); (first | exact rd_2 rfl rfl | exact rfl)) | (apply ef_notF; exact rfl; exact rfl) | (apply ef_ext; exact rfl; exact rfl; exact rfl) | (apply ef_bsl; exact rfl; (repeat (apply XVs.cons; exact rfl)); exact XVs.nil; exact rfl) | (apply ef_mlk; exact rfl; exact rfl; exact rfl; (exact rfl); exact rfl; (assumption); exact rfl) | (apply ef_mup; exact rfl; exact rfl; exact rfl; (exact rfl); exact rfl; exact rfl; (assumption)) | apply ef_nil | apply seqQ.normal | apply ef_block | (apply ef_condt; exact rfl; (exact (rfl : true = true))))
        refine ef_app (ht := by exact rfl) (o := ⟨gen', false, 2, U'.map posM⟩) (v := .arr 8 0 1 0) (e := posM (y1, x1)) (xs := []) (by exact rfl) (by exact rfl) (by exact rfl) (by exact rfl) rfl (by simp; omega) rfl (by simp; omega) rfl rfl ?_
        refine ef_st (o := ⟨0, false, 1, [.arr 4 i' Q'.length gen']⟩) look_here rfl (by exact rfl) (by exact rfl) rfl rfl rfl rfl ?_
        repeat (first | apply ef_nil | apply blockQ.normal)
        apply rfQ.normal
        have hm2 := hI'.more hk' hnb hm
        have hu := Tk.unf_set (t := t) (f := mF L') (k := k0 + 1) (p := (y1, x1)) (Tk.NbP.inP (p := (y, x)) hnb) hm
        rw [← mF_app hm] at hu
        have e1 : (L' ++ [((y1, x1), k0 + 1)]).map entM = L'.map entM ++ [.tup [posM (y1, x1), I64 ((k0 : Int) + 1)]] := by simp [entM]
        have e2 : (Q' ++ [(y1, x1)]).map posM = (U'.map posM).drop i' ++ [posM (y1, x1)] := by rw [List.map_append, ← hI'.dr, List.map_drop]; rfl
        have e3 : (Q' ++ [(y1, x1)]).length = Q'.length + 1 := by simp
        refine ⟨(L' ++ [((y1, x1), k0 + 1)], Q' ++ [(y1, x1)], 0, Q' ++ [(y1, x1)], gen' + 1, [⟨0, false, 2, [posM (y1, x1)]⟩, ⟨0, false, 2, [posM (y1, x1)]⟩]), ⟨hm2, ?_, fun p hp => ?_, ?_⟩, ?_⟩
        · simp only
          rw [mF_app hm]
          simp only [fSet]
          rw [if_neg (fun e => by rw [← e, hk'] at hm; cases hm)]
          exact hk'
        · simp only at hp ⊢
          rw [mF_app hm]
          simp only [fSet]
          by_cases e : p = (y1, x1)
          · rw [if_pos e]; exact ⟨_, rfl⟩
          · rw [if_neg e]
            rw [htk, List.mem_append] at hp
            rcases hp with hp | hp
            · exact hall p hp
            · rw [List.mem_singleton] at hp
              exact absurd hp e
        · simp only
          rw [e3]; omega
        · simp only
          unfold stH
          rw [e1, e2, e3]
          rfl
      | some k1 =>
        obtain ⟨j1, hf1⟩ := mfind_some hm
        repeat (first | apply ef_seq | (apply ef_mv; exact rfl; exact rfl) | (apply ef_ldp; exact rfl; exact rfl; (exact rfl); exact rfl; (exact rfl); (first | exact rd_2 rfl rfl | exact rfl)) | (apply ef_notT; exact rfl; exact rfl) | (apply ef_ext; exact rfl; exact rfl; exact rfl) | (apply ef_mlk; exact rfl; exact rfl; exact rfl; (exact rfl); exact rfl; (assumption); exact rfl) | apply ef_nil | apply seqQ.normal | apply blockQ.normal | apply ef_block | apply ef_skip | (apply ef_condf; exact rfl; (exact (rfl : false = false))))
        apply rfQ.normal
        refine ⟨(L', U', i', Q', gen', [⟨0, false, 2, [posM (y1, x1)]⟩]), ⟨hI', hk', fun p hp => ?_, hms⟩, rfl⟩
        simp only at hp ⊢
        rw [htk, List.mem_append] at hp
        rcases hp with hp | hp
        · exact hall p hp
        · rw [List.mem_singleton] at hp
          subst hp
          exact ⟨k1, hm⟩
    · rintro ⟨L', U', i', Q', gen', X⟩ ⟨hI', hk', hall, hms⟩
      simp only at hI' hk' hall hms ⊢
      have hlenY : (posY (t.nbL y x)).length = (t.nbL y x).length := by simp [posY]
      rw [hlenY, List.take_length] at hall
      have hcl := hI'.close fun q hn => hall q ((Tk.nbL_mem hin.1 hin.2.1).2 hn)
      repeat (first | apply blockQ.normal)
      have e : stH t s L' U' i' Q'.length gen' = (stH t s L' U' i' Q'.length gen' ++ [(⟨0, false, 2, [posM (y, x)]⟩ : MObj)] ++ X).take 6 := by rfl
      refine loopQ.normal _ _ ⟨(L', U', i', Q', gen'), hcl, by simp only [hlq]; omega, ⟨by ((repeat (refine Hold.cons (by exact rfl) ?_)); exact Hold.nil), by ((repeat (refine Hold.cons (by exact rfl) ?_)); exact Hold.nil)⟩, e ▸ HeadIs.tk (m := 6) ?_ fun u hu => ?_⟩
      · exact stH_cl6 t s L' U' i' Q'.length gen' _ X
      · simp only [List.mem_cons, List.not_mem_nil, or_false] at hu
        rcases hu with rfl | rfl | rfl
        · exact ⟨.ptr 5 0 0 0, by exact rfl, rfl⟩
        · exact ⟨.ptr 0 0 0 0, by exact rfl, rfl⟩
        · exact ⟨.ptr 3 0 0 0, by exact rfl, rfl⟩
theorem steps_c (k : Nat) (t : Tk) (ok : OkT t) {s : Nd} (hs : t.inP s) : ∃ L, Dst t s (mF L) ∧ (∀ p k, mF L p = some k → k ≤ 144) ∧ ∀ h, orA (k + 5) 120 [encO t, posM s] h = some (.rm (L.map entM), h) := by
  obtain ⟨L, ⟨hL, hv⟩, hz⟩ := steps_z k t ok hs
  refine ⟨L, hL, hv, fun h => ?_⟩
  have := callA (k := k + 4) (h := h) (frzL_lt (ms := [encO t, posM s]) (by simp [ltL, MV.lt, ltL_I, ltL_W, ltL_B])) rfl hz (by simp [okV, ok1, ltL, ltL_I, ltL_W, ltL_B, MV.lt, entM_lt]) rfl
  simpa [shV, sh1] using this
end Go.Proofs.Ytgjpdjihjphbdaa

/- The contract of the reference's steps: distances, layer by layer. -/
namespace Go.Proofs.Ytgjpdjihjphbdaa
open Go.RowKit
set_option linter.unusedVariables false

def stI : Option Nat → Int
  | some k => (k : Int)
  | none => -1
def stG (t : Tk) (f : Nd → Option Nat) : List (List Int) := (List.range t.ter.length).map fun y => (List.range t.W).map fun x => stI (f (y, x))
theorem stG_row {t : Tk} {f : Nd → Option Nat} {y : Nat} (hy : y < t.ter.length) : (stG t f).getD y [] = (List.range t.W).map fun x => stI (f (y, x)) := by
  unfold stG
  rw [List.getD_eq_getElem?_getD, rng_get _ hy]; rfl
theorem stG_at {t : Tk} {f : Nd → Option Nat} {y x : Nat} (hy : y < t.ter.length) (hx : x < t.W) : at2 (stG t f) y x = stI (f (y, x)) := by
  unfold at2
  rw [stG_row hy, List.getD_eq_getElem?_getD, rng_get _ hx]; rfl
theorem stG_set {t : Tk} {f : Nd → Option Nat} {y x k : Nat} (hy : y < t.ter.length) : set2 (stG t f) y x (k : Int) = stG t (fSet f (y, x) k) := by
  unfold set2
  rw [stG_row hy]
  unfold stG
  rw [rng_set]
  refine rng_congr fun j hj => ?_
  by_cases h : j = y
  · subst h
    rw [if_pos rfl, rng_set]
    refine rng_congr fun i hi => ?_
    by_cases e : i = x
    · subst e; rw [if_pos rfl]; simp [fSet, stI]
    · rw [if_neg e]
      have : fSet f (j, x) k (j, i) = f (j, i) := by simp [fSet, e]
      rw [this]
  · rw [if_neg h]
    refine List.map_congr_left fun i _ => ?_
    have : fSet f (y, x) k (j, i) = f (j, i) := by simp [fSet, h]
    rw [this]
theorem stG_none {t : Tk} {y : Nat} (hy : y < t.ter.length) : (stG t fun _ => none).getD y [] = List.replicate t.W (-1) := by
  rw [stG_row hy]
  apply List.ext_getElem?
  intro j
  by_cases hj : j < t.W
  · rw [rng_get _ hj, List.getElem?_replicate, if_pos hj]; rfl
  · rw [List.getElem?_eq_none (by simp; omega), List.getElem?_replicate, if_neg hj]
/-- The memory while rows are laid. -/
def rsF (W j : Nat) : MHeap := [⟨0, false, 1, List.replicate W (I64 (-1))⟩, ⟨0, false, 1, [.arr (4 + 2 * j) 0 W 0]⟩]
def rsG (W y : Nat) : MHeap := (List.range y).flatMap (rsF W)
def rsRefs (W y : Nat) : List MV := (List.range y).map fun j => .arr (4 + 2 * j) 0 W 0
def rsH (t : Tk) (s : Nd) (y : Nat) : MHeap := [⟨0, false, 5, [encT t]⟩, ⟨0, false, 2, [posM s]⟩, ⟨0, true, 1, []⟩, ⟨y, nlN y, 1, rsRefs t.W y⟩] ++ rsG t.W y
theorem rsG_succ (W y : Nat) : rsG W (y + 1) = rsG W y ++ rsF W y := by
  unfold rsG; rw [List.range_succ, List.flatMap_append]; simp
theorem rsG_len (W : Nat) : ∀ y, (rsG W y).length = 2 * y
  | 0 => rfl
  | y + 1 => by rw [rsG_succ, List.length_append, rsG_len W y]; simp [rsF]; omega
theorem rsH_len (t : Tk) (s : Nd) (y : Nat) : (rsH t s y).length = 4 + 2 * y := by unfold rsH; rw [List.length_append, rsG_len]; rfl
theorem rsG_at (W : Nat) {j : Nat} : ∀ {y : Nat}, j < y → (rsG W y)[2 * j]? = some ⟨0, false, 1, List.replicate W (I64 (-1))⟩ ∧ (rsG W y)[2 * j + 1]? = some ⟨0, false, 1, [.arr (4 + 2 * j) 0 W 0]⟩
  | y + 1, h => by
    rw [rsG_succ]
    by_cases e : j = y
    · subst e
      have := rsG_len W j
      rw [List.getElem?_append_right (by omega), List.getElem?_append_right (by omega), this]
      rw [show 2 * j - 2 * j = 0 by omega, show 2 * j + 1 - 2 * j = 1 by omega]
      exact ⟨rfl, rfl⟩
    · have := rsG_len W y
      rw [List.getElem?_append_left (by omega), List.getElem?_append_left (by omega)]
      exact rsG_at W (by omega)
theorem rsH_row (t : Tk) (s : Nd) {j y : Nat} (h : j < y) : (rsH t s y)[4 + 2 * j]? = some ⟨0, false, 1, List.replicate t.W (I64 (-1))⟩ := by
  unfold rsH
  rw [List.getElem?_append_right (by simp; try omega)]
  rw [show 4 + 2 * j - [(⟨0, false, 5, [encT t]⟩ : MObj), ⟨0, false, 2, [posM s]⟩, ⟨0, true, 1, []⟩, ⟨y, nlN y, 1, rsRefs t.W y⟩].length = 2 * j by simp]
  exact (rsG_at t.W h).1
theorem rsH_tmp (t : Tk) (s : Nd) {j y : Nat} (h : j < y) : (rsH t s y)[5 + 2 * j]? = some ⟨0, false, 1, [.arr (4 + 2 * j) 0 t.W 0]⟩ := by
  unfold rsH
  rw [List.getElem?_append_right (by simp; try omega)]
  rw [show 5 + 2 * j - [(⟨0, false, 5, [encT t]⟩ : MObj), ⟨0, false, 2, [posM s]⟩, ⟨0, true, 1, []⟩, ⟨y, nlN y, 1, rsRefs t.W y⟩].length = 2 * j + 1 by simp; omega]
  exact (rsG_at t.W h).2
theorem rsH_succ (t : Tk) (s : Nd) (y : Nat) : List.set ((rsH t s y ++ [(⟨0, false, 1, List.replicate t.W (I64 (-1))⟩ : MObj)]) ++ [(⟨0, false, 1, [.arr (4 + 2 * y) 0 t.W 0]⟩ : MObj)]) 3 (⟨y + 1, false, 1, (rsRefs t.W y).drop 0 ++ [.arr (4 + 2 * y) 0 t.W 0]⟩ : MObj) = rsH t s (y + 1) := by
  unfold rsH
  rw [rsG_succ]
  simp [rsRefs, List.range_succ, nlN, rsF]
def negP (W x : Nat) : List MV := (List.range W).map fun j => if j < x then I64 (-1) else I64 0
theorem negP_zero (W : Nat) : negP W 0 = List.replicate W (I64 0) := by
  apply List.ext_getElem?
  intro j
  by_cases hj : j < W
  · rw [negP, rng_get _ hj, List.getElem?_replicate, if_pos hj]; rfl
  · rw [List.getElem?_eq_none (by simp [negP]; omega), List.getElem?_replicate, if_neg hj]
theorem negP_full (W : Nat) : negP W W = List.replicate W (I64 (-1)) := by
  apply List.ext_getElem?
  intro j
  by_cases hj : j < W
  · rw [negP, rng_get _ hj, List.getElem?_replicate, if_pos hj, if_pos hj]
  · rw [List.getElem?_eq_none (by simp [negP]; omega), List.getElem?_replicate, if_neg hj]
theorem negP_at {W x j : Nat} (h : j < W) : (negP W x)[j]? = some (if j < x then I64 (-1) else I64 0) := rng_get _ h
theorem negP_set {W x : Nat} : (negP W x).set x (I64 (-1)) = negP W (x + 1) := by
  unfold negP
  rw [rng_set]
  refine rng_congr fun j hj => ?_
  by_cases h : j = x
  · subst h; rw [if_pos rfl, if_pos (by omega)]
  · rw [if_neg h]
    by_cases h2 : j < x
    · rw [if_pos h2, if_pos (by omega)]
    · rw [if_neg h2, if_neg (by omega)]
theorem rsRefs_lt {W y : Nat} : ltL 4 (rsRefs W (y + 1)) = false := by
  rw [Bool.eq_false_iff]
  intro hc
  have h1 : (rsRefs W (y + 1))[0]? = some (.arr (4 + 2 * 0) 0 W 0) := rng_get _ (by omega)
  have := ltL_iff'.1 hc _ (List.mem_of_getElem? h1)
  simp [MV.lt] at this
/-- The memory of the reference's search. -/
structure RsM (t : Tk) (f : Nd → Option Nat) (h : MHeap) : Prop where
  b0 : h[0]? = some ⟨0, false, 5, [encT t]⟩
  sf : Srf 3 t.ter.length t.W t.ter.length (fun y => 4 + 2 * y) (stG t f) h
  fu : Full h
  len : 4 + 2 * t.ter.length ≤ h.length
theorem rsM0 {t : Tk} (ok : OkT t) (s : Nd) : RsM t (fun _ => none) (rsH t s t.ter.length) := by
  have h1 := ok.h1
  have hn : nlN t.ter.length = false := by
    obtain ⟨m, hm⟩ : ∃ m, t.ter.length = m + 1 := ⟨t.ter.length - 1, by omega⟩
    rw [hm]; rfl
  refine ⟨rfl, ⟨⟨rsRefs t.W t.ter.length, ?_, by simp [rsRefs], fun y hy => rng_get _ hy⟩, fun y hy => ?_, by simp [stG], fun y hy => by rw [stG_none hy]; simp, fun y y' _ _ e => ?_, fun y hy => by show 4 + 2 * y ≠ 3; omega⟩, ⟨Nat.le_refl _, fun j o hj ho => ?_⟩, by rw [rsH_len]; exact Nat.le_refl _⟩
  · have : (rsH t s t.ter.length)[3]? = some ⟨t.ter.length, nlN t.ter.length, 1, rsRefs t.W t.ter.length⟩ := rfl
    rw [this, hn]
  · rw [stG_none hy, List.map_replicate]; exact rsH_row t s hy
  · have e' : 4 + 2 * y = 4 + 2 * y' := e
    omega
  · have hL := rsH_len t s t.ter.length
    rw [hL] at hj ⊢
    by_cases h3 : j < 4
    · match j, h3 with
      | 0, _ => cases ho; simp [ltL, MV.lt, ltL_I, ltL_W]
      | 1, _ => cases ho; rfl
      | 2, _ => cases ho; rfl
      | 3, _ =>
        cases ho
        refine ltL_iff'.2 fun m hm => ?_
        obtain ⟨i, hi, rfl⟩ := List.mem_map.1 hm
        have := List.mem_range.1 hi
        simp [MV.lt]; omega
    · by_cases he : (j - 4) % 2 = 0
      · have h4 := rsH_row t s (j := (j - 4) / 2) (y := t.ter.length) (by omega)
        rw [show 4 + 2 * ((j - 4) / 2) = j by omega, ho] at h4
        cases h4
        refine ltL_iff'.2 fun m hm => ?_
        rw [List.mem_replicate] at hm
        rw [hm.2]; rfl
      · have h4 := rsH_tmp t s (j := (j - 4) / 2) (y := t.ter.length) (by omega)
        rw [show 5 + 2 * ((j - 4) / 2) = j by omega, ho] at h4
        cases h4
        simp [ltL, MV.lt]; omega
theorem RsM.put {t : Tk} {f : Nd → Option Nat} {h : MHeap} (m : RsM t f h) {y x k : Nat} (hy : y < t.ter.length) : RsM t (fSet f (y, x) k) (h.set (4 + 2 * y) ⟨0, false, 1, (((stG t f).getD y []).map I64).set x (I64 (k : Int))⟩) := by
  have hl : ∀ n, ltL n ((((stG t f).getD y []).map I64).set x (I64 (k : Int))) = true := fun n => by
    rw [show (((stG t f).getD y []).map I64).set x (I64 (k : Int)) = (((stG t f).getD y []).set x (k : Int)).map I64 by rw [List.map_set]]; exact ltL_I n _
  exact ⟨by rw [List.getElem?_set_ne (by omega)]; exact m.b0, by have := m.sf.put (x := x) (v := (k : Int)) hy; rwa [stG_set hy] at this, m.fu.set (hl _), by rw [List.length_set]; exact m.len⟩
theorem RsM.app1 {t : Tk} {f : Nd → Option Nat} {h : MHeap} (m : RsM t f h) (o : MObj) (ho : ltL (h.length + 1) o.es = true) : RsM t f (h ++ [o]) :=
  ⟨at_app m.b0 _, m.sf.app _, m.fu.app1 ho, by rw [List.length_append]; have := m.len; omega⟩
theorem RsM.other {t : Tk} {f : Nd → Option Nat} {h : MHeap} (m : RsM t f h) {i : Nat} {o : MObj} (hi : 4 + 2 * t.ter.length ≤ i) (ho : ltL h.length o.es = true) : RsM t f (h.set i o) :=
  ⟨by rw [List.getElem?_set_ne (by omega)]; exact m.b0, m.sf.other (by omega) (fun y hy => by omega), m.fu.set ho, by rw [List.length_set]; exact m.len⟩
/-- The state within a layer. -/
structure RsI (t : Tk) (s : Nd) (now : List Nd) (lv u0 idn gn : Nat) (nl : Bool) (hl : Nat) (f : Nd → Option Nat) (next : List Nd) (h : MHeap) (D : Nd → Prop) : Prop where
  ly : LyJ t s f now next lv D
  mm : RsM t f h
  nw : h[idn]? = some ⟨gn, nl, 2, now.map posM⟩
  nx : h[hl]? = some ⟨next.length, nlN next.length, 2, next.map posM⟩
  ln : h.length = hl + 1
  vl : ∀ p k, f p = some k → k + t.unf f ≤ 144
  mu : next.length + t.unf f ≤ u0
theorem RsI.cl {t : Tk} {s : Nd} {now : List Nd} {lv u0 idn gn : Nat} {nl : Bool} {hl : Nat} {f : Nd → Option Nat} {next : List Nd} {h : MHeap} {D : Nd → Prop} (m : RsI t s now lv u0 idn gn nl hl f next h D) : Cl (hl + 1) h := by
  have := m.mm.fu
  unfold Full at this
  rwa [m.ln] at this
theorem RsI.cl1 {t : Tk} {s : Nd} {now : List Nd} {lv u0 idn gn : Nat} {nl : Bool} {hl : Nat} {f : Nd → Option Nat} {next : List Nd} {h : MHeap} {D : Nd → Prop} (m : RsI t s now lv u0 idn gn nl hl f next h D) (o : MObj) (ho : ∀ n, ltL n o.es = true) : Cl (hl + 2) (h ++ [o]) := by
  have := m.mm.fu.app1 (o := o) (ho _)
  unfold Full at this
  rwa [List.length_append, m.ln] at this
theorem ltL_pos (n : Nat) (Q : List Nd) : ltL n (Q.map posM) = true := ltL_P n Q
theorem RsI.more {t : Tk} {s : Nd} {now : List Nd} {lv u0 idn gn : Nat} {nl : Bool} {hl : Nat} {f : Nd → Option Nat} {next : List Nd} {h : MHeap} {D : Nd → Prop} (m : RsI t s now lv u0 idn gn nl hl f next h D) {n : Nd} {y x : Nat} (hk : f n = some lv) (hn : t.NbP n (y, x)) (hm : f (y, x) = none) (hi : 4 + 2 * t.ter.length ≤ idn) (hih : idn < hl) :
    RsI t s now lv u0 idn gn nl hl (fSet f (y, x) (lv + 1)) (next ++ [(y, x)]) ((h.set (4 + 2 * y) ⟨0, false, 1, (((stG t f).getD y []).map I64).set x (I64 ((lv + 1 : Nat) : Int))⟩).set hl ⟨next.length + 1, false, 2, (next.map posM).drop 0 ++ [posM (y, x)]⟩) D := by
  have hy : y < t.ter.length := hn.1
  have hu := Tk.unf_set (t := t) (f := f) (p := (y, x)) (k := lv + 1) hn.inP hm
  have hv := m.vl n lv hk
  have hmu := m.mu
  have hln := m.ln
  have he : (next.map posM).drop 0 ++ [posM (y, x)] = (next ++ [(y, x)]).map posM := by simp
  have m1 := m.mm.put (x := x) (k := lv + 1) hy
  rw [he]
  refine ⟨m.ly.more hk hn hm, m1.other (by omega) (ltL_pos _ _), ?_, ?_, by simp; exact hln, fun p k hp => ?_, ?_⟩
  · rw [List.getElem?_set_ne (by omega), List.getElem?_set_ne (by omega)]; exact m.nw
  · rw [List.getElem?_set_self (by simp; omega)]
    simp [nlN]
  · simp only [fSet] at hp
    split at hp
    · cases hp; omega
    · have := m.vl p k hp; omega
  · simp only [List.length_append, List.length_cons, List.length_nil]; omega
theorem RsI.weak {t : Tk} {s : Nd} {now : List Nd} {lv u0 idn gn : Nat} {nl : Bool} {hl : Nat} {f : Nd → Option Nat} {next : List Nd} {h : MHeap} {D D' : Nd → Prop} (m : RsI t s now lv u0 idn gn nl hl f next h D) (hD : ∀ p, D' p → D p ∨ ∀ q, t.NbP p q → ∃ j, f q = some j) : RsI t s now lv u0 idn gn nl hl f next h D' :=
  ⟨m.ly.weak hD, m.mm, m.nw, m.nx, m.ln, m.vl, m.mu⟩
theorem mf_rSteps : MT.mf 50 = some ⟨132, [(.tmp 4)], (.seq (.reg [⟨none, (some 2), (.box 5 (.s 0))⟩, ⟨none, (some 3), (.box 2 (.s 1))⟩, ⟨none, (some 4), (.nil0 1)⟩]) (.seq (.reg [⟨none, (some 5), (.nil0 1)⟩]) (.seq (.seq (.reg [⟨none, (some 6), (.mv (.c (.lit (.int .i64 0))))⟩]) (.block 0 (.loop [6, 2, 5, 3] (.seq (.seq (.reg [⟨none, (some 14), (.mv (.s 6))⟩, ⟨none, (some 15), (.fa 0 (.s 2))⟩, ⟨none, (some 16), (.ld none (.s 15))⟩, ⟨none, (some 17), (.len (.s 16))⟩, ⟨none, (some 18), (.bin .lss (.s 14) (.s 17))⟩]) (.cond (.s 18) .skip (.exit 0))) (.seq (.block 1 (.seq (.reg [⟨none, (some 21), (.fa 0 (.s 2))⟩, ⟨none, (some 22), (.ld none (.s 21))⟩, ⟨none, (some 23), (.ia 1 (.s 22) (.c (.lit (.int .i64 0))))⟩, ⟨none, (some 24), (.ld none (.s 23))⟩, ⟨none, (some 25), (.len (.s 24))⟩, ⟨none, (some 26), (.mks (.lit (.int .i64 0)) (.s 25))⟩, ⟨none, (some 7), (.mv (.s 26))⟩]) (.seq (.seq (.reg [⟨none, (some 8), (.mv (.c (.lit (.int .i64 0))))⟩]) (.block 2 (.loop [8, 7, 5, 6, 2, 3] (.seq (.seq (.reg [⟨none, (some 27), (.mv (.s 8))⟩, ⟨none, (some 28), (.mv (.s 7))⟩, ⟨none, (some 29), (.len (.s 28))⟩, ⟨none, (some 30), (.bin .lss (.s 27) (.s 29))⟩]) (.cond (.s 30) .skip (.exit 2))) (.seq (.block 3 (.reg [⟨none, (some 33), (.mv (.s 7))⟩, ⟨none, (some 34), (.mv (.s 8))⟩, ⟨none, (some 35), (.ia 1 (.s 33) (.s 34))⟩, ⟨none, none, (.st 1 (.s 35) (.c (.lit (.int .i64 (-1)))))⟩])) (.reg [⟨none, (some 31), (.mv (.s 8))⟩, ⟨none, (some 32), (.bin .add (.s 31) (.c (.lit (.int .i64 1))))⟩, ⟨none, (some 8), (.mv (.s 32))⟩])))))) (.reg [⟨none, (some 36), (.mv (.s 5))⟩, ⟨none, (some 37), (.mv (.s 7))⟩, ⟨none, (some 38), (.bsl (.lit (.slice none 0 0)) 1 1 [(0, (.s 37))])⟩, ⟨none, (some 39), (.app 1 (.s 36) (.s 38))⟩, ⟨none, (some 5), (.mv (.s 39))⟩])))) (.reg [⟨none, (some 19), (.mv (.s 6))⟩, ⟨none, (some 20), (.bin .add (.s 19) (.c (.lit (.int .i64 1))))⟩, ⟨none, (some 6), (.mv (.s 20))⟩])))))) (.seq (.reg [⟨none, (some 40), (.mv (.s 5))⟩, ⟨none, (some 41), (.fa 1 (.s 3))⟩, ⟨none, (some 42), (.ld none (.s 41))⟩, ⟨none, (some 43), (.ia 1 (.s 40) (.s 42))⟩, ⟨none, (some 44), (.ld none (.s 43))⟩, ⟨none, (some 45), (.fa 0 (.s 3))⟩, ⟨none, (some 46), (.ld none (.s 45))⟩, ⟨none, (some 47), (.ia 1 (.s 44) (.s 46))⟩, ⟨none, none, (.st 1 (.s 47) (.c (.lit (.int .i64 0))))⟩]) (.seq (.reg [⟨none, (some 48), (.ld (some 2) (.s 3))⟩, ⟨none, (some 49), (.bsl (.agg [(.lit (.int .i64 0)), (.lit (.int .i64 0))]) 2 1 [(0, (.s 48))])⟩, ⟨none, (some 9), (.mv (.s 49))⟩]) (.seq (.block 4 (.loop [9, 2, 5] (.seq (.seq (.reg [⟨none, (some 50), (.mv (.s 9))⟩, ⟨none, (some 51), (.len (.s 50))⟩, ⟨none, (some 52), (.bin .gtr (.s 51) (.c (.lit (.int .i64 0))))⟩]) (.cond (.s 52) .skip (.exit 4))) (.block 5 (.seq (.reg [⟨none, (some 10), (.nil0 2)⟩]) (.seq (.seq (.reg [⟨none, (some 11), (.mv (.c (.lit (.int .i64 0))))⟩]) (.block 6 (.loop [11, 9, 2, 5, 10] (.seq (.seq (.reg [⟨none, (some 53), (.mv (.s 11))⟩, ⟨none, (some 54), (.mv (.s 9))⟩, ⟨none, (some 55), (.len (.s 54))⟩, ⟨none, (some 56), (.bin .lss (.s 53) (.s 55))⟩]) (.cond (.s 56) .skip (.exit 6))) (.seq (.block 7 (.seq (.reg [⟨none, (some 59), (.ld (some 5) (.s 2))⟩, ⟨none, (some 60), (.mv (.s 9))⟩, ⟨none, (some 61), (.mv (.s 11))⟩, ⟨none, (some 62), (.ia 2 (.s 60) (.s 61))⟩, ⟨none, (some 63), (.fa 0 (.s 62))⟩, ⟨none, (some 64), (.ld none (.s 63))⟩, ⟨none, (some 65), (.mv (.s 9))⟩, ⟨none, (some 66), (.mv (.s 11))⟩, ⟨none, (some 67), (.ia 2 (.s 65) (.s 66))⟩, ⟨none, (some 68), (.fa 1 (.s 67))⟩, ⟨none, (some 69), (.ld none (.s 68))⟩, ⟨none, (some 70), (.call 119 [(.s 59), (.s 64), (.s 69)])⟩, ⟨none, (some 12), (.mv (.s 70))⟩]) (.seq (.reg [⟨none, (some 13), (.mv (.c (.lit (.int .i64 0))))⟩]) (.block 8 (.loop [13, 12, 5, 9, 11, 10, 2] (.seq (.seq (.reg [⟨none, (some 71), (.mv (.s 13))⟩, ⟨none, (some 72), (.mv (.s 12))⟩, ⟨none, (some 73), (.len (.s 72))⟩, ⟨none, (some 74), (.bin .lss (.s 71) (.s 73))⟩]) (.cond (.s 74) .skip (.exit 8))) (.seq (.block 9 (.seq (.reg [⟨none, (some 77), (.mv (.s 5))⟩, ⟨none, (some 78), (.mv (.s 12))⟩, ⟨none, (some 79), (.mv (.s 13))⟩, ⟨none, (some 80), (.ia 2 (.s 78) (.s 79))⟩, ⟨none, (some 81), (.fa 1 (.s 80))⟩, ⟨none, (some 82), (.ld none (.s 81))⟩, ⟨none, (some 83), (.ia 1 (.s 77) (.s 82))⟩, ⟨none, (some 84), (.ld none (.s 83))⟩, ⟨none, (some 85), (.mv (.s 12))⟩, ⟨none, (some 86), (.mv (.s 13))⟩, ⟨none, (some 87), (.ia 2 (.s 85) (.s 86))⟩, ⟨none, (some 88), (.fa 0 (.s 87))⟩, ⟨none, (some 89), (.ld none (.s 88))⟩, ⟨none, (some 90), (.ia 1 (.s 84) (.s 89))⟩, ⟨none, (some 91), (.ld none (.s 90))⟩, ⟨none, (some 92), (.bin .lss (.s 91) (.c (.lit (.int .i64 0))))⟩]) (.cond (.s 92) (.seq (.reg [⟨none, (some 93), (.mv (.s 5))⟩, ⟨none, (some 94), (.mv (.s 12))⟩, ⟨none, (some 95), (.mv (.s 13))⟩, ⟨none, (some 96), (.ia 2 (.s 94) (.s 95))⟩, ⟨none, (some 97), (.fa 1 (.s 96))⟩, ⟨none, (some 98), (.ld none (.s 97))⟩, ⟨none, (some 99), (.ia 1 (.s 93) (.s 98))⟩, ⟨none, (some 100), (.ld none (.s 99))⟩, ⟨none, (some 101), (.mv (.s 12))⟩, ⟨none, (some 102), (.mv (.s 13))⟩, ⟨none, (some 103), (.ia 2 (.s 101) (.s 102))⟩, ⟨none, (some 104), (.fa 0 (.s 103))⟩, ⟨none, (some 105), (.ld none (.s 104))⟩, ⟨none, (some 106), (.mv (.s 5))⟩, ⟨none, (some 107), (.mv (.s 9))⟩, ⟨none, (some 108), (.mv (.s 11))⟩, ⟨none, (some 109), (.ia 2 (.s 107) (.s 108))⟩, ⟨none, (some 110), (.fa 1 (.s 109))⟩, ⟨none, (some 111), (.ld none (.s 110))⟩, ⟨none, (some 112), (.ia 1 (.s 106) (.s 111))⟩, ⟨none, (some 113), (.ld none (.s 112))⟩, ⟨none, (some 114), (.mv (.s 9))⟩, ⟨none, (some 115), (.mv (.s 11))⟩, ⟨none, (some 116), (.ia 2 (.s 114) (.s 115))⟩, ⟨none, (some 117), (.fa 0 (.s 116))⟩, ⟨none, (some 118), (.ld none (.s 117))⟩, ⟨none, (some 119), (.ia 1 (.s 113) (.s 118))⟩, ⟨none, (some 120), (.ld none (.s 119))⟩, ⟨none, (some 121), (.bin .add (.s 120) (.c (.lit (.int .i64 1))))⟩, ⟨none, (some 122), (.ia 1 (.s 100) (.s 105))⟩, ⟨none, none, (.st 1 (.s 122) (.s 121))⟩]) (.reg [⟨none, (some 123), (.mv (.s 10))⟩, ⟨none, (some 124), (.mv (.s 12))⟩, ⟨none, (some 125), (.mv (.s 13))⟩, ⟨none, (some 126), (.ia 2 (.s 124) (.s 125))⟩, ⟨none, (some 127), (.ld (some 2) (.s 126))⟩, ⟨none, (some 128), (.bsl (.agg [(.lit (.int .i64 0)), (.lit (.int .i64 0))]) 2 1 [(0, (.s 127))])⟩, ⟨none, (some 129), (.app 2 (.s 123) (.s 128))⟩, ⟨none, (some 10), (.mv (.s 129))⟩])) .skip))) (.reg [⟨none, (some 75), (.mv (.s 13))⟩, ⟨none, (some 76), (.bin .add (.s 75) (.c (.lit (.int .i64 1))))⟩, ⟨none, (some 13), (.mv (.s 76))⟩])))))))) (.reg [⟨none, (some 57), (.mv (.s 11))⟩, ⟨none, (some 58), (.bin .add (.s 57) (.c (.lit (.int .i64 1))))⟩, ⟨none, (some 11), (.mv (.s 58))⟩])))))) (.reg [⟨none, (some 130), (.mv (.s 10))⟩, ⟨none, (some 9), (.mv (.s 130))⟩]))))))) (.seq (.reg [⟨none, (some 131), (.mv (.s 5))⟩, ⟨none, (some 4), (.mv (.s 131))⟩]) .ret)))))))⟩ := by kernel_rfl
end Go.Proofs.Ytgjpdjihjphbdaa

/- The contract of the reference's steps: the walk. -/
namespace Go.Proofs.Ytgjpdjihjphbdaa
open Go.RowKit
set_option linter.unusedVariables false

set_option maxHeartbeats 4000000 in
theorem rSteps_z (k : Nat) {t : Tk} (ok : OkT t) (hb : Bd t) {sy sx : Nat} (hs : t.inP (sy, sx)) {ff : Nd → Option Nat} (hD : Dst t (sy, sx) ff) : runZ MT (orA (k + 2)) (itA (k + 2)) 4000000 50 [encT t, posM (sy, sx)] [] = some (.arr 0 0 t.ter.length 0, [⟨0, false, 1, (stG t ff).map encW⟩]) := by
  obtain ⟨h1, h2⟩ := ok.h1
  obtain ⟨w1, w2⟩ := ok.w1
  have hs1 : (MV.sl (t.ter.map encW)).slen = some t.ter.length := by simp [MV.slen]
  have e0 := Tk.head h1
  have hsw := Tk.headW t
  refine runZ_of mf_rSteps (by simp) ?_
  simp only [argsL]
  repeat (first | apply ef_seq | (apply ef_mv; exact rfl; exact rfl) | (apply ef_box; exact rfl; exact rfl; exact rfl; exact rfl) | (apply ef_nil0; exact rfl) | apply ef_nil | apply seqQ.normal | apply ef_block)
  refine ef_loopg (α := Nat) (fun y => y ≤ t.ter.length) (fun y => [(6, I64 (y : Int)), (5, .arr 3 0 y y)]) [(2, .ptr 0 0 0 0), (3, .ptr 1 0 0 0)] (fun y => rsH t (sy, sx) y) (fun y => t.ter.length - y) 0 [6, 5] (fun _ => rfl) (by ((repeat (refine Hold.cons (by exact rfl) ?_)); exact Hold.nil)) (by ((repeat (refine Hold.cons (by exact rfl) ?_)); exact Hold.nil)) rfl rfl rfl (by simp) (by simp; omega) ?_
  intro y hy
  try simp only at hy ⊢
  by_cases hlt : y < t.ter.length
  · have b0 : (rsH t (sy, sx) y)[0]? = some ⟨0, false, 5, [encT t]⟩ := rfl
    have b2 : (rsH t (sy, sx) y)[3]? = some ⟨y, nlN y, 1, rsRefs t.W y⟩ := rfl
    have hlen := rsH_len t (sy, sx) y
    have HS := Lib.hid (rsH_succ t (sy, sx) y)
    generalize t.ter.getD 0 [] = r0 at e0 hsw
    generalize rsH t (sy, sx) y = H0 at b0 b2 hlen HS ⊢
    repeat (first | apply ef_seq | (apply ef_mv; exact rfl; exact rfl) | (apply ef_bin; exact rfl; exact rfl; exact rfl; (exact cmp_t rfl (by first | exact rfl | (simp only [cmpP]; omega)))) | (apply ef_len; exact rfl; exact rfl; (assumption)) | (apply ef_ldr; exact rfl; exact rfl; (exact rfl)) | (apply ef_ldp; exact rfl; exact rfl; (assumption); exact rfl; (exact rfl); (exact rfl)) | (apply ef_ias; exact rfl; exact rfl; exact rfl; (omega); assumption; exact rfl) | (apply ef_fap; exact rfl; exact rfl) | (apply ef_mks; exact rfl; exact rfl; (omega); (omega)) | apply ef_nil | apply seqQ.normal | apply ef_block | apply ef_skip | (apply ef_condt; exact rfl; (exact (rfl : true = true))))
    refine ef_loopg (α := Nat) (fun x => x ≤ t.W) (fun x => [(8, I64 (x : Int))]) [(7, .arr H0.length 0 t.W 0), (2, .ptr 0 0 0 0), (6, I64 (y : Int)), (5, .arr 3 0 y y), (3, .ptr 1 0 0 0)] (fun x => H0 ++ [⟨0, false, 1, negP t.W x⟩]) (fun x => t.W - x) 0 [8] (fun _ => rfl) (by ((repeat (refine Hold.cons (by exact rfl) ?_)); exact Hold.nil)) (by ((repeat (refine Hold.cons (by exact rfl) ?_)); exact Hold.nil)) rfl rfl (by rw [negP_zero, ← Int.toNat_natCast t.W]; rfl) (by simp) (by simp; omega) ?_
    intro x hx
    try simp only at hx ⊢
    by_cases hlt2 : x < t.W
    · have f0 := at_app b0 [(⟨0, false, 1, negP t.W x⟩ : MObj)]
      have fr : (H0 ++ [(⟨0, false, 1, negP t.W x⟩ : MObj)])[H0.length]? = some ⟨0, false, 1, negP t.W x⟩ := at_end _ _
      have hok : MHeap.ok (H0 ++ [(⟨0, false, 1, negP t.W x⟩ : MObj)]) H0.length 0 1 = true := ok_of fr rfl rfl
      have hcell : (negP t.W x)[0 + ((x : Nat) : Int).toNat]? = some (I64 0) := by rw [Nat.zero_add, Int.toNat_natCast, negP_at hlt2, if_neg (by omega)]
      repeat (first | apply ef_seq | (apply ef_mv; exact rfl; exact rfl) | (apply ef_bin; exact rfl; exact rfl; exact rfl; (exact cmp_t rfl (by first | exact rfl | (simp only [cmpP]; omega)))) | (apply ef_len; exact rfl; exact rfl; (exact rfl)) | (apply ef_iaa; exact rfl; exact rfl; exact rfl; (omega); (omega); (assumption)) | apply ef_nil | apply seqQ.normal | apply ef_block | apply ef_skip | (apply ef_condt; exact rfl; (exact (rfl : true = true))))
      refine ef_st (o := ⟨0, false, 1, negP t.W x⟩) (v := I64 (-1)) (by exact rfl) rfl (by exact rfl) fr rfl rfl hcell rfl ?_
      rw [set_end, Nat.zero_add, Int.toNat_natCast]
      show Ef _ _ _ _ _ _ _ (H0 ++ [⟨0, false, 1, (negP t.W x).set x (I64 (-1))⟩]) _
      rw [negP_set]
      repeat (first | (apply ef_mv; exact rfl; exact rfl) | (apply ef_bin; exact rfl; exact rfl; exact rfl; (((with_reducible refine bin_add (wrap_of ?_ ?_)) <;> omega))) | apply ef_nil | apply seqQ.normal | apply blockQ.normal)
      refine loopQ.normal _ _ ⟨x + 1, hlt2, by omega, ⟨by ((repeat (refine Hold.cons (by exact rfl) ?_)); exact Hold.nil), by ((repeat (refine Hold.cons (by exact rfl) ?_)); exact Hold.nil)⟩, .all (by simp)⟩
    · obtain rfl : x = t.W := by omega
      rw [negP_full]
      have f2 := at_app b2 [(⟨0, false, 1, List.replicate t.W (I64 (-1))⟩ : MObj)]
      repeat (first | apply ef_seq | (apply ef_mv; exact rfl; exact rfl) | (apply ef_bin; exact rfl; exact rfl; exact rfl; (exact cmp_f rfl (by simp only [cmpP]; omega))) | (apply ef_len; exact rfl; exact rfl; (exact rfl)) | (apply ef_bsl; exact rfl; (repeat (apply XVs.cons; exact rfl)); exact XVs.nil; exact rfl) | apply ef_nil | apply seqQ.normal | apply loopQ.exit | apply ef_exit | apply seqQ.exit | apply blockQ.here | (apply ef_condf; exact rfl; (exact (rfl : false = false))))
      refine ef_app (ht := by exact rfl) (o := ⟨y, nlN y, 1, rsRefs t.W y⟩) (v := .arr (H0 ++ [(⟨0, false, 1, List.replicate t.W (I64 (-1))⟩ : MObj)]).length 0 1 0) (e := .arr H0.length 0 t.W 0) (xs := []) (by exact rfl) (by exact rfl) (elems_end rfl rfl rfl rfl) (at_app f2 _) rfl (by simp [rsRefs]) rfl (by simp [rsRefs]; omega) rfl rfl ?_
      show Ef _ _ _ _ _ _ _ (List.set ((H0 ++ [(⟨0, false, 1, List.replicate t.W (I64 (-1))⟩ : MObj)]) ++ [(⟨0, false, 1, [.arr H0.length 0 t.W 0]⟩ : MObj)]) 3 (⟨y + 1, false, 1, (rsRefs t.W y).drop 0 ++ [.arr H0.length 0 t.W 0]⟩ : MObj)) _
      rw [hlen, HS.out]
      repeat (first | (apply ef_mv; exact rfl; exact rfl) | (apply ef_bin; exact rfl; exact rfl; exact rfl; (((with_reducible refine bin_add (wrap_of ?_ ?_)) <;> omega))) | apply ef_nil | apply seqQ.normal | apply blockQ.normal)
      refine loopQ.normal _ _ ⟨y + 1, hlt, by omega, ⟨by ((repeat (refine Hold.cons (by exact rfl) ?_)); exact Hold.nil), by ((repeat (refine Hold.cons (by exact rfl) ?_)); exact Hold.nil)⟩, .cell (hltL_no (m := 4) (j := 3) (o := ⟨y + 1, nlN (y + 1), 1, rsRefs t.W (y + 1)⟩) (by decide) rfl rsRefs_lt)⟩
  · obtain rfl : y = t.ter.length := by omega
    have hm0 := rsM0 ok (sy, sx)
    clear e0 hsw
    have b0 := hm0.b0
    have b1 : (rsH t (sy, sx) t.ter.length)[1]? = some ⟨0, false, 2, [posM (sy, sx)]⟩ := rfl
    have hL := rsH_len t (sy, sx) t.ter.length
    generalize rsH t (sy, sx) t.ter.length = hh0 at hm0 b0 b1 hL ⊢
    obtain ⟨refs, r1, r2, r3, r4, r5, r6⟩ := hm0.sf.rd hs.1 hs.2.1
    try simp only at r3 r4 r5 r6
    have hs0 : sy < t.ter.length := hs.1
    have hs2 := hs.2.1
    simp only at hs2
    repeat (first | apply ef_seq | (apply ef_mv; exact rfl; exact rfl) | (apply ef_bin; exact rfl; exact rfl; exact rfl; (exact cmp_f rfl (by simp only [cmpP]; omega))) | (apply ef_len; exact rfl; exact rfl; (assumption)) | (apply ef_ldp; exact rfl; exact rfl; (assumption); exact rfl; (first | exact rfl | assumption); (exact rfl)) | (apply ef_iaa; exact rfl; exact rfl; exact rfl; (omega); (omega); (assumption)) | (apply ef_fap; exact rfl; exact rfl) | apply ef_nil | apply seqQ.normal | apply loopQ.exit | apply ef_exit | apply seqQ.exit | apply blockQ.here | (apply ef_condf; exact rfl; (exact (rfl : false = false))))
    refine ef_st (o := ⟨0, false, 1, ((stG t fun _ => none).getD sy []).map I64⟩) (v := I64 0) (by exact rfl) rfl (by exact rfl) r4 rfl rfl r6 rfl ?_
    have m1 := hm0.put (x := sx) (k := 0) hs0
    show Ef _ _ _ _ _ _ _ (hh0.set (4 + 2 * sy) ⟨0, false, 1, (((stG t fun _ => none).getD sy []).map I64).set (0 + ((sx : Nat) : Int).toNat) (I64 ((0 : Nat) : Int))⟩) _
    rw [show 0 + ((sx : Nat) : Int).toNat = sx by simp]
    have f1 : (hh0.set (4 + 2 * sy) (⟨0, false, 1, (((stG t fun _ => none).getD sy []).map I64).set sx (I64 ((0 : Nat) : Int))⟩ : MObj))[1]? = some ⟨0, false, 2, [posM (sy, sx)]⟩ := by rw [List.getElem?_set_ne (by omega)]; exact b1
    have hL1 : (hh0.set (4 + 2 * sy) (⟨0, false, 1, (((stG t fun _ => none).getD sy []).map I64).set sx (I64 ((0 : Nat) : Int))⟩ : MObj)).length = 4 + 2 * t.ter.length := by rw [List.length_set]; exact hL
    clear r1 r2 r3 r4 r5 r6 b0 b1 hm0 hL
    generalize (hh0.set (4 + 2 * sy) (⟨0, false, 1, (((stG t fun _ => none).getD sy []).map I64).set sx (I64 ((0 : Nat) : Int))⟩ : MObj)) = h1' at m1 f1 hL1 ⊢
    have hu0 := Tk.unf_le ok (fun _ => none)
    have hu1 := Tk.unf_set (t := t) (f := fun _ => none) (k := 0) hs rfl
    repeat (first | apply ef_seq | (apply ef_mv; exact rfl; exact rfl) | (apply ef_ldp; exact rfl; exact rfl; (assumption); exact rfl; (exact rfl); (exact rd_2 rfl rfl)) | (apply ef_bsl; exact rfl; (repeat (apply XVs.cons; exact rfl)); exact XVs.nil; exact rfl) | apply ef_nil | apply seqQ.normal | apply ef_block)
    show Ef _ _ _ _ _ _ _ (h1' ++ [⟨0, false, 2, [posM (sy, sx)]⟩]) _
    have m2 := m1.app1 ⟨0, false, 2, [posM (sy, sx)]⟩ rfl
    refine ef_loopg (α := (Nd → Option Nat) × List Nd × Nat × Nat × Nat × MHeap) (fun a => LyI t (sy, sx) a.1 a.2.1 a.2.2.1 ∧ RsM t a.1 a.2.2.2.2.2 ∧ (∃ nl, a.2.2.2.2.2[a.2.2.2.1]? = some ⟨a.2.2.2.2.1, nl, 2, a.2.1.map posM⟩) ∧ 4 + 2 * t.ter.length ≤ a.2.2.2.1 ∧ 5 + 2 * t.ter.length ≤ a.2.2.2.2.2.length ∧ (∀ p k, a.1 p = some k → k + t.unf a.1 ≤ 144) ∧ a.2.1.length ≤ 144)
      (fun a => [(9, .arr a.2.2.2.1 0 a.2.1.length a.2.2.2.2.1)]) [(2, .ptr 0 0 0 0), (5, .arr 3 0 t.ter.length t.ter.length)] (fun a => a.2.2.2.2.2) (fun a => t.unf a.1 + if a.2.1 = [] then 0 else 1)
      (fSet (fun _ => none) (sy, sx) 0, [(sy, sx)], 0, h1'.length, 0, h1' ++ [⟨0, false, 2, [posM (sy, sx)]⟩]) [9] (fun _ => rfl) (by ((repeat (refine Hold.cons (by exact rfl) ?_)); exact Hold.nil)) (by ((repeat (refine Hold.cons (by exact rfl) ?_)); exact Hold.nil)) rfl rfl rfl
      ⟨LyI.start hs, m2, ⟨false, at_end _ _⟩, by simp only; omega, by simp only [List.length_append, List.length_cons, List.length_nil]; omega, fun p k hp => ?_, by simp⟩ (by show t.unf (fSet (fun _ => none) (sy, sx) 0) + (if [(sy, sx)] = [] then 0 else 1) < 4000000; split <;> omega) ?_
    · simp only [fSet] at hp
      split at hp
      · cases hp
        show 0 + t.unf (fSet (fun _ => none) (sy, sx) 0) ≤ 144
        omega
      · cases hp
    have hM : (h1' ++ [(⟨0, false, 2, [posM (sy, sx)]⟩ : MObj)]).length = 5 + 2 * t.ter.length := by simp [hL1]; omega
    rw [hM]
    clear m1 m2 f1 hL1 hu0 hu1 hM
    rintro ⟨f, now, lv, idn, gn, h⟩ ⟨hI, hm, ⟨nl, hnw⟩, hid, hln, hvl, hnl⟩
    simp only at hI hm hnw hid hln hvl hnl ⊢
    by_cases hnow : now = []
    · subst hnow
      have hsg : f = ff := funext fun p => hI.done.uniq hD p
      subst hsg
      obtain ⟨refs, k1, k2, k3⟩ := hm.sf.top
      have hrow := hm.sf.row
      have hwl := hm.sf.wl
      have hgl := hm.sf.gl
      have he : refs.mapM (frz 0 [3] h 8) = some ((stG t f).map encW) := by
        refine mapM_get (by rw [k2, List.length_map, hgl]) fun j a b ha hb => ?_
        have hj : j < t.ter.length := by have := (List.getElem?_eq_some_iff.1 ha).1; omega
        rw [k3 j hj] at ha
        cases ha
        have hr := hrow j hj
        have hw := hwl j hj
        have hb2 : b = encW ((stG t f).getD j []) := by
          rw [List.getElem?_map, List.getElem?_eq_getElem (by omega)] at hb
          cases hb
          rw [List.getD_eq_getElem?_getD, List.getElem?_eq_getElem (by omega)]; rfl
        rw [hb2]
        clear hb hb2
        generalize (stG t f).getD j [] = r at *
        have q1 : ([3] : List Nat).contains (4 + 2 * j) = false := by simp; omega
        have q2 : (r.map I64).take t.W = r.map I64 := List.take_of_length_le (by simp; omega)
        simp only [frz, MV.lt, Nat.not_lt_zero, decide_false, Bool.false_eq_true, if_false, q1, hr]
        simp only [ltL_I, if_true, List.drop_zero, q2]
        simp [hw]
      have hlf : ltL 0 refs = true → refs = (stG t f).map encW := fun hl => by
        have := ltL_iff'.1 hl _ (List.mem_of_getElem? (k3 0 h1))
        simp [MV.lt] at this
      repeat (first | apply ef_seq | (apply ef_mv; exact rfl; exact rfl) | (apply ef_bin; exact rfl; exact rfl; exact rfl; (exact rfl)) | (apply ef_len; exact rfl; exact rfl; (exact rfl)) | apply ef_nil | apply seqQ.normal | apply loopQ.exit | apply ef_ret | apply ef_exit | apply seqQ.exit | apply blockQ.here | (apply ef_condf; exact rfl; (exact (rfl : false = false))))
      (apply fin_arrF; (· exact rfl); (· exact rfl); (· exact k1); (· exact rfl); (· exact k2.symm); (· exact he); (· exact hlf); (· exact rfl); (· exact rfl))
    · have hpos : 0 < now.length := List.length_pos_iff.2 hnow
      repeat (first | apply ef_seq | (apply ef_mv; exact rfl; exact rfl) | (apply ef_bin; exact rfl; exact rfl; exact rfl; (exact cmp_t rfl (by first | exact rfl | (simp only [cmpP]; omega)))) | (apply ef_len; exact rfl; exact rfl; (exact rfl)) | (apply ef_nil0; exact rfl) | apply ef_nil | apply seqQ.normal | apply ef_block | apply ef_skip | (apply ef_condt; exact rfl; (exact (rfl : true = true))))
      have hidl : idn < h.length := (List.getElem?_eq_some_iff.1 hnw).1
      refine ef_loopg (α := Nat × (Nd → Option Nat) × List Nd × Nat × MHeap) (fun a => a.1 ≤ now.length ∧ RsI t (sy, sx) now lv (t.unf f) idn gn nl h.length a.2.1 a.2.2.1 a.2.2.2.2 (fun p => p ∈ now.take a.1) ∧ a.2.2.2.1 = a.2.2.1.length)
        (fun a => [(11, I64 (a.1 : Int)), (10, .arr h.length 0 a.2.2.2.1 a.2.2.2.1)]) [(9, .arr idn 0 now.length gn), (2, .ptr 0 0 0 0), (5, .arr 3 0 t.ter.length t.ter.length)] (fun a => a.2.2.2.2) (fun a => now.length - a.1)
        (0, f, [], 0, h ++ [⟨0, true, 2, []⟩]) [11, 10] (fun _ => rfl) (by ((repeat (refine Hold.cons (by exact rfl) ?_)); exact Hold.nil)) (by ((repeat (refine Hold.cons (by exact rfl) ?_)); exact Hold.nil)) rfl rfl rfl
        ⟨Nat.zero_le _, ⟨hI.open.weak fun p hp => by simp at hp, hm.app1 _ rfl, at_app hnw _, at_end _ _, by simp, hvl, by simp⟩, rfl⟩ (by simp only; omega) ?_
      have hM : (h ++ [(⟨0, true, 2, []⟩ : MObj)]).length = h.length + 1 := by simp
      rw [hM]
      rintro ⟨i, f1, next, nn, h1⟩ ⟨hi, hR, hnn⟩
      simp only at hi hR hnn ⊢
      by_cases hlt : i < now.length
      · obtain ⟨⟨y, x⟩, hp⟩ : ∃ p, now[i]? = some p := ⟨_, List.getElem?_eq_getElem hlt⟩
        have hfk : f1 (y, x) = some lv := (hR.ly.here _).1 (List.mem_of_getElem? hp)
        have hin := hR.ly.rng _ _ hfk
        have hy : y < t.ter.length := hin.1
        have hx : x < t.W := hin.2.1
        have hnb := fun h => rNeighbours_c k t ok hb hy hx h
        have f0 := hR.mm.b0
        have fw := hR.nw
        have fok : MHeap.ok h1 idn gn 2 = true := ok_of fw rfl rfl
        have fe : (now.map posM)[0 + ((i : Nat) : Int).toNat]? = some (posM (y, x)) := by rw [Nat.zero_add, Int.toNat_natCast, List.getElem?_map, hp]; rfl
        repeat (first | apply ef_seq | (apply ef_mv; exact rfl; exact rfl) | (apply ef_bin; exact rfl; exact rfl; exact rfl; (exact cmp_t rfl (by first | exact rfl | (simp only [cmpP]; omega)))) | (apply ef_len; exact rfl; exact rfl; (exact rfl)) | (apply ef_ldp; exact rfl; exact rfl; (assumption); exact rfl; (first | exact rfl | assumption); (first | exact rd_5 rfl rfl rfl rfl rfl | exact rfl)) | (apply ef_iaa; exact rfl; exact rfl; exact rfl; (omega); (omega); (assumption)) | (apply ef_fap; exact rfl; exact rfl) | apply ef_nil | apply seqQ.normal | apply ef_block | apply ef_skip | (apply ef_condt; exact rfl; (exact (rfl : true = true))) | (apply ef_call; exact rfl; ((repeat (apply XVs.cons; exact rfl)); exact XVs.nil); (with_reducible exact hnb _)))
        have hhl := hR.ln
        refine ef_loopg (α := Nat × (Nd → Option Nat) × List Nd × Nat × MHeap) (fun a => a.1 ≤ (nbR t y x).length ∧ RsI t (sy, sx) now lv (t.unf f) idn gn nl h.length a.2.1 a.2.2.1 a.2.2.2.2 (fun p => p ∈ now.take i) ∧ a.2.2.2.1 = a.2.2.1.length ∧ ∀ p ∈ (nbR t y x).take a.1, ∃ b, a.2.1 p = some b)
          (fun a => [(13, I64 (a.1 : Int)), (10, .arr h.length 0 a.2.2.2.1 a.2.2.2.1)]) [(12, .arr h1.length 0 (nbR t y x).length 0), (5, .arr 3 0 t.ter.length t.ter.length), (9, .arr idn 0 now.length gn), (11, I64 (i : Int)), (2, .ptr 0 0 0 0)]
          (fun a => a.2.2.2.2 ++ [⟨0, nlN (nbR t y x).length, 2, (nbR t y x).map posM⟩]) (fun a => (nbR t y x).length - a.1)
          (0, f1, next, nn, h1) [13, 10] (fun _ => rfl) (by ((repeat (refine Hold.cons (by exact rfl) ?_)); exact Hold.nil)) (by ((repeat (refine Hold.cons (by exact rfl) ?_)); exact Hold.nil)) rfl rfl rfl ⟨Nat.zero_le _, hR, hnn, by simp⟩ (by have := nbR_len t y x; simp only; omega) ?_
        have hM2 : (h1 ++ [(⟨0, nlN (nbR t y x).length, 2, (nbR t y x).map posM⟩ : MObj)]).length = h.length + 2 := by simp [hhl]
        rw [hM2, hhl]
        clear hR hfk f0 fw fok fe hM2 hhl hnb hin hnn nn
        rintro ⟨j, f2, nxt, nn, h3⟩ ⟨hj, hR, hnn, hall⟩
        simp only at hj hR hnn hall ⊢
        have hhl := hR.ln
        have hfk : f2 (y, x) = some lv := (hR.ly.here _).1 (List.mem_of_getElem? hp)
        by_cases hlt3 : j < (nbR t y x).length
        · obtain ⟨⟨y1, x1⟩, hp1⟩ : ∃ p, (nbR t y x)[j]? = some p := ⟨_, List.getElem?_eq_getElem hlt3⟩
          have hnb := (nbR_mem hy hx).1 (List.mem_of_getElem? hp1)
          simp only at hnb
          have htk : (nbR t y x).take (j + 1) = (nbR t y x).take j ++ [(y1, x1)] := by rw [List.take_add_one, hp1]; rfl
          have hy1 : y1 < t.ter.length := hnb.1
          have hx1 := hnb.2.1
          have hsf := hR.mm.sf.app [(⟨0, nlN (nbR t y x).length, 2, (nbR t y x).map posM⟩ : MObj)]
          obtain ⟨refs, r1, r2, r3, r4, r5, r6⟩ := hsf.rd hy hx
          obtain ⟨refs', p1, p2, p3, p4, p5, p6⟩ := hsf.rd (y := y1) (x := x1) hy1 hx1
          have hrr : refs' = refs := by rw [p1] at r1; cases r1; rfl
          subst hrr
          try simp only at r3 r4 r5 p3 p4 p5
          have f0 := at_app hR.mm.b0 [(⟨0, nlN (nbR t y x).length, 2, (nbR t y x).map posM⟩ : MObj)]
          have fn : (h3 ++ [(⟨0, nlN (nbR t y x).length, 2, (nbR t y x).map posM⟩ : MObj)])[h.length + 1]? = some ⟨0, nlN (nbR t y x).length, 2, (nbR t y x).map posM⟩ := by rw [← hhl]; exact at_end _ _
          have fok : MHeap.ok (h3 ++ [(⟨0, nlN (nbR t y x).length, 2, (nbR t y x).map posM⟩ : MObj)]) (h.length + 1) 0 2 = true := ok_of fn rfl rfl
          have fe : ((nbR t y x).map posM)[0 + ((j : Nat) : Int).toNat]? = some (posM (y1, x1)) := by rw [Nat.zero_add, Int.toNat_natCast, List.getElem?_map, hp1]; rfl
          have fw := at_app hR.nw [(⟨0, nlN (nbR t y x).length, 2, (nbR t y x).map posM⟩ : MObj)]
          have fwok : MHeap.ok (h3 ++ [(⟨0, nlN (nbR t y x).length, 2, (nbR t y x).map posM⟩ : MObj)]) idn gn 2 = true := ok_of fw rfl rfl
          have fwe : (now.map posM)[0 + ((i : Nat) : Int).toNat]? = some (posM (y, x)) := by rw [Nat.zero_add, Int.toNat_natCast, List.getElem?_map, hp]; rfl
          have fx := at_app hR.nx [(⟨0, nlN (nbR t y x).length, 2, (nbR t y x).map posM⟩ : MObj)]
          have hv1 := stG_at (f := f2) hy hx
          rw [hfk] at hv1
          have hv1 : at2 (stG t f2) y x = (lv : Int) := hv1
          have hv2 := stG_at (f := f2) hy1 hx1
          have hlv := hR.vl _ _ hfk
          have hnl3 := nbR_len t y x
          repeat (first | apply ef_seq | (apply ef_mv; exact rfl; exact rfl) | (apply ef_bin; exact rfl; exact rfl; exact rfl; (first | exact cmp_t rfl (by first | exact rfl | (simp only [cmpP]; omega)) | exact rfl)) | (apply ef_len; exact rfl; exact rfl; (exact rfl)) | (apply ef_ldp; exact rfl; exact rfl; (assumption); exact rfl; (assumption); (exact rfl)) | (apply ef_iaa; exact rfl; exact rfl; exact rfl; (omega); (omega); (assumption)) | (apply ef_fap; exact rfl; exact rfl) | apply ef_nil | apply seqQ.normal | apply ef_block | apply ef_skip | (apply ef_condt; exact rfl; (exact (rfl : true = true))))
          cases hm2 : f2 (y1, x1) with
          | none =>
            rw [hm2] at hv2
            have hr : at2 (stG t f2) y1 x1 < 0 := by rw [hv2]; decide
            repeat (first | apply ef_seq | (apply ef_mv; exact rfl; exact rfl) | (apply ef_bin; exact rfl; exact rfl; exact rfl; (((with_reducible refine bin_add (wrap_of ?_ ?_)) <;> omega))) | (apply ef_ldp; exact rfl; exact rfl; (assumption); exact rfl; (assumption); (exact rfl)) | (apply ef_iaa; exact rfl; exact rfl; exact rfl; (omega); (omega); (assumption)) | (apply ef_fap; exact rfl; exact rfl) | (apply ef_condt; exact rfl; (exact decide_eq_true (by omega))))
            have hval : at2 (stG t f2) y x + 1 = ((lv + 1 : Nat) : Int) := by rw [hv1]; simp
            have hml := hR.mm.len
            refine ef_st (o := ⟨0, false, 1, ((stG t f2).getD y1 []).map I64⟩) (v := I64 (at2 (stG t f2) y x + 1)) (by exact rfl) rfl (by exact rfl) p4 rfl rfl p6 rfl ?_
            rw [List.set_append_left _ _ (by omega)]
            show Ef _ _ _ _ _ _ _ (h3.set (4 + 2 * y1) ⟨0, false, 1, (((stG t f2).getD y1 []).map I64).set (0 + ((x1 : Nat) : Int).toNat) (I64 (at2 (stG t f2) y x + 1))⟩ ++ _) _
            rw [show 0 + ((x1 : Nat) : Int).toNat = x1 by simp, hval]
            have m := hR.more hfk hnb hm2 hid hidl
            have hl4 : (h3.set (4 + 2 * y1) (⟨0, false, 1, (((stG t f2).getD y1 []).map I64).set x1 (I64 ((lv + 1 : Nat) : Int))⟩ : MObj)).length = h.length + 1 := by rw [List.length_set]; exact hhl
            have fx2 : (h3.set (4 + 2 * y1) (⟨0, false, 1, (((stG t f2).getD y1 []).map I64).set x1 (I64 ((lv + 1 : Nat) : Int))⟩ : MObj))[h.length]? = some ⟨nxt.length, nlN nxt.length, 2, nxt.map posM⟩ := by rw [List.getElem?_set_ne (by omega)]; exact hR.nx
            clear r1 r2 r3 r4 r5 r6 p1 p2 p3 p4 p5 p6 f0 fn fok fw fwok fx hv1 hv2 hsf
            generalize (h3.set (4 + 2 * y1) (⟨0, false, 1, (((stG t f2).getD y1 []).map I64).set x1 (I64 ((lv + 1 : Nat) : Int))⟩ : MObj)) = h4 at m hl4 fx2 ⊢
            have fn2 : (h4 ++ [(⟨0, nlN (nbR t y x).length, 2, (nbR t y x).map posM⟩ : MObj)])[h.length + 1]? = some ⟨0, nlN (nbR t y x).length, 2, (nbR t y x).map posM⟩ := by rw [← hl4]; exact at_end _ _
            have fok2 : MHeap.ok (h4 ++ [(⟨0, nlN (nbR t y x).length, 2, (nbR t y x).map posM⟩ : MObj)]) (h.length + 1) 0 2 = true := ok_of fn2 rfl rfl
            repeat (first | (apply ef_mv; exact rfl; exact rfl) | (apply ef_ldp; exact rfl; exact rfl; (assumption); exact rfl; (assumption); (exact rd_2 rfl rfl)) | (apply ef_iaa; exact rfl; exact rfl; exact rfl; (omega); (omega); (assumption)) | (apply ef_bsl; exact rfl; (repeat (apply XVs.cons; exact rfl)); exact XVs.nil; exact rfl) | apply ef_nil | apply seqQ.normal)
            have hmu := hR.mu
            have huf := Tk.unf_le ok f
            rw [hnn]
            refine ef_app (ht := by exact rfl) (o := ⟨nxt.length, nlN nxt.length, 2, nxt.map posM⟩) (v := .arr (h4 ++ [(⟨0, nlN (nbR t y x).length, 2, (nbR t y x).map posM⟩ : MObj)]).length 0 1 0) (e := posM (y1, x1)) (xs := []) (by exact rfl) (by exact rfl) (elems_end rfl rfl rfl rfl) (at_app (at_app fx2 _) _) rfl (by simp) rfl (by simp; omega) rfl rfl ?_
            rw [List.set_append_left _ _ (by simp [hl4]; omega), List.set_append_left _ _ (by omega)]
            repeat (first | (apply ef_mv; exact rfl; exact rfl) | (apply ef_bin; exact rfl; exact rfl; exact rfl; (((with_reducible refine bin_add (wrap_of ?_ ?_)) <;> omega))) | apply ef_nil | apply seqQ.normal | apply blockQ.normal)
            refine loopQ.normal _ _ ⟨(j + 1, fSet f2 (y1, x1) (lv + 1), nxt ++ [(y1, x1)], nxt.length + 1, h4.set h.length ⟨nxt.length + 1, false, 2, (nxt.map posM).drop 0 ++ [posM (y1, x1)]⟩), ⟨hlt3, m, by simp, fun p hp => ?_⟩, by simp only; omega, ⟨by ((repeat (refine Hold.cons (by exact rfl) ?_)); exact Hold.nil), by ((repeat (refine Hold.cons (by exact rfl) ?_)); exact Hold.nil)⟩, HeadIs.tkE _ rfl (by simp [hl4]) ((m.cl1 _ fun n => ltL_pos n _).app _) fun u hu => ?_⟩
            · simp only at hp ⊢
              simp only [fSet]
              by_cases e : p = (y1, x1)
              · rw [if_pos e]; exact ⟨_, rfl⟩
              · rw [if_neg e]
                rw [htk, List.mem_append] at hp
                rcases hp with hp | hp
                · exact hall p hp
                · rw [List.mem_singleton] at hp
                  exact absurd hp e
            · simp only [List.mem_cons, List.not_mem_nil, or_false] at hu
              rcases hu with rfl | rfl | rfl | rfl | rfl | rfl | rfl
              · exact ⟨_, by exact rfl, rfl⟩
              · exact ⟨.arr (h.length + 1) 0 (nbR t y x).length 0, by exact rfl, by simp [MV.lt]⟩
              · exact ⟨.arr 3 0 t.ter.length t.ter.length, by exact rfl, by simp [MV.lt]; omega⟩
              · exact ⟨.arr idn 0 now.length gn, by exact rfl, by simp [MV.lt]; omega⟩
              · exact ⟨_, by exact rfl, rfl⟩
              · exact ⟨.arr h.length 0 (nxt.length + 1) (nxt.length + 1), by exact rfl, by simp [MV.lt]⟩
              · exact ⟨.ptr 0 0 0 0, by exact rfl, by simp [MV.lt]⟩
          | some k1 =>
            rw [hm2] at hv2
            have hr : ¬ at2 (stG t f2) y1 x1 < 0 := by rw [hv2]; simp [stI]
            repeat (first | (apply ef_mv; exact rfl; exact rfl) | (apply ef_bin; exact rfl; exact rfl; exact rfl; (((with_reducible refine bin_add (wrap_of ?_ ?_)) <;> omega))) | apply ef_nil | apply seqQ.normal | apply blockQ.normal | apply ef_skip | (apply ef_condf; exact rfl; (exact decide_eq_false (by omega))))
            refine loopQ.normal _ _ ⟨(j + 1, f2, nxt, nn, h3), ⟨hlt3, hR, hnn, fun p hp => ?_⟩, by simp only; omega, ⟨by ((repeat (refine Hold.cons (by exact rfl) ?_)); exact Hold.nil), by ((repeat (refine Hold.cons (by exact rfl) ?_)); exact Hold.nil)⟩, .all (by rw [List.length_append, hhl]; simp)⟩
            simp only at hp ⊢
            rw [htk, List.mem_append] at hp
            rcases hp with hp | hp
            · exact hall p hp
            · rw [List.mem_singleton] at hp
              subst hp
              exact ⟨k1, hm2⟩
        · rw [List.take_of_length_le (by omega)] at hall
          repeat (first | apply ef_seq | (apply ef_mv; exact rfl; exact rfl) | (apply ef_bin; exact rfl; exact rfl; exact rfl; (first | exact cmp_f rfl (by simp only [cmpP]; omega) | ((with_reducible refine bin_add (wrap_of ?_ ?_)) <;> omega))) | (apply ef_len; exact rfl; exact rfl; (exact rfl)) | apply ef_nil | apply seqQ.normal | apply loopQ.exit | apply ef_exit | apply seqQ.exit | apply blockQ.normal | apply blockQ.here | (apply ef_condf; exact rfl; (exact (rfl : false = false))))
          refine loopQ.normal _ _ ⟨(i + 1, f2, nxt, nn, h3), ⟨hlt, hR.weak fun p hp' => ?_, hnn⟩, by simp only; omega, ⟨by ((repeat (refine Hold.cons (by exact rfl) ?_)); exact Hold.nil), by ((repeat (refine Hold.cons (by exact rfl) ?_)); exact Hold.nil)⟩, HeadIs.tkE _ rfl hhl (hR.cl.app _) fun u hu => ?_⟩
          · simp only at hp'
            rw [List.take_add_one, hp] at hp'
            rcases List.mem_append.1 hp' with hp' | hp'
            · exact .inl hp'
            · obtain rfl : p = (y, x) := by simpa using hp'
              exact .inr fun q hq => hall q ((nbR_mem hy hx).2 hq)
          · simp only [List.mem_cons, List.not_mem_nil, or_false] at hu
            rcases hu with rfl | rfl | rfl | rfl | rfl
            · exact ⟨_, by exact rfl, rfl⟩
            · exact ⟨.arr idn 0 now.length gn, by exact rfl, by simp [MV.lt]; omega⟩
            · exact ⟨.ptr 0 0 0 0, by exact rfl, by simp [MV.lt]⟩
            · exact ⟨.arr 3 0 t.ter.length t.ter.length, by exact rfl, by simp [MV.lt]; omega⟩
            · exact ⟨.arr h.length 0 nn nn, by exact rfl, by simp [MV.lt]⟩
      · rw [List.take_of_length_le (by omega)] at hR
        have hmu := hR.mu
        have huf := Tk.unf_le ok f
        have hl1 := hR.ln
        repeat (first | apply ef_seq | (apply ef_mv; exact rfl; exact rfl) | (apply ef_bin; exact rfl; exact rfl; exact rfl; (exact cmp_f rfl (by simp only [cmpP]; omega))) | (apply ef_len; exact rfl; exact rfl; (exact rfl)) | apply ef_nil | apply seqQ.normal | apply loopQ.exit | apply ef_exit | apply seqQ.exit | apply blockQ.normal | apply blockQ.here | (apply ef_condf; exact rfl; (exact (rfl : false = false))))
        refine loopQ.normal _ _ ⟨(f1, next, lv + 1, h.length, nn, h1), ⟨hR.ly.close fun p hp => hp, hR.mm, ⟨_, by rw [hnn]; exact hR.nx⟩, by simp only; omega, by simp only; omega, hR.vl, by simp only; omega⟩, ?_, ⟨by rw [hnn]; ((repeat (refine Hold.cons (by exact rfl) ?_)); exact Hold.nil), by ((repeat (refine Hold.cons (by exact rfl) ?_)); exact Hold.nil)⟩, HeadIs.slot 9 (.arr h.length 0 nn nn) (by simp) (by exact rfl) (by simp [MV.lt]; omega)⟩
        simp only
        rw [if_neg hnow]
        split
        · omega
        · have : 0 < next.length := List.length_pos_iff.2 (by assumption)
          omega
theorem rSteps_c (k : Nat) {t : Tk} (ok : OkT t) (hb : Bd t) {sy sx : Nat} (hs : t.inP (sy, sx)) {ff : Nd → Option Nat} (hD : Dst t (sy, sx) ff) (h : MHeap) : orA (k + 3) 50 [encT t, posM (sy, sx)] h = some (.arr h.length 0 t.ter.length 0, h ++ [⟨0, false, 1, (stG t ff).map encW⟩]) := by
  have := callA (k := k + 2) (h := h) (frzL_lt (ms := [encT t, posM (sy, sx)]) (by simp [ltL, MV.lt, ltL_I, ltL_W])) rfl (rSteps_z k ok hb hs hD) rfl (by simp [okH, ltL_W, ltL, MV.lt, ltL_I, ltL_B])
  simpa [shV, sh1] using this
end Go.Proofs.Ytgjpdjihjphbdaa

/- The contract of the reference's excess; errors of tasks. -/
namespace Go.Proofs.Ytgjpdjihjphbdaa
open Go.RowKit
set_option linter.unusedVariables false

theorem lns_val {cnt : Int} : ∀ {ns : List Int} {last : Int} {i : Nat}, (lnsE cnt last i ns).2 = 0 ∨ (lnsE cnt last i ns).2 = 6 ∨ (lnsE cnt last i ns).2 = 9
  | [], _, _ => .inl rfl
  | n :: ns, last, i => by
    simp only [lnsE]
    split
    · exact lns_val
    · simp only [lnE, firstE, unl]
      cases inB n 0 (cnt - 1) <;> cases decide (last < n) <;> simp
theorem taskF_rel (t : Tk) : (taskF (fun _ => 0) t).2 = (taskF id t).2 ∧ ((taskF id t).2 ≠ 0 → (taskF id t).1 = (taskF (fun _ => 0) t).1 ∨ (taskF id t).2 = 6 ∨ (taskF id t).2 = 9) := by
  unfold taskF
  split
  · split
    · split
      · split
        · exact ⟨rfl, fun h => .inr ((lns_val).resolve_left h)⟩
        · exact ⟨rfl, fun h => .inr ((lns_val).resolve_left h)⟩
      · exact ⟨rfl, fun _ => .inl rfl⟩
    · exact ⟨rfl, fun _ => .inl rfl⟩
  · exact ⟨rfl, fun _ => .inl rfl⟩
end Go.Proofs.Ytgjpdjihjphbdaa

/- Contracts: lists searched, joined; the error of a surface. -/
namespace Go.Proofs.Ytgjpdjihjphbdaa
open Go.RowKit
set_option linter.unusedVariables false

section
variable {O : Oracle} {I : Iter} {N n : Nat} {lk : Nat → Bool} {A : Sl} {h : MHeap} {Q : MX2 → Sl → MHeap → Prop} {t : Nat} {os : List GO}
end
/-- Lists joined. -/
inductive CatV : MV → MHeap → List Int → Prop
  | nil : CatV (.lit (.slice none 0 0)) [] []
  | arr (l : List Int) : CatV (.arr 0 0 l.length 0) [⟨0, false, 1, l.map I64⟩] l
end Go.Proofs.Ytgjpdjihjphbdaa

/- Contracts: the error of a surface. -/
namespace Go.Proofs.Ytgjpdjihjphbdaa
open Go.RowKit
set_option linter.unusedVariables false

def surfE (t : Tk) (s : List (List Int)) : Int := firstE [unl (!(!decide (s.length = t.ter.length) || s.any fun r => !decide (r.length = t.W))) 10, unl (!(s.flatten.any fun n => !inB n 0 10000000)) 2]
end Go.Proofs.Ytgjpdjihjphbdaa

/- Contracts: the error of a node of a surface. -/
namespace Go.Proofs.Ytgjpdjihjphbdaa
open Go.RowKit
set_option linter.unusedVariables false

structure OkZ (t : Tk) (s : List (List Int)) : Prop where
  sh : Shp t s
  rg : ∀ y x, y < t.H → x < t.W → 0 ≤ at2 s y x ∧ at2 s y x ≤ 10000000
theorem OkZ.row {t : Tk} {s : List (List Int)} (os : OkZ t s) {y : Nat} (hy : y < t.H) : (s.map encW)[((y : Nat) : Int).toNat]? = some (encW (s.getD y [])) := by
  have hys : y < s.length := by rw [os.sh.hl]; exact hy
  rw [Int.toNat_natCast, List.getElem?_map, List.getD_eq_getElem?_getD, List.getElem?_eq_getElem hys]; rfl
theorem OkZ.cell {t : Tk} {s : List (List Int)} (os : OkZ t s) {y x : Nat} (hy : y < t.H) (hx : x < t.W) : ((s.getD y []).map I64)[((x : Nat) : Int).toNat]? = some (I64 (at2 s y x)) :=
  cell_at (by rw [os.sh.row hy]; exact hx)
end Go.Proofs.Ytgjpdjihjphbdaa

/- Contracts of the reference: the errors of a surface and of its nodes. -/
namespace Go.Proofs.Ytgjpdjihjphbdaa
open Go.RowKit
set_option linter.unusedVariables false

/-- Two results that speak of no memory of the call's own. -/
theorem impIds_lt0 : ∀ {v w : MV}, v.lt 0 = true → w.lt 0 = true → impIds 0 [v, w] = [] := fun {v w} h1 h2 => by
  cases v <;> first | (simp [MV.lt] at h1; done) | (cases w <;> first | (simp [MV.lt] at h2; done) | simp [impIds])
theorem fin_res2 {x : MX2} {A : Sl} {h : MHeap} {r1 r2 : MRes} {v w : MV} (hx : outX x = true) (h1 : ResV A h r1 v) (h2 : ResV A h r2 w) (l1 : v.lt 0 = true) (l2 : w.lt 0 = true) : FinF [r1, r2] (.tup [v, w]) [] x A h := by
  have hi := impIds_lt0 l1 l2
  refine ⟨hx, [v, w], [v, w], ⟨v, [w], rfl, h1, w, [], rfl, h2, rfl⟩, by rw [hi]; simp, ?_, rfl⟩
  rw [hi]
  cases v <;> first | (simp [MV.lt] at l1; done) | (cases w <;> first | (simp [MV.lt] at l2; done) | simp [expL, frz, l1, l2])
theorem flat_at2 {s : List (List Int)} {i : Nat} (hi : i < s.length) : (s.drop i).flatten = s[i] ++ (s.drop (i + 1)).flatten := by
  rw [List.drop_eq_getElem_cons hi, List.flatten_cons]
theorem surfE_len {t : Tk} {s : List (List Int)} (h : s.length ≠ t.ter.length) : surfE t s = 10 := by
  unfold surfE; rw [decide_eq_false h]; rfl
theorem surfE_row {t : Tk} {s : List (List Int)} (h : (s.any fun r => !decide (r.length = t.W)) = true) : surfE t s = 10 := by
  unfold surfE; rw [h]; simp [firstE, unl]
theorem surfE_rest {t : Tk} {s : List (List Int)} (h1 : s.length = t.ter.length) (h2 : (s.any fun r => !decide (r.length = t.W)) = false) : surfE t s = unl (!(s.flatten.any fun n => !inB n 0 10000000)) 2 := by
  unfold surfE; rw [h2, decide_eq_true h1]
  cases (s.flatten.any fun n => !inB n 0 10000000) <;> rfl
theorem mf_rSurfaceErr : MT.mf 49 = some ⟨55, [(.tmp 4)], (.seq (.reg [⟨none, (some 2), (.box 5 (.s 0))⟩, ⟨none, (some 4), (.mv (.c (.lit (.int .i64 0))))⟩]) (.seq (.seq (.reg [⟨none, (some 8), (.mv (.s 1))⟩, ⟨none, (some 9), (.len (.s 8))⟩, ⟨none, (some 10), (.fa 0 (.s 2))⟩, ⟨none, (some 11), (.ld none (.s 10))⟩, ⟨none, (some 12), (.len (.s 11))⟩, ⟨none, (some 13), (.bin .neq (.s 9) (.s 12))⟩]) (.cond (.s 13) (.seq (.reg [⟨none, (some 4), (.mv (.c (.lit (.int .i64 10))))⟩]) .ret) .skip)) (.seq (.seq (.reg [⟨none, (some 5), (.mv (.c (.lit (.int .i64 0))))⟩]) (.block 0 (.loop [5, 1, 2] (.seq (.seq (.reg [⟨none, (some 14), (.mv (.s 5))⟩, ⟨none, (some 15), (.mv (.s 1))⟩, ⟨none, (some 16), (.len (.s 15))⟩, ⟨none, (some 17), (.bin .lss (.s 14) (.s 16))⟩]) (.cond (.s 17) .skip (.exit 0))) (.seq (.block 1 (.seq (.reg [⟨none, (some 20), (.mv (.s 1))⟩, ⟨none, (some 21), (.mv (.s 5))⟩, ⟨none, (some 22), (.ia 1 (.s 20) (.s 21))⟩, ⟨none, (some 23), (.ld none (.s 22))⟩, ⟨none, (some 24), (.len (.s 23))⟩, ⟨none, (some 25), (.fa 0 (.s 2))⟩, ⟨none, (some 26), (.ld none (.s 25))⟩, ⟨none, (some 27), (.ia 1 (.s 26) (.c (.lit (.int .i64 0))))⟩, ⟨none, (some 28), (.ld none (.s 27))⟩, ⟨none, (some 29), (.len (.s 28))⟩, ⟨none, (some 30), (.bin .neq (.s 24) (.s 29))⟩]) (.cond (.s 30) (.seq (.reg [⟨none, (some 4), (.mv (.c (.lit (.int .i64 10))))⟩]) .ret) .skip))) (.reg [⟨none, (some 18), (.mv (.s 5))⟩, ⟨none, (some 19), (.bin .add (.s 18) (.c (.lit (.int .i64 1))))⟩, ⟨none, (some 5), (.mv (.s 19))⟩])))))) (.seq (.seq (.reg [⟨none, (some 6), (.mv (.c (.lit (.int .i64 0))))⟩]) (.block 2 (.loop [6, 1] (.seq (.seq (.reg [⟨none, (some 31), (.mv (.s 6))⟩, ⟨none, (some 32), (.mv (.s 1))⟩, ⟨none, (some 33), (.len (.s 32))⟩, ⟨none, (some 34), (.bin .lss (.s 31) (.s 33))⟩]) (.cond (.s 34) .skip (.exit 2))) (.seq (.block 3 (.seq (.reg [⟨none, (some 7), (.mv (.c (.lit (.int .i64 0))))⟩]) (.block 4 (.loop [7, 1, 6] (.seq (.seq (.reg [⟨none, (some 37), (.mv (.s 7))⟩, ⟨none, (some 38), (.mv (.s 1))⟩, ⟨none, (some 39), (.mv (.s 6))⟩, ⟨none, (some 40), (.ia 1 (.s 38) (.s 39))⟩, ⟨none, (some 41), (.ld none (.s 40))⟩, ⟨none, (some 42), (.len (.s 41))⟩, ⟨none, (some 43), (.bin .lss (.s 37) (.s 42))⟩]) (.cond (.s 43) .skip (.exit 4))) (.seq (.block 5 (.seq (.reg [⟨none, (some 46), (.mv (.s 1))⟩, ⟨none, (some 47), (.mv (.s 6))⟩, ⟨none, (some 48), (.ia 1 (.s 46) (.s 47))⟩, ⟨none, (some 49), (.ld none (.s 48))⟩, ⟨none, (some 50), (.mv (.s 7))⟩, ⟨none, (some 51), (.ia 1 (.s 49) (.s 50))⟩, ⟨none, (some 52), (.ld none (.s 51))⟩, ⟨none, (some 53), (.call 22 [(.s 52), (.c (.lit (.int .i64 0))), (.c (.lit (.int .i64 10000000)))])⟩, ⟨none, (some 54), (.un .not (.s 53))⟩]) (.cond (.s 54) (.seq (.reg [⟨none, (some 4), (.mv (.c (.lit (.int .i64 2))))⟩]) .ret) .skip))) (.reg [⟨none, (some 44), (.mv (.s 7))⟩, ⟨none, (some 45), (.bin .add (.s 44) (.c (.lit (.int .i64 1))))⟩, ⟨none, (some 7), (.mv (.s 45))⟩]))))))) (.reg [⟨none, (some 35), (.mv (.s 6))⟩, ⟨none, (some 36), (.bin .add (.s 35) (.c (.lit (.int .i64 1))))⟩, ⟨none, (some 6), (.mv (.s 36))⟩])))))) (.seq (.reg [⟨none, (some 4), (.mv (.c (.lit (.int .i64 0))))⟩]) .ret)))))⟩ := by kernel_rfl
set_option maxHeartbeats 1000000 in
theorem rSurfaceErr_z (k : Nat) (t : Tk) (ok : OkT t) (s : List (List Int)) (hs : s.length ≤ 1000) (hr : ∀ r ∈ s, r.length ≤ 1000) : runZ MT (orA (k + 1)) (itA (k + 1)) 4000000 49 [encT t, .sl (s.map encW)] [] = some (I64 (surfE t s), []) := by
  refine runZ_of mf_rSurfaceErr (by simp) ?_
  have hh1 := ok.h1
  have hw1 := ok.w1
  have hs1 : (MV.sl (t.ter.map encW)).slen = some t.ter.length := by simp [MV.slen]
  have hs2 : (MV.sl (s.map encW)).slen = some s.length := by simp [MV.slen]
  have e0 := Tk.head hh1.1
  have hsw := Tk.headW t
  generalize t.ter.getD 0 [] = r0 at e0 hsw
  simp only [argsL]
  by_cases hl : s.length = t.ter.length
  · repeat (first | apply ef_seq | (apply ef_mv; exact rfl; exact rfl) | (apply ef_bin; exact rfl; exact rfl; exact rfl; (exact cmp_f rfl (by simp only [cmpP]; omega))) | (apply ef_len; exact rfl; exact rfl; (assumption)) | (apply ef_ldp; exact rfl; exact rfl; (exact rfl); exact rfl; (exact rfl); (exact rfl)) | (apply ef_fap; exact rfl; exact rfl) | (apply ef_box; exact rfl; exact rfl; exact rfl; exact rfl) | apply ef_nil | apply seqQ.normal | apply ef_block | apply ef_skip | (apply ef_condf; exact rfl; (exact (rfl : false = false))))
    refine ef_loopf (α := Nat) (fun i => i ≤ s.length ∧ (s.any fun r => !decide (r.length = t.W)) = ((s.drop i).any fun r => !decide (r.length = t.W))) (fun i => [(5, I64 (i : Int))]) [(1, _), (2, _)] (fun _ => _) (fun i => s.length - i) 0 [5] (fun _ => rfl) (by ((repeat (refine Hold.cons (by exact rfl) ?_)); exact Hold.nil)) (by ((repeat (refine Hold.cons (by exact rfl) ?_)); exact Hold.nil)) rfl rfl ⟨by simp, rfl⟩ (by simp; omega) ?_
    rintro i ⟨hi, hz⟩
    try simp only at hi hz ⊢
    by_cases hlt : i < s.length
    · have e1 := at_map encW s i hlt
      have HD := Lib.hid (drop_at s i hlt)
      have HZ := Lib.hid hz
      have hrl := hr _ (List.getElem_mem hlt)
      clear hz
      generalize s[i] = r at e1 HD hrl
      have hsr : (encW r).slen = some r.length := by simp [MV.slen]
      by_cases e : r.length = t.W
      · repeat (first | apply ef_seq | (apply ef_mv; exact rfl; exact rfl) | (apply ef_bin; exact rfl; exact rfl; exact rfl; (first | exact cmp_t rfl (by first | exact rfl | (simp only [cmpP]; omega)) | exact cmp_f rfl (by simp only [cmpP]; omega) | ((with_reducible refine bin_add (wrap_of ?_ ?_)) <;> omega))) | (apply ef_len; exact rfl; exact rfl; (assumption)) | (apply ef_ldr; exact rfl; exact rfl; (exact rfl)) | (apply ef_ldp; exact rfl; exact rfl; (exact rfl); exact rfl; (exact rfl); (exact rfl)) | (apply ef_ias; exact rfl; exact rfl; exact rfl; (omega); assumption; exact rfl) | (apply ef_fap; exact rfl; exact rfl) | apply ef_nil | apply seqQ.normal | apply blockQ.normal | apply ef_block | apply ef_skip | (apply ef_condt; exact rfl; (exact (rfl : true = true))) | (apply ef_condf; exact rfl; (exact (rfl : false = false))))
        (refine loopQ.normal _ _ ⟨i + 1, ⟨hlt, by rw [HZ.out, HD.out]; simp [e]⟩, (by first | (simp only; omega) | omega), ⟨by ((repeat (refine Hold.cons (by exact rfl) ?_)); exact Hold.nil), by ((repeat (refine Hold.cons (by exact rfl) ?_)); exact Hold.nil)⟩, .inl (Nat.le_refl _), (by first | exact List.take_length | exact rfl | exact takeF rfl rfl)⟩)
      · repeat (first | apply ef_seq | (apply ef_mv; exact rfl; exact rfl) | (apply ef_bin; exact rfl; exact rfl; exact rfl; (exact cmp_t rfl (by first | exact rfl | (simp only [cmpP]; omega)))) | (apply ef_len; exact rfl; exact rfl; (assumption)) | (apply ef_ldr; exact rfl; exact rfl; (exact rfl)) | (apply ef_ldp; exact rfl; exact rfl; (exact rfl); exact rfl; (exact rfl); (exact rfl)) | (apply ef_ias; exact rfl; exact rfl; exact rfl; (omega); assumption; exact rfl) | (apply ef_fap; exact rfl; exact rfl) | apply ef_nil | apply seqQ.normal | apply loopQ.ret | apply ef_ret | apply seqQ.ret | apply blockQ.ret | apply ef_block | apply ef_skip | (apply ef_condt; exact rfl; (exact (rfl : true = true))))
        (refine fin1 rfl (by exact rfl) rfl ?_)
        rw [surfE_row (by rw [HZ.out, HD.out]; simp [e])]
    · have HR := Lib.hid (surfE_rest hl (by rw [hz, List.drop_eq_nil_of_le (by omega)]; rfl))
      clear hz
      repeat (first | apply ef_seq | (apply ef_mv; exact rfl; exact rfl) | (apply ef_bin; exact rfl; exact rfl; exact rfl; (exact cmp_f rfl (by simp only [cmpP]; omega))) | (apply ef_len; exact rfl; exact rfl; (assumption)) | apply ef_nil | apply seqQ.normal | apply loopQ.exit | apply ef_exit | apply seqQ.exit | apply blockQ.here | apply ef_block | (apply ef_condf; exact rfl; (exact (rfl : false = false))))
      refine ef_loopf (α := Nat) (fun i => i ≤ s.length ∧ (s.flatten.any fun n => !inB n 0 10000000) = ((s.drop i).flatten.any fun n => !inB n 0 10000000)) (fun i => [(6, I64 (i : Int))]) [(1, _)] (fun _ => _) (fun i => s.length - i) 0 [6] (fun _ => rfl) (by ((repeat (refine Hold.cons (by exact rfl) ?_)); exact Hold.nil)) (by ((repeat (refine Hold.cons (by exact rfl) ?_)); exact Hold.nil)) rfl rfl ⟨by simp, rfl⟩ (by simp; omega) ?_
      rintro i ⟨hi, hz⟩
      try simp only at hi hz ⊢
      by_cases hlt : i < s.length
      · have e1 := at_map encW s i hlt
        have HD := Lib.hid (flat_at2 hlt)
        have HZ := Lib.hid hz
        have hrl := hr _ (List.getElem_mem hlt)
        clear hz
        generalize s[i] = r at e1 HD hrl
        have hsr : (encW r).slen = some r.length := by simp [MV.slen]
        repeat (first | apply ef_seq | (apply ef_mv; exact rfl; exact rfl) | (apply ef_bin; exact rfl; exact rfl; exact rfl; (exact cmp_t rfl (by first | exact rfl | (simp only [cmpP]; omega)))) | (apply ef_len; exact rfl; exact rfl; (assumption)) | apply ef_nil | apply seqQ.normal | apply ef_block | apply ef_skip | (apply ef_condt; exact rfl; (exact (rfl : true = true))))
        refine ef_loopf (α := Nat) (fun j => j ≤ r.length ∧ (r.any fun n => !inB n 0 10000000) = ((r.drop j).any fun n => !inB n 0 10000000)) (fun j => [(7, I64 (j : Int))]) [(1, _), (6, _)] (fun _ => _) (fun j => r.length - j) 0 [7] (fun _ => rfl) (by ((repeat (refine Hold.cons (by exact rfl) ?_)); exact Hold.nil)) (by ((repeat (refine Hold.cons (by exact rfl) ?_)); exact Hold.nil)) rfl rfl ⟨by simp, rfl⟩ (by simp; omega) ?_
        rintro j ⟨hj, hy⟩
        try simp only at hj hy ⊢
        by_cases hlt2 : j < r.length
        · have e2 := at_map I64 r j hlt2
          have HD2 := Lib.hid (drop_at r j hlt2)
          have HY := Lib.hid hy
          clear hy
          generalize r[j] = n at e2 HD2
          cases hb : inB n 0 10000000
          · repeat (first | apply ef_seq | (apply ef_mv; exact rfl; exact rfl) | (apply ef_bin; exact rfl; exact rfl; exact rfl; (exact cmp_t rfl (by first | exact rfl | (simp only [cmpP]; omega)))) | (apply ef_len; exact rfl; exact rfl; (assumption)) | (apply ef_ldr; exact rfl; exact rfl; (exact rfl)) | (apply ef_ias; exact rfl; exact rfl; exact rfl; (omega); assumption; exact rfl) | (apply ef_notF; exact rfl; exact rfl) | apply ef_nil | apply seqQ.normal | apply loopQ.ret | apply ef_ret | apply seqQ.ret | apply blockQ.ret | apply ef_block | apply ef_skip | (apply ef_condt; exact rfl; (exact (rfl : true = true))) | (apply ef_call; exact rfl; ((repeat (apply XVs.cons; exact rfl)); exact XVs.nil); (with_reducible exact Within_c _ _ _ _ _ (by assumption))))
            (refine fin1 rfl (by exact rfl) rfl ?_)
            rw [HR.out, HZ.out, HD.out, List.any_append, HY.out, HD2.out]; simp [hb, unl]
          · repeat (first | apply ef_seq | (apply ef_mv; exact rfl; exact rfl) | (apply ef_bin; exact rfl; exact rfl; exact rfl; (first | exact cmp_t rfl (by first | exact rfl | (simp only [cmpP]; omega)) | ((with_reducible refine bin_add (wrap_of ?_ ?_)) <;> omega))) | (apply ef_len; exact rfl; exact rfl; (assumption)) | (apply ef_ldr; exact rfl; exact rfl; (exact rfl)) | (apply ef_ias; exact rfl; exact rfl; exact rfl; (omega); assumption; exact rfl) | (apply ef_notT; exact rfl; exact rfl) | apply ef_nil | apply seqQ.normal | apply blockQ.normal | apply ef_block | apply ef_skip | (apply ef_condt; exact rfl; (exact (rfl : true = true))) | (apply ef_condf; exact rfl; (exact (rfl : false = false))) | (apply ef_call; exact rfl; ((repeat (apply XVs.cons; exact rfl)); exact XVs.nil); (with_reducible exact Within_c _ _ _ _ _ (by assumption))))
            (refine loopQ.normal _ _ ⟨j + 1, ⟨hlt2, by rw [HY.out, HD2.out]; simp [hb]⟩, (by first | (simp only; omega) | omega), ⟨by ((repeat (refine Hold.cons (by exact rfl) ?_)); exact Hold.nil), by ((repeat (refine Hold.cons (by exact rfl) ?_)); exact Hold.nil)⟩, .inl (Nat.le_refl _), (by first | exact List.take_length | exact rfl | exact takeF rfl rfl)⟩)
        · have HY := Lib.hid (show (r.any fun n => !inB n 0 10000000) = false by rw [hy, List.drop_eq_nil_of_le (by omega)]; rfl)
          clear hy
          repeat (first | apply ef_seq | (apply ef_mv; exact rfl; exact rfl) | (apply ef_bin; exact rfl; exact rfl; exact rfl; (first | exact cmp_f rfl (by simp only [cmpP]; omega) | ((with_reducible refine bin_add (wrap_of ?_ ?_)) <;> omega))) | (apply ef_len; exact rfl; exact rfl; (assumption)) | (apply ef_ldr; exact rfl; exact rfl; (exact rfl)) | (apply ef_ias; exact rfl; exact rfl; exact rfl; (omega); assumption; exact rfl) | apply ef_nil | apply seqQ.normal | apply loopQ.exit | apply ef_exit | apply seqQ.exit | apply blockQ.normal | apply blockQ.here | (apply ef_condf; exact rfl; (exact (rfl : false = false))))
          (refine loopQ.normal _ _ ⟨i + 1, ⟨hlt, by rw [HZ.out, HD.out, List.any_append, HY.out]; rfl⟩, (by first | (simp only; omega) | omega), ⟨by ((repeat (refine Hold.cons (by exact rfl) ?_)); exact Hold.nil), by ((repeat (refine Hold.cons (by exact rfl) ?_)); exact Hold.nil)⟩, .inl (Nat.le_refl _), (by first | exact List.take_length | exact rfl | exact takeF rfl rfl)⟩)
      · repeat (first | apply ef_seq | (apply ef_mv; exact rfl; exact rfl) | (apply ef_bin; exact rfl; exact rfl; exact rfl; (exact cmp_f rfl (by simp only [cmpP]; omega))) | (apply ef_len; exact rfl; exact rfl; (assumption)) | apply ef_nil | apply seqQ.normal | apply loopQ.exit | apply ef_ret | apply ef_exit | apply seqQ.exit | apply blockQ.here | (apply ef_condf; exact rfl; (exact (rfl : false = false))))
        (refine fin1 rfl (by exact rfl) rfl ?_)
        rw [HR.out, hz, List.drop_eq_nil_of_le (by omega)]; rfl
  · repeat (first | apply ef_seq | (apply ef_mv; exact rfl; exact rfl) | (apply ef_bin; exact rfl; exact rfl; exact rfl; (exact cmp_t rfl (by first | exact rfl | (simp only [cmpP]; omega)))) | (apply ef_len; exact rfl; exact rfl; (assumption)) | (apply ef_ldp; exact rfl; exact rfl; (exact rfl); exact rfl; (exact rfl); (exact rfl)) | (apply ef_fap; exact rfl; exact rfl) | (apply ef_box; exact rfl; exact rfl; exact rfl; exact rfl) | apply ef_nil | apply seqQ.normal | apply ef_ret | apply seqQ.ret | (apply ef_condt; exact rfl; (exact (rfl : true = true))))
    (refine fin1 rfl (by exact rfl) rfl ?_)
    rw [surfE_len hl]
end Go.Proofs.Ytgjpdjihjphbdaa

/- Contracts: surfaces are accepted, by the program and by the reference. -/
namespace Go.Proofs.Ytgjpdjihjphbdaa
open Go.RowKit
set_option linter.unusedVariables false

def clM (e : Int × Int × Int) : MV := .tup [posI e.1 e.2.1, I64 e.2.2]
theorem fin_cc {x : MX2} {A : Sl} {h : MHeap} {t u it iu : Nat} {ot ou : MObj} {a b c : Int} (hx : outX x = true) (h1 : look A t = some (.ptr it 0 0 0)) (h2 : h[it]? = some ot) (h3 : ot.g = 0) (h4 : ot.es = [posI a b]) (k1 : look A u = some (.ptr iu 0 0 0)) (k2 : h[iu]? = some ou) (k3 : ou.g = 0) (k4 : ou.es = [I64 c]) : FinF [.cell t (some 2), .cell u none] (clM (a, b, c)) [] x A h :=
  fin_res2 hx ⟨it, 0, 0, 0, ot, _, h1, h2, h3, by rw [h4]; rfl, rd_2 rfl rfl⟩ ⟨iu, 0, 0, 0, ou, _, k1, k2, k3, by rw [k4]; rfl, rfl⟩ rfl rfl
end Go.Proofs.Ytgjpdjihjphbdaa

/- The contract of ForceOn. -/
namespace Go.Proofs.Ytgjpdjihjphbdaa
open Go.RowKit
set_option linter.unusedVariables false

/-- A node asks for just what a node's height is. -/
def hitF (t : Tk) (f : Nd → Option Nat) (a : Int) (p : Nd) : Bool :=
  match f p with
  | some k => decide (t.need p.1 p.2 - (k : Int) * t.cb = a)
  | none => false
theorem nodesP_pw (W : Nat) : ∀ H, (nodesP H W).Pairwise fun a b => a.1 < b.1 ∨ (a.1 = b.1 ∧ a.2 < b.2)
  | 0 => by simp [nodesP]
  | H + 1 => by
    rw [nodesP_succ, List.pairwise_append]
    refine ⟨nodesP_pw W H, ?_, fun a ha b hb => ?_⟩
    · rw [List.pairwise_map]
      exact List.pairwise_lt_range.imp fun h => .inr ⟨rfl, h⟩
    · obtain ⟨a1, a2⟩ := a
      obtain ⟨x, hx, rfl⟩ := List.mem_map.1 hb
      exact .inl (nodesP_mem.1 ha).1
/-- The first node that asks for just this. -/
structure FstN (t : Tk) (hit : Nd → Bool) (p : Nd) : Prop where
  yes : hit p = true
  y : p.1 < t.ter.length
  x : p.2 < t.W
  no : ∀ q : Nd, q.1 < t.ter.length → q.2 < t.W → (q.1 < p.1 ∨ (q.1 = p.1 ∧ q.2 < p.2)) → hit q = false
theorem FstN.at {t : Tk} {hit : Nd → Bool} {p : Nd} (hp : FstN t hit p) : ∃ i : Nat, (nodesP t.ter.length t.W)[i]? = some p ∧ ∀ (j : Nat) (q : Nd), j < i → (nodesP t.ter.length t.W)[j]? = some q → hit q = false := by
  have hm : p ∈ nodesP t.ter.length t.W := by obtain ⟨a, b⟩ := p; exact nodesP_mem.2 ⟨hp.y, hp.x⟩
  obtain ⟨i, hi⟩ := List.getElem?_of_mem hm
  refine ⟨i, hi, fun j q hj hq => ?_⟩
  obtain ⟨l1, e1⟩ := List.getElem?_eq_some_iff.1 hi
  obtain ⟨l2, e2⟩ := List.getElem?_eq_some_iff.1 hq
  have h1 := List.pairwise_iff_getElem.1 (nodesP_pw t.W t.ter.length) j i l2 l1 hj
  rw [e1, e2] at h1
  have h2 : q.1 < t.ter.length ∧ q.2 < t.W := by
    have := List.mem_of_getElem? hq
    obtain ⟨a, b⟩ := q; exact nodesP_mem.1 this
  exact hp.no q h2.1 h2.2 h1
theorem first_node {t : Tk} {hit : Nd → Bool} {p0 : Nd} (h0 : hit p0 = true) (hy : p0.1 < t.ter.length) (hx : p0.2 < t.W) : ∃ p : Nd, FstN t hit p := by
  cases hf : (nodesP t.ter.length t.W).find? hit with
  | none =>
    have := List.find?_eq_none.1 hf p0 (by obtain ⟨a, b⟩ := p0; exact nodesP_mem.2 ⟨hy, hx⟩)
    exact absurd h0 this
  | some p =>
    obtain ⟨hp, as1, bs, he, hn⟩ := List.find?_eq_some_iff_append.1 hf
    have hm : p ∈ nodesP t.ter.length t.W := by rw [he]; simp
    have hpw := nodesP_pw t.W t.ter.length
    have hb : p.1 < t.ter.length ∧ p.2 < t.W := by obtain ⟨a, b⟩ := p; exact nodesP_mem.1 hm
    refine ⟨p, hp, hb.1, hb.2, fun q h1 h2 h3 => ?_⟩
    have hqm : q ∈ nodesP t.ter.length t.W := by obtain ⟨a, b⟩ := q; exact nodesP_mem.2 ⟨h1, h2⟩
    rw [he] at hqm hpw
    rcases List.mem_append.1 hqm with hqm | hqm
    · simpa using hn q hqm
    · rcases List.mem_cons.1 hqm with rfl | hqm
      · omega
      · have := (List.pairwise_cons.1 (List.pairwise_append.1 hpw).2.1).1 q hqm
        omega
theorem hit_some {t : Tk} {s : Nd} {f : Nd → Option Nat} {L : List (List Int)} (hf : Dst t s f) (hL : Lea t L) (hc : 0 ≤ t.cb) : ∃ p, hitF t f (atP L s) p = true ∧ p.1 < t.ter.length ∧ p.2 < t.W := by
  obtain ⟨p, k, h1, h2⟩ := hf.force hL hc
  have hp := hf.rng p k h1
  refine ⟨p, ?_, hp.1, hp.2.1⟩
  unfold hitF
  rw [h1]
  simp only [decide_eq_true_eq]
  unfold Tk.needP at h2
  rw [Int.mul_comm]
  exact h2
abbrev foH (t : Tk) (s : Nd) (L : List (Nd × Nat)) (g : List (List Int)) (a : Int) : MHeap := [⟨0, false, 5, [encT t]⟩, ⟨0, false, 2, [posM s]⟩, ⟨0, false, 2, [posI 0 0]⟩, ⟨0, false, 1, [I64 0]⟩, ⟨0, false, 9, [encO t]⟩, ⟨0, false, 1, [I64 a]⟩, ⟨0, false, 1, g.map encW⟩, ⟨0, false, 1, [.rm (L.map entM)]⟩]
theorem foH_cl (t : Tk) (s : Nd) (L : List (Nd × Nat)) (g : List (List Int)) (a : Int) (X : MHeap) : Cl 8 (foH t s L g a ++ X) := by
  refine ⟨by simp, fun j o hj ho => ?_⟩
  match j, hj with
  | 0, _ => cases ho; simp [ltL, MV.lt, ltL_I, ltL_W]
  | 1, _ => cases ho; rfl
  | 2, _ => cases ho; rfl
  | 3, _ => cases ho; rfl
  | 4, _ => cases ho; simp [ltL, MV.lt, ltL_I, ltL_W, ltL_B]
  | 5, _ => cases ho; rfl
  | 6, _ => cases ho; exact ltL_W 8 g
  | 7, _ => cases ho; simp [ltL, MV.lt, entM_lt]
theorem mf_ForceOn : MT.mf 45 = some ⟨65, [(.cell 4 (some 2)), (.cell 5 none)], (.seq (.reg [⟨none, (some 2), (.box 5 (.s 0))⟩, ⟨none, (some 3), (.box 2 (.s 1))⟩, ⟨none, (some 4), (.new (.agg [(.lit (.int .i64 0)), (.lit (.int .i64 0))]))⟩, ⟨none, (some 5), (.new (.lit (.int .i64 0)))⟩]) (.seq (.reg [⟨none, (some 14), (.ld (some 5) (.s 2))⟩, ⟨none, (some 15), (.call 113 [(.s 14)])⟩, ⟨none, (some 13), (.mv (.s 15))⟩, ⟨none, (some 16), (.ext (.s 13) 0)⟩, ⟨none, (some 17), (.ext (.s 13) 1)⟩, ⟨none, (some 6), (.new (.agg [(.lit (.slice none 0 0)), (.lit (.slice none 0 0)), (.lit (.slice none 0 0)), (.lit (.int .i64 0)), (.lit (.int .i64 0)), (.lit (.int .i64 0)), (.lit (.int .i64 0)), (.lit (.slice none 0 0)), (.lit (.slice none 0 0))]))⟩, ⟨none, none, (.st 9 (.s 6) (.s 16))⟩, ⟨none, (some 7), (.mv (.s 17))⟩]) (.seq (.seq (.reg [⟨none, (some 18), (.mv (.s 7))⟩, ⟨none, (some 19), (.bin .eql (.s 18) (.c (.lit (.int .i64 0))))⟩]) (.cond (.s 19) (.reg [⟨none, (some 20), (.ld (some 9) (.s 6))⟩, ⟨none, (some 21), (.ld (some 2) (.s 3))⟩, ⟨none, (some 22), (.call 116 [(.s 20), (.s 21)])⟩, ⟨none, (some 23), (.call 93 [(.s 22), (.c (.lit (.int .i64 6)))])⟩, ⟨none, (some 7), (.mv (.s 23))⟩]) .skip)) (.seq (.seq (.reg [⟨none, (some 24), (.mv (.s 7))⟩, ⟨none, (some 25), (.bin .neq (.s 24) (.c (.lit (.int .i64 0))))⟩]) (.cond (.s 25) (.seq (.reg [⟨none, (some 26), (.build [(.lit (.int .i64 0)), (.lit (.int .i64 0))] [])⟩, ⟨none, (some 27), (.mv (.s 7))⟩, ⟨none, none, (.st 2 (.s 4) (.s 26))⟩, ⟨none, none, (.st 1 (.s 5) (.s 27))⟩]) .ret) .skip)) (.seq (.reg [⟨none, (some 8), (.new (.lit (.int .i64 0)))⟩, ⟨none, (some 28), (.ld (some 9) (.s 6))⟩, ⟨none, (some 29), (.call 115 [(.s 28)])⟩, ⟨none, (some 30), (.fa 1 (.s 3))⟩, ⟨none, (some 31), (.ld none (.s 30))⟩, ⟨none, (some 32), (.ia 1 (.s 29) (.s 31))⟩, ⟨none, (some 33), (.ld none (.s 32))⟩, ⟨none, (some 34), (.fa 0 (.s 3))⟩, ⟨none, (some 35), (.ld none (.s 34))⟩, ⟨none, (some 36), (.ia 1 (.s 33) (.s 35))⟩, ⟨none, (some 37), (.ld none (.s 36))⟩, ⟨none, (some 8), (.nilck (.s 8))⟩, ⟨none, none, (.st 1 (.s 8) (.s 37))⟩]) (.seq (.reg [⟨none, (some 38), (.ld (some 9) (.s 6))⟩, ⟨none, (some 39), (.ld (some 2) (.s 3))⟩, ⟨none, (some 40), (.call 120 [(.s 38), (.s 39)])⟩, ⟨none, (some 9), (.new (.lit (.map none)))⟩, ⟨none, none, (.st 1 (.s 9) (.s 40))⟩]) (.seq (.seq (.reg [⟨none, (some 41), (.ld (some 9) (.s 6))⟩, ⟨none, (some 42), (.mf 114 1 [(.s 41)])⟩]) (.block 0 (.rf [9, 6, 2, 8, 4, 5] (.s 42) [43] (.reg [⟨none, (some 10), (.new (.agg [(.lit (.int .i64 0)), (.lit (.int .i64 0))]))⟩, ⟨none, none, (.st 2 (.s 10) (.s 43))⟩]) (.block 1 (.seq (.reg [⟨none, (some 45), (.ld none (.s 9))⟩, ⟨none, (some 46), (.ld (some 2) (.s 10))⟩, ⟨none, (some 47), (.mlk 2 (.lit (.int .i64 0)) true (.s 45) (.s 46))⟩, ⟨none, (some 44), (.mv (.s 47))⟩, ⟨none, (some 48), (.ext (.s 44) 0)⟩, ⟨none, (some 49), (.ext (.s 44) 1)⟩, ⟨none, (some 11), (.mv (.s 48))⟩, ⟨none, (some 12), (.mv (.s 49))⟩]) (.seq (.reg [⟨none, (some 50), (.mv (.s 12))⟩, ⟨none, (some 51), (.mv (.s 50))⟩, ⟨(some (51, true)), (some 52), (.ld (some 9) (.s 6))⟩, ⟨(some (51, true)), (some 53), (.ld (some 2) (.s 10))⟩, ⟨(some (51, true)), (some 54), (.call 117 [(.s 52), (.s 53)])⟩, ⟨(some (51, true)), (some 55), (.mv (.s 11))⟩, ⟨(some (51, true)), (some 56), (.fa 4 (.s 2))⟩, ⟨(some (51, true)), (some 57), (.ld none (.s 56))⟩, ⟨(some (51, true)), (some 58), (.bin .mul (.s 55) (.s 57))⟩, ⟨(some (51, true)), (some 59), (.bin .sub (.s 54) (.s 58))⟩, ⟨(some (51, true)), (some 60), (.ld none (.s 8))⟩, ⟨(some (51, true)), (some 61), (.bin .eql (.s 59) (.s 60))⟩, ⟨none, (some 62), (.pick (.s 51) (.s 61) (.c (.lit (.bool false))))⟩]) (.cond (.s 62) (.seq (.reg [⟨none, (some 63), (.ld (some 2) (.s 10))⟩, ⟨none, none, (.st 2 (.s 4) (.s 63))⟩, ⟨none, none, (.st 1 (.s 5) (.c (.lit (.int .i64 0))))⟩]) .ret) .skip))))))) (.seq (.reg [⟨none, (some 64), (.ld (some 2) (.s 3))⟩, ⟨none, none, (.st 2 (.s 4) (.s 64))⟩, ⟨none, none, (.st 1 (.s 5) (.c (.lit (.int .i64 0))))⟩]) .ret))))))))⟩ := by kernel_rfl
set_option maxHeartbeats 4000000 in
theorem ForceOn_z (k : Nat) {t : Tk} (hb : Bd t) (h0 : (taskF id t).2 = 0) {sy sx : Nat} (hs : t.inP (sy, sx)) {g : List (List Int)} (hg : Lea t g) {ff : Nd → Option Nat} (hD : Dst t (sy, sx) ff) {p : Nd} (hp : FstN t (hitF t ff (at2 g sy sx)) p) :
    runZ MT (orA (k + 7)) (itA (k + 7)) 4000000 45 [encT t, posM (sy, sx)] [] = some (clM ((p.2 : Int), (p.1 : Int), 0), []) := by
  have ok := (task_ok h0).1
  have ho := fun h => open_ok k hb h0 h
  have hl := fun h => lowest_c (k + 2) t ok hg h
  obtain ⟨L, hL, hvl, hst⟩ := steps_c (k + 2) t ok hs
  have hff : ff = mF L := funext fun q => hD.uniq hL q
  subst hff
  obtain ⟨h1, h2⟩ := ok.h1
  obtain ⟨w1, w2⟩ := ok.w1
  obtain ⟨c1, c2⟩ := ok.cb
  have hy0 : sy < t.ter.length := hs.1
  have hx0 : sx < t.W := hs.2.1
  have hfl := fun h => flown_c (k + 4) t (sx : Int) (sy : Int) h (by omega) (by omega) ((t.flI_nat hs.1 hs.2.1).trans hs.2.2)
  have hun := fun h => unless_c (k + 6) true 6 h (e := 0) rfl
  have hgl := hg.1.sh.hl
  have hgw := hg.1.sh.row hs.1
  have hyg : sy < g.length := by rw [hgl]; exact hs.1
  have e1 : (g.map encW)[0 + ((sy : Nat) : Int).toNat]? = some (encW (g.getD sy [])) := by
    rw [Nat.zero_add, Int.toNat_natCast, List.getElem?_map, List.getD_eq_getElem?_getD, List.getElem?_eq_getElem hyg]; rfl
  have e2 : ((g.getD sy []).map I64)[((sx : Nat) : Int).toNat]? = some (I64 (at2 g sy sx)) := cell_at (by simp only at hgw; omega)
  obtain ⟨a1, a2⟩ := ok.top hg.pre sy sx hs.1 hs.2.1
  refine runZ_of mf_ForceOn (by simp) ?_
  simp only [argsL]
  repeat (first | apply ef_seq | (apply ef_mv; exact rfl; exact rfl) | (apply ef_bin; exact rfl; exact rfl; exact rfl; (first | exact cmp_t rfl (by first | exact rfl | (simp only [cmpP]; omega)) | exact cmp_f rfl (by simp only [cmpP]; omega))) | (apply ef_ldr; exact rfl; exact rfl; (exact rfl)) | (apply ef_ldp; exact rfl; exact rfl; (exact rfl); exact rfl; (first | exact rfl | assumption); (first | exact rd_2 rfl rfl | exact rd_5 rfl rfl rfl rfl rfl | exact rd_whole rfl | exact rfl)) | (apply ef_ias; exact rfl; exact rfl; exact rfl; (omega); assumption; exact rfl) | (apply ef_iaa; exact rfl; exact rfl; exact rfl; (omega); (omega); (exact rfl)) | (apply ef_fap; exact rfl; exact rfl) | (apply ef_ext; exact rfl; exact rfl; exact rfl) | (apply ef_box; exact rfl; exact rfl; exact rfl; exact rfl) | (apply ef_newst; exact rfl; exact rfl; exact rfl; exact rfl; exact rfl) | (apply ef_new; exact rfl) | (apply ef_mf; exact rfl; (repeat (apply XVs.cons; exact rfl)); exact XVs.nil) | (apply ef_nilck; exact rfl; exact rfl; exact rfl) | (apply ef_st; exact rfl; exact rfl; exact rfl; exact rfl; exact rfl; exact rfl; (exact rfl); exact rfl) | apply ef_nil | apply seqQ.normal | apply ef_block | apply ef_skip | (apply ef_condt; exact rfl; (exact (rfl : true = true))) | (apply ef_condf; exact rfl; (exact (rfl : false = false))) | (apply ef_call; exact rfl; ((repeat (apply XVs.cons; exact rfl)); exact XVs.nil); (with_reducible first | exact ho _ | exact hfl _ | exact hun _ | exact hl _ | exact hst _)))
  obtain ⟨i0, hi0, hno⟩ := hp.at
  have hyes := hp.yes
  clear ho hl hst hfl hun e1 e2 hgw hyg hD
  refine ef_rf (α := MHeap) (ids := []) (fun i X => i ≤ i0) [(9, .ptr 7 0 0 0), (6, .ptr 4 0 0 0), (2, .ptr 0 0 0 0), (8, .ptr 5 0 0 0), (4, .ptr 2 0 0 0), (5, .ptr 3 0 0 0)] (fun X => foH t (sy, sx) L g (at2 g sy sx) ++ X) (fun X => foH t (sy, sx) L g (at2 g sy sx))
    [] (by exact rfl) (nodes_it (k + 7) t ok _) (by simp [posY]) (idsL_lt0 (by simp [ltL, MV.lt, ltL_I, ltL_W, ltL_B])) (by ((repeat (refine Hold.cons (by exact rfl) ?_)); exact Hold.nil)) rfl rfl rfl (Nat.zero_le _) rfl ?_ ?_ ?_
  · rintro i X _
    refine HeadIs.tkE X rfl rfl (foH_cl t (sy, sx) L g (at2 g sy sx) X) fun u hu => ?_
    simp only [List.mem_cons, List.not_mem_nil, or_false] at hu
    rcases hu with rfl | rfl | rfl | rfl | rfl | rfl
    · exact ⟨.ptr 7 0 0 0, by exact rfl, by simp [MV.lt]⟩
    · exact ⟨.ptr 4 0 0 0, by exact rfl, by simp [MV.lt]⟩
    · exact ⟨.ptr 0 0 0 0, by exact rfl, by simp [MV.lt]⟩
    · exact ⟨.ptr 5 0 0 0, by exact rfl, by simp [MV.lt]⟩
    · exact ⟨.ptr 2 0 0 0, by exact rfl, by simp [MV.lt]⟩
    · exact ⟨.ptr 3 0 0 0, by exact rfl, by simp [MV.lt]⟩
  · rintro i X x' hx' hi
    simp only at hi ⊢
    obtain ⟨⟨y, x⟩, hpi, rfl⟩ : ∃ p, (nodesP t.ter.length t.W)[i]? = some p ∧ x' = [posM p] := by
      simp only [posY, List.getElem?_map, Option.map_eq_some_iff] at hx'
      obtain ⟨w, h1, h2⟩ := hx'
      exact ⟨w, h1, h2.symm⟩
    obtain ⟨hy, hxw⟩ := nodesP_mem.1 (List.mem_of_getElem? hpi)
    have hnx : hitF t (mF L) (at2 g sy sx) (y, x) = false → i + 1 ≤ i0 := fun hn => by
      by_cases e : i = i0
      · subst e
        rw [hpi] at hi0
        cases hi0
        rw [hyes] at hn
        cases hn
      · omega
    have hhit : hitF t (mF L) (at2 g sy sx) (y, x) = true → (y, x) = p := fun hn => by
      by_cases e : i = i0
      · subst e
        rw [hpi] at hi0
        cases hi0
        rfl
      · have := hno i (y, x) (by omega) hpi
        rw [hn] at this; cases this
    obtain ⟨n1, n2⟩ := ok.need hy hxw
    simp only [putA]
    clear hx' hpi hi0 hno
    repeat (first | (apply ef_newst; exact rfl; exact rfl; exact rfl; exact rfl; exact rfl) | apply ef_nil)
    apply preQ.normal
    cases hm : mF L (y, x) with
    | none =>
      have hf1 := mfind_none hm
      repeat (first | apply ef_seq | (apply ef_mv; exact rfl; exact rfl) | (apply ef_gn; exact rfl; (exact (rfl : false = false)); exact rfl) | (apply ef_pick; exact rfl; exact rfl; exact rfl) | (apply ef_ldp; exact rfl; exact rfl; (exact rfl); exact rfl; (exact rfl); (first | exact rd_2 rfl rfl | exact rfl)) | (apply ef_ext; exact rfl; exact rfl; exact rfl) | (apply ef_mlk; exact rfl; exact rfl; exact rfl; (exact rfl); exact rfl; (assumption); exact rfl) | apply ef_nil | apply seqQ.normal | apply blockQ.normal | apply ef_block | apply ef_skip | (apply ef_condf; exact rfl; (exact (rfl : false = false))))
      apply rfQ.normal
      exact ⟨[⟨0, false, 2, [posM (y, x)]⟩], hnx (by simp [hitF, hm]), rfl⟩
    | some k0 =>
      obtain ⟨j1, hf1⟩ := mfind_some hm
      have hk := hvl _ _ hm
      have hown := fun h => own_c (k + 6) t ok hy hxw h
      have hm1 : 0 ≤ (k0 : Int) * t.cb := Int.mul_nonneg (by omega) c1
      have hm2 : (k0 : Int) * t.cb ≤ 144 * 10000 := Int.mul_le_mul (by omega) c2 c1 (by omega)
      by_cases hr : t.need y x - (k0 : Int) * t.cb = at2 g sy sx
      · have hpe := hhit (by simp [hitF, hm, hr])
        subst hpe
        repeat (first | apply ef_seq | (apply ef_mv; exact rfl; exact rfl) | (apply ef_bin; exact rfl; exact rfl; exact rfl; (first | exact cmp_t rfl (by first | exact rfl | (simp only [cmpP]; omega)) | ((with_reducible refine bin_sub (wrap_of ?_ ?_)) <;> omega) | ((with_reducible refine bin_mul (wrap_of ?_ ?_)) <;> omega))) | (apply ef_gy; exact rfl; (exact (rfl : true = true))) | (apply ef_pick; exact rfl; exact rfl; exact rfl) | (apply ef_ldp; exact rfl; exact rfl; (exact rfl); exact rfl; (exact rfl); (first | exact rd_2 rfl rfl | exact rd_whole rfl | exact rfl)) | (apply ef_fap; exact rfl; exact rfl) | (apply ef_ext; exact rfl; exact rfl; exact rfl) | (apply ef_mlk; exact rfl; exact rfl; exact rfl; (exact rfl); exact rfl; (assumption); exact rfl) | (apply ef_st; exact rfl; exact rfl; exact rfl; exact rfl; exact rfl; exact rfl; (exact rfl); exact rfl) | apply ef_nil | apply seqQ.normal | apply ef_ret | apply blockQ.ret | apply ef_block | (apply ef_condt; exact rfl; (exact (rfl : true = true))) | (apply ef_call; exact rfl; ((repeat (apply XVs.cons; exact rfl)); exact XVs.nil); (with_reducible exact hown _)))
        apply rfQ.ret
        repeat (first | apply seqQ.ret | apply blockQ.ret)
        (apply fin_cc; (· exact rfl); (· exact rfl); (· exact rfl); (· exact rfl); (· exact rfl); (· exact rfl); (· exact rfl); (· exact rfl); (· exact rfl))
      · repeat (first | apply ef_seq | (apply ef_mv; exact rfl; exact rfl) | (apply ef_bin; exact rfl; exact rfl; exact rfl; (first | exact cmp_f rfl (by simp only [cmpP]; omega) | ((with_reducible refine bin_sub (wrap_of ?_ ?_)) <;> omega) | ((with_reducible refine bin_mul (wrap_of ?_ ?_)) <;> omega))) | (apply ef_gy; exact rfl; (exact (rfl : true = true))) | (apply ef_pick; exact rfl; exact rfl; exact rfl) | (apply ef_ldp; exact rfl; exact rfl; (exact rfl); exact rfl; (exact rfl); (first | exact rd_2 rfl rfl | exact rd_whole rfl | exact rfl)) | (apply ef_fap; exact rfl; exact rfl) | (apply ef_ext; exact rfl; exact rfl; exact rfl) | (apply ef_mlk; exact rfl; exact rfl; exact rfl; (exact rfl); exact rfl; (assumption); exact rfl) | apply ef_nil | apply seqQ.normal | apply blockQ.normal | apply ef_block | apply ef_skip | (apply ef_condf; exact rfl; (exact (rfl : false = false))) | (apply ef_call; exact rfl; ((repeat (apply XVs.cons; exact rfl)); exact XVs.nil); (with_reducible exact hown _)))
        apply rfQ.normal
        exact ⟨[⟨0, false, 2, [posM (y, x)]⟩], hnx (by simp [hitF, hm, hr]), rfl⟩
  · rintro X hX
    have := (List.getElem?_eq_some_iff.1 hi0).1
    simp [posY] at hX
    omega
theorem ForceOn_ok (k : Nat) {t : Tk} (hb : Bd t) (h0 : (taskF id t).2 = 0) {sy sx : Nat} (hs : t.inP (sy, sx)) {g : List (List Int)} (hg : Lea t g) {ff : Nd → Option Nat} (hD : Dst t (sy, sx) ff) {p : Nd} (hp : FstN t (hitF t ff (at2 g sy sx)) p) (h : MHeap) :
    orA (k + 8) 45 [encT t, posM (sy, sx)] h = some (clM ((p.2 : Int), (p.1 : Int), 0), h) := by
  have := callA (k := k + 7) (h := h) (frzL_lt (ms := [encT t, posM (sy, sx)]) (by simp [ltL, MV.lt, ltL_I, ltL_W])) rfl (ForceOn_z k hb h0 hs hg hD hp) (by simp [clM, okV, ok1, ltL, MV.lt, MV.pure, pureL]) rfl
  simpa [shV, sh1, clM] using this
theorem ForceOn_bad (k : Nat) {t : Tk} (hb : Bd t) (h0 : (taskF id t).2 ≠ 0) (X Y : Int) (h : MHeap) : orA (k + 8) 45 [encT t, posI X Y] h = some (clM (0, 0, (taskF id t).2), h) := by
  have ho := fun h => open_bad k hb h0 h
  generalize (taskF id t).2 = e at *
  have hz : runZ MT (orA (k + 7)) (itA (k + 7)) 4000000 45 [encT t, posI X Y] [] = some (clM (0, 0, e), []) := by
    refine runZ_of mf_ForceOn (by simp) ?_
    simp only [argsL]
    repeat (first | apply ef_seq | (apply ef_mv; exact rfl; exact rfl) | (apply ef_bin; exact rfl; exact rfl; exact rfl; (first | exact cmp_t rfl (by first | exact rfl | (simp only [cmpP]; omega)) | exact cmp_f rfl (by simp only [cmpP]; omega))) | (apply ef_ldp; exact rfl; exact rfl; (exact rfl); exact rfl; (exact rfl); (exact rd_5 rfl rfl rfl rfl rfl)) | (apply ef_ext; exact rfl; exact rfl; exact rfl) | (apply ef_box; exact rfl; exact rfl; exact rfl; exact rfl) | (apply ef_newst; exact rfl; exact rfl; exact rfl; exact rfl; exact rfl) | (apply ef_new; exact rfl) | (apply ef_build; exact rfl; (repeat (apply XVs.cons; exact rfl)); exact XVs.nil; exact rfl; exact rfl) | (apply ef_st; exact rfl; exact rfl; exact rfl; exact rfl; exact rfl; exact rfl; (exact rfl); exact rfl) | apply ef_nil | apply seqQ.normal | apply ef_ret | apply seqQ.ret | apply ef_skip | (apply ef_condt; exact rfl; (exact (rfl : true = true))) | (apply ef_condf; exact rfl; (exact (rfl : false = false))) | (apply ef_call; exact rfl; ((repeat (apply XVs.cons; exact rfl)); exact XVs.nil); (with_reducible exact ho _)))
    exact fin_cc rfl (by exact rfl) (by exact rfl) rfl rfl (by exact rfl) (by exact rfl) rfl rfl
  have := callA (k := k + 7) (h := h) (frzL_lt (ms := [encT t, posI X Y]) (by simp [ltL, MV.lt, ltL_I, ltL_W])) rfl hz (by simp [clM, okV, ok1, ltL, MV.lt, MV.pure, pureL]) rfl
  simpa [shV, sh1, clM] using this
theorem ForceOn_out (k : Nat) {t : Tk} (hb : Bd t) (h0 : (taskF id t).2 = 0) {X Y : Int} (hf : t.flI X Y = false) (h : MHeap) : orA (k + 8) 45 [encT t, posI X Y] h = some (clM (0, 0, 6), h) := by
  have ok := (task_ok h0).1
  have ho := fun h => open_ok k hb h0 h
  obtain ⟨h1, h2⟩ := ok.h1
  obtain ⟨w1, w2⟩ := ok.w1
  have hfl := fun h => flown_c (k + 4) t X Y h (by omega) (by omega) hf
  have hun := fun h => unless_c (k + 6) false 6 h (e := 6) rfl
  have hz : runZ MT (orA (k + 7)) (itA (k + 7)) 4000000 45 [encT t, posI X Y] [] = some (clM (0, 0, 6), []) := by
    refine runZ_of mf_ForceOn (by simp) ?_
    simp only [argsL]
    repeat (first | apply ef_seq | (apply ef_mv; exact rfl; exact rfl) | (apply ef_bin; exact rfl; exact rfl; exact rfl; (exact cmp_t rfl (by first | exact rfl | (simp only [cmpP]; omega)))) | (apply ef_ldp; exact rfl; exact rfl; (exact rfl); exact rfl; (exact rfl); (first | exact rd_2 rfl rfl | exact rd_5 rfl rfl rfl rfl rfl | exact rd_whole rfl)) | (apply ef_ext; exact rfl; exact rfl; exact rfl) | (apply ef_box; exact rfl; exact rfl; exact rfl; exact rfl) | (apply ef_newst; exact rfl; exact rfl; exact rfl; exact rfl; exact rfl) | (apply ef_new; exact rfl) | (apply ef_build; exact rfl; (repeat (apply XVs.cons; exact rfl)); exact XVs.nil; exact rfl; exact rfl) | (apply ef_st; exact rfl; exact rfl; exact rfl; exact rfl; exact rfl; exact rfl; (exact rfl); exact rfl) | apply ef_nil | apply seqQ.normal | apply ef_ret | apply seqQ.ret | (apply ef_condt; exact rfl; (exact (rfl : true = true))) | (apply ef_call; exact rfl; ((repeat (apply XVs.cons; exact rfl)); exact XVs.nil); (with_reducible first | exact ho _ | exact hfl _ | exact hun _)))
    exact fin_cc rfl (by exact rfl) (by exact rfl) rfl rfl (by exact rfl) (by exact rfl) rfl rfl
  have := callA (k := k + 7) (h := h) (frzL_lt (ms := [encT t, posI X Y]) (by simp [ltL, MV.lt, ltL_I, ltL_W])) rfl hz (by simp [clM, okV, ok1, ltL, MV.lt, MV.pure, pureL]) rfl
  simpa [shV, sh1, clM] using this
end Go.Proofs.Ytgjpdjihjphbdaa

/- The contract of the reference's force. -/
namespace Go.Proofs.Ytgjpdjihjphbdaa
open Go.RowKit
set_option linter.unusedVariables false

theorem fin_pos {x : MX2} {A : Sl} {h : MHeap} {t it : Nat} {ot : MObj} {a b : Int} (hx : outX x = true) (h1 : look A t = some (.ptr it 0 0 0)) (h2 : h[it]? = some ot) (h3 : ot.g = 0) (h4 : ot.es = [posI a b]) : FinF [.cell t (some 2)] (posI a b) [] x A h :=
  ⟨hx, [posI a b], [posI a b], ⟨_, [], rfl, ⟨it, 0, 0, 0, ot, _, h1, h2, h3, by rw [h4]; rfl, rd_2 rfl rfl⟩, rfl⟩, by simp [impIds], by simp [expL, frz, MV.lt, ltL, impIds], rfl⟩
abbrev rfH (t : Tk) (s : Nd) (f : Nd → Option Nat) (g : List (List Int)) : MHeap := [⟨0, false, 5, [encT t]⟩, ⟨0, false, 2, [posM s]⟩, ⟨0, false, 2, [posI 0 0]⟩, ⟨0, false, 1, g.map encW⟩, ⟨0, false, 1, (stG t f).map encW⟩]
theorem encW_at {g : List (List Int)} {y : Nat} (h : y < g.length) : (g.map encW)[0 + ((y : Nat) : Int).toNat]? = some (encW (g.getD y [])) := by
  rw [Nat.zero_add, Int.toNat_natCast, List.getElem?_map, List.getD_eq_getElem?_getD, List.getElem?_eq_getElem h]; rfl
theorem stG_len (t : Tk) (f : Nd → Option Nat) : (stG t f).length = t.ter.length := by simp [stG]
theorem stG_w {t : Tk} {f : Nd → Option Nat} {y : Nat} (hy : y < t.ter.length) : ((stG t f).getD y []).length = t.W := by rw [stG_row hy]; simp
theorem mf_rForce : MT.mf 48 = some ⟨68, [(.cell 4 (some 2))], (.seq (.reg [⟨none, (some 2), (.box 5 (.s 0))⟩, ⟨none, (some 3), (.box 2 (.s 1))⟩, ⟨none, (some 4), (.new (.agg [(.lit (.int .i64 0)), (.lit (.int .i64 0))]))⟩]) (.seq (.reg [⟨none, (some 9), (.ld (some 5) (.s 2))⟩, ⟨none, (some 10), (.call 43 [(.s 9)])⟩, ⟨none, (some 5), (.mv (.s 10))⟩]) (.seq (.reg [⟨none, (some 11), (.ld (some 5) (.s 2))⟩, ⟨none, (some 12), (.ld (some 2) (.s 3))⟩, ⟨none, (some 13), (.call 50 [(.s 11), (.s 12)])⟩, ⟨none, (some 6), (.mv (.s 13))⟩]) (.seq (.seq (.reg [⟨none, (some 7), (.mv (.c (.lit (.int .i64 0))))⟩]) (.block 0 (.loop [7, 6, 2, 5, 3, 4] (.seq (.seq (.reg [⟨none, (some 14), (.mv (.s 7))⟩, ⟨none, (some 15), (.mv (.s 6))⟩, ⟨none, (some 16), (.len (.s 15))⟩, ⟨none, (some 17), (.bin .lss (.s 14) (.s 16))⟩]) (.cond (.s 17) .skip (.exit 0))) (.seq (.block 1 (.seq (.reg [⟨none, (some 8), (.mv (.c (.lit (.int .i64 0))))⟩]) (.block 2 (.loop [8, 6, 7, 2, 5, 3, 4] (.seq (.seq (.reg [⟨none, (some 20), (.mv (.s 8))⟩, ⟨none, (some 21), (.mv (.s 6))⟩, ⟨none, (some 22), (.mv (.s 7))⟩, ⟨none, (some 23), (.ia 1 (.s 21) (.s 22))⟩, ⟨none, (some 24), (.ld none (.s 23))⟩, ⟨none, (some 25), (.len (.s 24))⟩, ⟨none, (some 26), (.bin .lss (.s 20) (.s 25))⟩]) (.cond (.s 26) .skip (.exit 2))) (.seq (.block 3 (.seq (.reg [⟨none, (some 29), (.mv (.s 6))⟩, ⟨none, (some 30), (.mv (.s 7))⟩, ⟨none, (some 31), (.ia 1 (.s 29) (.s 30))⟩, ⟨none, (some 32), (.ld none (.s 31))⟩, ⟨none, (some 33), (.mv (.s 8))⟩, ⟨none, (some 34), (.ia 1 (.s 32) (.s 33))⟩, ⟨none, (some 35), (.ld none (.s 34))⟩, ⟨none, (some 36), (.bin .geq (.s 35) (.c (.lit (.int .i64 0))))⟩, ⟨none, (some 37), (.mv (.s 36))⟩, ⟨(some (37, true)), (some 38), (.ld (some 5) (.s 2))⟩, ⟨(some (37, true)), (some 39), (.mv (.s 8))⟩, ⟨(some (37, true)), (some 40), (.mv (.s 7))⟩, ⟨(some (37, true)), (some 41), (.call 51 [(.s 38), (.s 39), (.s 40)])⟩, ⟨(some (37, true)), (some 42), (.fa 4 (.s 2))⟩, ⟨(some (37, true)), (some 43), (.ld none (.s 42))⟩, ⟨(some (37, true)), (some 44), (.mv (.s 6))⟩, ⟨(some (37, true)), (some 45), (.mv (.s 7))⟩, ⟨(some (37, true)), (some 46), (.ia 1 (.s 44) (.s 45))⟩, ⟨(some (37, true)), (some 47), (.ld none (.s 46))⟩, ⟨(some (37, true)), (some 48), (.mv (.s 8))⟩, ⟨(some (37, true)), (some 49), (.ia 1 (.s 47) (.s 48))⟩, ⟨(some (37, true)), (some 50), (.ld none (.s 49))⟩, ⟨(some (37, true)), (some 51), (.bin .mul (.s 43) (.s 50))⟩, ⟨(some (37, true)), (some 52), (.bin .sub (.s 41) (.s 51))⟩, ⟨(some (37, true)), (some 53), (.mv (.s 5))⟩, ⟨(some (37, true)), (some 54), (.fa 1 (.s 3))⟩, ⟨(some (37, true)), (some 55), (.ld none (.s 54))⟩, ⟨(some (37, true)), (some 56), (.ia 1 (.s 53) (.s 55))⟩, ⟨(some (37, true)), (some 57), (.ld none (.s 56))⟩, ⟨(some (37, true)), (some 58), (.fa 0 (.s 3))⟩, ⟨(some (37, true)), (some 59), (.ld none (.s 58))⟩, ⟨(some (37, true)), (some 60), (.ia 1 (.s 57) (.s 59))⟩, ⟨(some (37, true)), (some 61), (.ld none (.s 60))⟩, ⟨(some (37, true)), (some 62), (.bin .eql (.s 52) (.s 61))⟩, ⟨none, (some 63), (.pick (.s 37) (.s 62) (.c (.lit (.bool false))))⟩]) (.cond (.s 63) (.seq (.reg [⟨none, (some 64), (.mv (.s 8))⟩, ⟨none, (some 65), (.mv (.s 7))⟩, ⟨none, (some 66), (.build [(.lit (.int .i64 0)), (.lit (.int .i64 0))] [(0, (1, (.s 64))), (1, (1, (.s 65)))])⟩, ⟨none, none, (.st 2 (.s 4) (.s 66))⟩]) .ret) .skip))) (.reg [⟨none, (some 27), (.mv (.s 8))⟩, ⟨none, (some 28), (.bin .add (.s 27) (.c (.lit (.int .i64 1))))⟩, ⟨none, (some 8), (.mv (.s 28))⟩]))))))) (.reg [⟨none, (some 18), (.mv (.s 7))⟩, ⟨none, (some 19), (.bin .add (.s 18) (.c (.lit (.int .i64 1))))⟩, ⟨none, (some 7), (.mv (.s 19))⟩])))))) (.seq (.reg [⟨none, (some 67), (.build [(.lit (.int .i64 0)), (.lit (.int .i64 0))] [])⟩, ⟨none, none, (.st 2 (.s 4) (.s 67))⟩]) .ret)))))⟩ := by kernel_rfl
set_option maxHeartbeats 4000000 in
theorem rForce_z (k : Nat) {t : Tk} (ok : OkT t) (hb : Bd t) {sy sx : Nat} (hs : t.inP (sy, sx)) {g : List (List Int)} (hg : Lea t g) {f : Nd → Option Nat} (hD : Dst t (sy, sx) f) (hvl : ∀ p k, f p = some k → k ≤ 144) {p : Nd} (hp : FstN t (hitF t f (at2 g sy sx)) p) :
    runZ MT (orA (k + 3)) (itA (k + 3)) 4000000 48 [encT t, posM (sy, sx)] [] = some (posI (p.2 : Int) (p.1 : Int), []) := by
  have hrl := fun h => rLowest_c k ok hb hg h
  have hst := fun h => rSteps_c k ok hb hs hD h
  obtain ⟨h1, h2⟩ := ok.h1
  obtain ⟨w1, w2⟩ := ok.w1
  obtain ⟨c1, c2⟩ := ok.cb
  have hy0 : sy < t.ter.length := hs.1
  have hx0 : sx < t.W := hs.2.1
  have hgl : g.length = t.ter.length := hg.1.sh.hl
  have hgw := hg.1.sh.row hs.1
  simp only at hgw
  have e1 := encW_at (g := g) (y := sy) (by omega)
  have e2 : ((g.getD sy []).map I64)[((sx : Nat) : Int).toNat]? = some (I64 (at2 g sy sx)) := cell_at (by omega)
  obtain ⟨a1, a2⟩ := ok.top hg.pre sy sx hs.1 hs.2.1
  have hpy := hp.y
  have hpx := hp.x
  have hyes := hp.yes
  refine runZ_of mf_rForce (by simp) ?_
  simp only [argsL]
  repeat (first | apply ef_seq | (apply ef_mv; exact rfl; exact rfl) | (apply ef_ldp; exact rfl; exact rfl; (exact rfl); exact rfl; (exact rfl); (first | exact rd_2 rfl rfl | exact rd_5 rfl rfl rfl rfl rfl)) | (apply ef_box; exact rfl; exact rfl; exact rfl; exact rfl) | (apply ef_new; exact rfl) | apply ef_nil | apply seqQ.normal | apply ef_block | (apply ef_call; exact rfl; ((repeat (apply XVs.cons; exact rfl)); exact XVs.nil); (with_reducible first | exact hrl _ | exact hst _)))
  refine ef_loopf (α := Nat) (fun y => y ≤ p.1) (fun y => [(7, I64 (y : Int))]) [(6, .arr 4 0 t.ter.length 0), (2, .ptr 0 0 0 0), (5, .arr 3 0 t.ter.length 0), (3, .ptr 1 0 0 0), (4, .ptr 2 0 0 0)] (fun _ => rfH t (sy, sx) f g) (fun y => t.ter.length - y) 0 [7] (fun _ => rfl) (by ((repeat (refine Hold.cons (by exact rfl) ?_)); exact Hold.nil)) (by ((repeat (refine Hold.cons (by exact rfl) ?_)); exact Hold.nil)) rfl rfl (Nat.zero_le _) (by simp; omega) ?_
  intro y hy
  try simp only at hy ⊢
  have hyl : y < t.ter.length := by omega
  have r1 := encW_at (g := stG t f) (y := y) (by rw [stG_len]; exact hyl)
  have r2 : (encW ((stG t f).getD y [])).slen = some t.W := by simp [MV.slen]; exact stG_w hyl
  repeat (first | apply ef_seq | (apply ef_mv; exact rfl; exact rfl) | (apply ef_bin; exact rfl; exact rfl; exact rfl; (exact cmp_t rfl (by first | exact rfl | (simp only [cmpP]; omega)))) | (apply ef_len; exact rfl; exact rfl; (exact rfl)) | apply ef_nil | apply seqQ.normal | apply ef_block | apply ef_skip | (apply ef_condt; exact rfl; (exact (rfl : true = true))))
  refine ef_loopf (α := Nat) (fun x => (y < p.1 ∧ x ≤ t.W) ∨ (y = p.1 ∧ x ≤ p.2)) (fun x => [(8, I64 (x : Int))]) [(6, .arr 4 0 t.ter.length 0), (7, I64 (y : Int)), (2, .ptr 0 0 0 0), (5, .arr 3 0 t.ter.length 0), (3, .ptr 1 0 0 0), (4, .ptr 2 0 0 0)] (fun _ => rfH t (sy, sx) f g) (fun x => t.W - x) 0 [8] (fun _ => rfl) (by ((repeat (refine Hold.cons (by exact rfl) ?_)); exact Hold.nil)) (by ((repeat (refine Hold.cons (by exact rfl) ?_)); exact Hold.nil)) rfl rfl (by show (y < p.1 ∧ 0 ≤ t.W) ∨ (y = p.1 ∧ 0 ≤ p.2); omega) (by simp; omega) ?_
  intro x hx
  try simp only at hx ⊢
  by_cases hlt : x < t.W
  · have r3 : (((stG t f).getD y []).map I64)[((x : Nat) : Int).toNat]? = some (I64 (at2 (stG t f) y x)) := cell_at (by rw [stG_w hyl]; exact hlt)
    have hv := stG_at (f := f) hyl hlt
    have hnd := fun h => rNeed_c (k + 2) t ok hyl hlt h
    obtain ⟨n1, n2⟩ := ok.need hyl hlt
    have hnx : hitF t f (at2 g sy sx) (y, x) = false → (y < p.1 ∧ x + 1 ≤ t.W) ∨ (y = p.1 ∧ x + 1 ≤ p.2) := fun hn => by
      rcases hx with hx | ⟨rfl, hx⟩
      · exact .inl ⟨hx.1, hlt⟩
      · refine .inr ⟨rfl, ?_⟩
        by_cases e : x = p.2
        · subst e
          rw [hyes] at hn; cases hn
        · omega
    have hhit : hitF t f (at2 g sy sx) (y, x) = true → (y, x) = p := fun hn => by
      by_cases e : y = p.1 ∧ x = p.2
      · obtain ⟨rfl, rfl⟩ := e; rfl
      · have := hp.no (y, x) hyl hlt (by simp only; omega)
        rw [hn] at this; cases this
    cases hm : f (y, x) with
    | none =>
      rw [hm] at hv
      have hr : ¬ (0 ≤ at2 (stG t f) y x) := by rw [hv]; simp [stI]
      repeat (first | apply ef_seq | (apply ef_mv; exact rfl; exact rfl) | (apply ef_bin; exact rfl; exact rfl; exact rfl; (first | exact cmp_t rfl (by first | exact rfl | (simp only [cmpP]; omega)) | exact cmp_f rfl (by simp only [cmpP]; omega) | ((with_reducible refine bin_add (wrap_of ?_ ?_)) <;> omega))) | (apply ef_gn; exact rfl; (exact (rfl : false = false)); exact rfl) | (apply ef_pick; exact rfl; exact rfl; exact rfl) | (apply ef_len; exact rfl; exact rfl; (assumption)) | (apply ef_ldr; exact rfl; exact rfl; (exact rfl)) | (apply ef_ldp; exact rfl; exact rfl; (exact rfl); exact rfl; (assumption); (exact rfl)) | (apply ef_ias; exact rfl; exact rfl; exact rfl; (omega); assumption; exact rfl) | (apply ef_iaa; exact rfl; exact rfl; exact rfl; (omega); (omega); (exact rfl)) | apply ef_nil | apply seqQ.normal | apply blockQ.normal | apply ef_block | apply ef_skip | (apply ef_condt; exact rfl; (exact (rfl : true = true))) | (apply ef_condf; exact rfl; (exact (rfl : false = false))))
      (refine loopQ.normal _ _ ⟨x + 1, (hnx (by simp [hitF, hm])), (by first | (simp only; omega) | omega), ⟨by ((repeat (refine Hold.cons (by exact rfl) ?_)); exact Hold.nil), by ((repeat (refine Hold.cons (by exact rfl) ?_)); exact Hold.nil)⟩, .inl (Nat.le_refl _), (by first | exact List.take_length | exact rfl | exact takeF rfl rfl)⟩)
    | some k0 =>
      have hk := hvl _ _ hm
      rw [hm] at hv
      have hv : at2 (stG t f) y x = (k0 : Int) := hv
      rw [hv] at r3
      have hm1 : 0 ≤ t.cb * (k0 : Int) := Int.mul_nonneg c1 (by omega)
      have hm2 : t.cb * (k0 : Int) ≤ 10000 * 144 := Int.mul_le_mul c2 (by omega) (by omega) (by omega)
      by_cases hr : t.need y x - t.cb * (k0 : Int) = at2 g sy sx
      · have hpe := hhit (by rw [Int.mul_comm] at hr; simp [hitF, hm, hr])
        subst hpe
        repeat (first | apply ef_seq | (apply ef_mv; exact rfl; exact rfl) | (apply ef_bin; exact rfl; exact rfl; exact rfl; (first | exact cmp_t rfl (by first | exact rfl | (simp only [cmpP]; omega)) | ((with_reducible refine bin_sub (wrap_of ?_ ?_)) <;> omega) | ((with_reducible refine bin_mul (wrap_of ?_ ?_)) <;> omega))) | (apply ef_gy; exact rfl; (exact (rfl : true = true))) | (apply ef_pick; exact rfl; exact rfl; exact rfl) | (apply ef_len; exact rfl; exact rfl; (assumption)) | (apply ef_ldr; exact rfl; exact rfl; (exact rfl)) | (apply ef_ldp; exact rfl; exact rfl; (exact rfl); exact rfl; (first | exact rfl | assumption); (first | exact rd_5 rfl rfl rfl rfl rfl | exact rfl)) | (apply ef_ias; exact rfl; exact rfl; exact rfl; (omega); assumption; exact rfl) | (apply ef_iaa; exact rfl; exact rfl; exact rfl; (omega); (omega); (exact rfl)) | (apply ef_fap; exact rfl; exact rfl) | (apply ef_build; exact rfl; (repeat (apply XVs.cons; exact rfl)); exact XVs.nil; exact rfl; exact rfl) | (apply ef_st; exact rfl; exact rfl; exact rfl; exact rfl; exact rfl; exact rfl; (exact rfl); exact rfl) | apply ef_nil | apply seqQ.normal | apply loopQ.ret | apply ef_ret | apply seqQ.ret | apply blockQ.ret | apply ef_block | apply ef_skip | (apply ef_condt; exact rfl; (exact (rfl : true = true))) | (apply ef_call; exact rfl; ((repeat (apply XVs.cons; exact rfl)); exact XVs.nil); (with_reducible exact hnd _)))
        (apply fin_pos; (· exact rfl); (· exact rfl); (· exact rfl); (· exact rfl); (· exact rfl))
      · repeat (first | apply ef_seq | (apply ef_mv; exact rfl; exact rfl) | (apply ef_bin; exact rfl; exact rfl; exact rfl; (first | exact cmp_t rfl (by first | exact rfl | (simp only [cmpP]; omega)) | exact cmp_f rfl (by simp only [cmpP]; omega) | ((with_reducible refine bin_add (wrap_of ?_ ?_)) <;> omega) | ((with_reducible refine bin_sub (wrap_of ?_ ?_)) <;> omega) | ((with_reducible refine bin_mul (wrap_of ?_ ?_)) <;> omega))) | (apply ef_gy; exact rfl; (exact (rfl : true = true))) | (apply ef_pick; exact rfl; exact rfl; exact rfl) | (apply ef_len; exact rfl; exact rfl; (assumption)) | (apply ef_ldr; exact rfl; exact rfl; (exact rfl)) | (apply ef_ldp; exact rfl; exact rfl; (exact rfl); exact rfl; (first | exact rfl | assumption); (first | exact rd_5 rfl rfl rfl rfl rfl | exact rfl)) | (apply ef_ias; exact rfl; exact rfl; exact rfl; (omega); assumption; exact rfl) | (apply ef_iaa; exact rfl; exact rfl; exact rfl; (omega); (omega); (exact rfl)) | (apply ef_fap; exact rfl; exact rfl) | apply ef_nil | apply seqQ.normal | apply blockQ.normal | apply ef_block | apply ef_skip | (apply ef_condt; exact rfl; (exact (rfl : true = true))) | (apply ef_condf; exact rfl; (exact (rfl : false = false))) | (apply ef_call; exact rfl; ((repeat (apply XVs.cons; exact rfl)); exact XVs.nil); (with_reducible exact hnd _)))
        (refine loopQ.normal _ _ ⟨x + 1, (hnx (by rw [Int.mul_comm] at hr; simp [hitF, hm, hr])), (by first | (simp only; omega) | omega), ⟨by ((repeat (refine Hold.cons (by exact rfl) ?_)); exact Hold.nil), by ((repeat (refine Hold.cons (by exact rfl) ?_)); exact Hold.nil)⟩, .inl (Nat.le_refl _), (by first | exact List.take_length | exact rfl | exact takeF rfl rfl)⟩)
  · repeat (first | apply ef_seq | (apply ef_mv; exact rfl; exact rfl) | (apply ef_bin; exact rfl; exact rfl; exact rfl; (first | exact cmp_f rfl (by simp only [cmpP]; omega) | ((with_reducible refine bin_add (wrap_of ?_ ?_)) <;> omega))) | (apply ef_len; exact rfl; exact rfl; (assumption)) | (apply ef_ldp; exact rfl; exact rfl; (exact rfl); exact rfl; (assumption); (exact rfl)) | (apply ef_iaa; exact rfl; exact rfl; exact rfl; (omega); (omega); (exact rfl)) | apply ef_nil | apply seqQ.normal | apply loopQ.exit | apply ef_exit | apply seqQ.exit | apply blockQ.normal | apply blockQ.here | (apply ef_condf; exact rfl; (exact (rfl : false = false))))
    (refine loopQ.normal _ _ ⟨y + 1, (by show y + 1 ≤ p.1; omega), (by first | (simp only; omega) | omega), ⟨by ((repeat (refine Hold.cons (by exact rfl) ?_)); exact Hold.nil), by ((repeat (refine Hold.cons (by exact rfl) ?_)); exact Hold.nil)⟩, .inl (Nat.le_refl _), (by first | exact List.take_length | exact rfl | exact takeF rfl rfl)⟩)
theorem rForce_c (k : Nat) {t : Tk} (ok : OkT t) (hb : Bd t) {sy sx : Nat} (hs : t.inP (sy, sx)) {g : List (List Int)} (hg : Lea t g) {f : Nd → Option Nat} (hD : Dst t (sy, sx) f) (hvl : ∀ p k, f p = some k → k ≤ 144) {p : Nd} (hp : FstN t (hitF t f (at2 g sy sx)) p) (h : MHeap) :
    orA (k + 4) 48 [encT t, posM (sy, sx)] h = some (posI (p.2 : Int) (p.1 : Int), h) := by
  have := callA (k := k + 3) (h := h) (frzL_lt (ms := [encT t, posM (sy, sx)]) (by simp [ltL, MV.lt, ltL_I, ltL_W])) rfl (rForce_z k ok hb hs hg hD hvl hp) (by simp [okV, ok1, ltL, MV.lt, MV.pure, pureL]) rfl
  simpa [shV, sh1] using this
end Go.Proofs.Ytgjpdjihjphbdaa

/- Plain laws of lowest surfaces: more clearance, more climb, more rows; what is accepted. -/
namespace Go.Proofs.Ytgjpdjihjphbdaa
open Go.RowKit
set_option linter.unusedVariables false

theorem surfE_of {t : Tk} {s : List (List Int)} (os : OkZ t s) : surfE t s = 0 := by
  have h1 : s.length = t.ter.length := os.sh.hl
  have h2 : (s.any fun r => !decide (r.length = t.W)) = false := by
    rw [List.any_eq_false]
    intro r hr
    obtain ⟨y, hy, rfl⟩ := List.getElem_of_mem hr
    simp [os.sh.wl y hy]
  rw [surfE_rest h1 h2]
  have h3 : (s.flatten.any fun n => !inB n 0 10000000) = false := by
    rw [List.any_eq_false]
    intro n hn
    obtain ⟨r, hr, hn⟩ := List.mem_flatten.1 hn
    obtain ⟨y, hy, rfl⟩ := List.getElem_of_mem hr
    obtain ⟨x, hx, rfl⟩ := List.getElem_of_mem hn
    have hw := os.sh.wl y hy
    have := os.rg y x (by rw [← os.sh.hl]; exact hy) (by omega)
    rw [at2_get hy hx] at this
    rw [inB_iff.2 this]; simp
  rw [h3]; rfl
theorem Lea.okz {t : Tk} (ok : OkT t) {g : List (List Int)} (hg : Lea t g) : OkZ t g :=
  ⟨hg.1.sh, fun y x hy hx => by have := ok.top hg.pre y x hy hx; omega⟩
/-- More clearance. -/
def Tk.up (t : Tk) (m : Int) : Tk := { t with cl := t.cl + m }
def Tk.wide (t : Tk) (r : List Int) : Tk := { t with rows := r }
end Go.Proofs.Ytgjpdjihjphbdaa

/- Contracts: remainders, what is kept, nowhere lower, errors of any surface. -/
namespace Go.Proofs.Ytgjpdjihjphbdaa
open Go.RowKit
set_option linter.unusedVariables false

theorem rSurfaceErr_v (k : Nat) (t : Tk) (ok : OkT t) (s : List (List Int)) (hs : s.length ≤ 1000) (hr : ∀ r ∈ s, r.length ≤ 1000) (h : MHeap) {v : MV} (hv : frz 0 [] h 8 v = some (.sl (s.map encW))) {e : Int} (he : surfE t s = e) : orA (k + 2) 49 [encT t, v] h = some (I64 e, h) := by
  subst he
  exact callL (args' := [encT t, .sl (s.map encW)]) (by have h2 := frz_lt (h := h) (encT_lt t 0); simp [List.mapM_cons, hv, h2]) rfl (rSurfaceErr_z k t ok s hs hr)
end Go.Proofs.Ytgjpdjihjphbdaa

/- The examples that every law begins with. -/
namespace Go.Proofs.Ytgjpdjihjphbdaa
open Go.RowKit

theorem awake_z : runZ MT (orA 11) (itA 11) 4000000 15 [] [] = some (.lit (.bool true), []) := by kernel_rfl
end Go.Proofs.Ytgjpdjihjphbdaa

/- The law of groups: the walk. -/
namespace Go.Proofs.Ytgjpdjihjphbdaa
open Go.RowKit

theorem awake_c (h : MHeap) : orA 12 15 [] h = some (Bo true, h) := callL (args' := []) rfl rfl awake_z

end Go.Proofs.Ytgjpdjihjphbdaa

/- The law of forces: the walk. -/
namespace Go.Proofs.Ytgjpdjihjphbdaa
open Go.RowKit
set_option linter.unusedVariables false

theorem mf_DrapeForces : MT.mf 6 = some ⟨167, [(.tmp 4)], (.seq (.reg [⟨none, (some 2), (.box 5 (.s 0))⟩, ⟨none, (some 3), (.box 2 (.s 1))⟩, ⟨none, (some 4), (.mv (.c (.lit (.bool false))))⟩]) (.seq (.seq (.reg [⟨none, (some 13), (.call 15 [])⟩, ⟨none, (some 14), (.un .not (.s 13))⟩]) (.cond (.s 14) (.seq (.reg [⟨none, (some 4), (.mv (.c (.lit (.bool false))))⟩]) .ret) .skip)) (.seq (.seq (.reg [⟨none, (some 15), (.ld (some 5) (.s 2))⟩, ⟨none, (some 16), (.call 33 [(.s 15)])⟩, ⟨none, (some 17), (.un .not (.s 16))⟩]) (.cond (.s 17) (.seq (.reg [⟨none, (some 4), (.mv (.c (.lit (.bool true))))⟩]) .ret) .skip)) (.seq (.reg [⟨none, (some 5), (.new (.agg [(.lit (.int .i64 0)), (.lit (.int .i64 0))]))⟩, ⟨none, (some 19), (.ld (some 5) (.s 2))⟩, ⟨none, (some 20), (.call 35 [(.s 19)])⟩, ⟨none, (some 21), (.ld (some 2) (.s 3))⟩, ⟨none, (some 22), (.call 45 [(.s 20), (.s 21)])⟩, ⟨none, (some 18), (.mv (.s 22))⟩, ⟨none, (some 23), (.ext (.s 18) 0)⟩, ⟨none, (some 24), (.ext (.s 18) 1)⟩, ⟨none, (some 5), (.nilck (.s 5))⟩, ⟨none, none, (.st 2 (.s 5) (.s 23))⟩, ⟨none, (some 6), (.mv (.s 24))⟩]) (.seq (.reg [⟨none, (some 25), (.ld (some 5) (.s 2))⟩, ⟨none, (some 26), (.call 46 [(.s 25)])⟩, ⟨none, (some 7), (.mv (.s 26))⟩]) (.seq (.seq (.reg [⟨none, (some 27), (.mv (.s 7))⟩, ⟨none, (some 28), (.bin .eql (.s 27) (.c (.lit (.int .i64 0))))⟩, ⟨none, (some 29), (.mv (.s 28))⟩, ⟨(some (29, true)), (some 30), (.ld (some 5) (.s 2))⟩, ⟨(some (29, true)), (some 31), (.fa 0 (.s 3))⟩, ⟨(some (29, true)), (some 32), (.ld none (.s 31))⟩, ⟨(some (29, true)), (some 33), (.fa 1 (.s 3))⟩, ⟨(some (29, true)), (some 34), (.ld none (.s 33))⟩, ⟨(some (29, true)), (some 35), (.call 47 [(.s 30), (.s 32), (.s 34)])⟩, ⟨(some (29, true)), (some 36), (.un .not (.s 35))⟩, ⟨none, (some 37), (.pick (.s 29) (.s 36) (.c (.lit (.bool false))))⟩]) (.cond (.s 37) (.reg [⟨none, (some 7), (.mv (.c (.lit (.int .i64 6))))⟩]) .skip)) (.seq (.seq (.reg [⟨none, (some 38), (.mv (.s 7))⟩, ⟨none, (some 39), (.bin .neq (.s 38) (.c (.lit (.int .i64 0))))⟩]) (.cond (.s 39) (.seq (.reg [⟨none, (some 40), (.mv (.s 6))⟩, ⟨none, (some 41), (.mv (.s 7))⟩, ⟨none, (some 42), (.bin .eql (.s 40) (.s 41))⟩, ⟨none, (some 43), (.mv (.s 42))⟩, ⟨(some (43, true)), (some 44), (.ld (some 2) (.s 5))⟩, ⟨(some (43, true)), (some 45), (.build [(.lit (.int .i64 0)), (.lit (.int .i64 0))] [])⟩, ⟨(some (43, true)), (some 46), (.eqa 2 false (.s 44) (.s 45))⟩, ⟨none, (some 47), (.pick (.s 43) (.s 46) (.c (.lit (.bool false))))⟩, ⟨none, (some 4), (.mv (.s 47))⟩]) .ret) .skip)) (.seq (.reg [⟨none, (some 49), (.ld (some 5) (.s 2))⟩, ⟨none, (some 50), (.call 35 [(.s 49)])⟩, ⟨none, (some 51), (.call 37 [(.s 50)])⟩, ⟨none, (some 48), (.mv (.s 51))⟩, ⟨none, (some 52), (.ext (.s 48) 0)⟩, ⟨none, (some 53), (.ext (.s 48) 1)⟩, ⟨none, (some 8), (.mv (.s 52))⟩, ⟨none, (some 9), (.mv (.s 53))⟩]) (.seq (.seq (.reg [⟨none, (some 54), (.mv (.s 6))⟩, ⟨none, (some 55), (.bin .neq (.s 54) (.c (.lit (.int .i64 0))))⟩, ⟨none, (some 56), (.mv (.s 55))⟩, ⟨(some (56, false)), (some 57), (.ld (some 2) (.s 5))⟩, ⟨(some (56, false)), (some 58), (.ld (some 5) (.s 2))⟩, ⟨(some (56, false)), (some 59), (.ld (some 2) (.s 3))⟩, ⟨(some (56, false)), (some 60), (.call 48 [(.s 58), (.s 59)])⟩, ⟨(some (56, false)), (some 61), (.eqa 2 true (.s 57) (.s 60))⟩, ⟨none, (some 62), (.pick (.s 56) (.c (.lit (.bool true))) (.s 61))⟩, ⟨none, (some 63), (.mv (.s 62))⟩, ⟨(some (63, false)), (some 64), (.mv (.s 9))⟩, ⟨(some (63, false)), (some 65), (.bin .neq (.s 64) (.c (.lit (.int .i64 0))))⟩, ⟨none, (some 66), (.pick (.s 63) (.c (.lit (.bool true))) (.s 65))⟩, ⟨none, (some 67), (.mv (.s 66))⟩, ⟨(some (67, false)), (some 68), (.ld (some 5) (.s 2))⟩, ⟨(some (67, false)), (some 69), (.mv (.s 8))⟩, ⟨(some (67, false)), (some 70), (.call 49 [(.s 68), (.s 69)])⟩, ⟨(some (67, false)), (some 71), (.bin .neq (.s 70) (.c (.lit (.int .i64 0))))⟩, ⟨none, (some 72), (.pick (.s 67) (.c (.lit (.bool true))) (.s 71))⟩]) (.cond (.s 72) (.seq (.reg [⟨none, (some 4), (.mv (.c (.lit (.bool false))))⟩]) .ret) .skip)) (.seq (.reg [⟨none, (some 73), (.ld (some 5) (.s 2))⟩, ⟨none, (some 74), (.ld (some 2) (.s 3))⟩, ⟨none, (some 75), (.call 50 [(.s 73), (.s 74)])⟩, ⟨none, (some 10), (.mv (.s 75))⟩]) (.seq (.seq (.reg [⟨none, (some 11), (.mv (.c (.lit (.int .i64 0))))⟩]) (.block 0 (.loop [11, 10, 2, 8, 3, 5] (.seq (.seq (.reg [⟨none, (some 76), (.mv (.s 11))⟩, ⟨none, (some 77), (.mv (.s 10))⟩, ⟨none, (some 78), (.len (.s 77))⟩, ⟨none, (some 79), (.bin .lss (.s 76) (.s 78))⟩]) (.cond (.s 79) .skip (.exit 0))) (.seq (.block 1 (.seq (.reg [⟨none, (some 12), (.mv (.c (.lit (.int .i64 0))))⟩]) (.block 2 (.loop [12, 10, 11, 2, 8, 3, 5] (.seq (.seq (.reg [⟨none, (some 82), (.mv (.s 12))⟩, ⟨none, (some 83), (.mv (.s 10))⟩, ⟨none, (some 84), (.mv (.s 11))⟩, ⟨none, (some 85), (.ia 1 (.s 83) (.s 84))⟩, ⟨none, (some 86), (.ld none (.s 85))⟩, ⟨none, (some 87), (.len (.s 86))⟩, ⟨none, (some 88), (.bin .lss (.s 82) (.s 87))⟩]) (.cond (.s 88) .skip (.exit 2))) (.seq (.block 3 (.seq (.reg [⟨none, (some 91), (.mv (.s 10))⟩, ⟨none, (some 92), (.mv (.s 11))⟩, ⟨none, (some 93), (.ia 1 (.s 91) (.s 92))⟩, ⟨none, (some 94), (.ld none (.s 93))⟩, ⟨none, (some 95), (.mv (.s 12))⟩, ⟨none, (some 96), (.ia 1 (.s 94) (.s 95))⟩, ⟨none, (some 97), (.ld none (.s 96))⟩, ⟨none, (some 98), (.bin .geq (.s 97) (.c (.lit (.int .i64 0))))⟩, ⟨none, (some 99), (.mv (.s 98))⟩, ⟨(some (99, true)), (some 100), (.ld (some 5) (.s 2))⟩, ⟨(some (99, true)), (some 101), (.mv (.s 12))⟩, ⟨(some (99, true)), (some 102), (.mv (.s 11))⟩, ⟨(some (99, true)), (some 103), (.call 51 [(.s 100), (.s 101), (.s 102)])⟩, ⟨(some (99, true)), (some 104), (.fa 4 (.s 2))⟩, ⟨(some (99, true)), (some 105), (.ld none (.s 104))⟩, ⟨(some (99, true)), (some 106), (.mv (.s 10))⟩, ⟨(some (99, true)), (some 107), (.mv (.s 11))⟩, ⟨(some (99, true)), (some 108), (.ia 1 (.s 106) (.s 107))⟩, ⟨(some (99, true)), (some 109), (.ld none (.s 108))⟩, ⟨(some (99, true)), (some 110), (.mv (.s 12))⟩, ⟨(some (99, true)), (some 111), (.ia 1 (.s 109) (.s 110))⟩, ⟨(some (99, true)), (some 112), (.ld none (.s 111))⟩, ⟨(some (99, true)), (some 113), (.bin .mul (.s 105) (.s 112))⟩, ⟨(some (99, true)), (some 114), (.bin .sub (.s 103) (.s 113))⟩, ⟨(some (99, true)), (some 115), (.mv (.s 8))⟩, ⟨(some (99, true)), (some 116), (.fa 1 (.s 3))⟩, ⟨(some (99, true)), (some 117), (.ld none (.s 116))⟩, ⟨(some (99, true)), (some 118), (.ia 1 (.s 115) (.s 117))⟩, ⟨(some (99, true)), (some 119), (.ld none (.s 118))⟩, ⟨(some (99, true)), (some 120), (.fa 0 (.s 3))⟩, ⟨(some (99, true)), (some 121), (.ld none (.s 120))⟩, ⟨(some (99, true)), (some 122), (.ia 1 (.s 119) (.s 121))⟩, ⟨(some (99, true)), (some 123), (.ld none (.s 122))⟩, ⟨(some (99, true)), (some 124), (.bin .gtr (.s 114) (.s 123))⟩, ⟨none, (some 125), (.pick (.s 99) (.s 124) (.c (.lit (.bool false))))⟩]) (.cond (.s 125) (.seq (.reg [⟨none, (some 4), (.mv (.c (.lit (.bool false))))⟩]) .ret) .skip))) (.reg [⟨none, (some 89), (.mv (.s 12))⟩, ⟨none, (some 90), (.bin .add (.s 89) (.c (.lit (.int .i64 1))))⟩, ⟨none, (some 12), (.mv (.s 90))⟩]))))))) (.reg [⟨none, (some 80), (.mv (.s 11))⟩, ⟨none, (some 81), (.bin .add (.s 80) (.c (.lit (.int .i64 1))))⟩, ⟨none, (some 11), (.mv (.s 81))⟩])))))) (.seq (.reg [⟨none, (some 126), (.mv (.s 10))⟩, ⟨none, (some 127), (.fa 1 (.s 5))⟩, ⟨none, (some 128), (.ld none (.s 127))⟩, ⟨none, (some 129), (.ia 1 (.s 126) (.s 128))⟩, ⟨none, (some 130), (.ld none (.s 129))⟩, ⟨none, (some 131), (.fa 0 (.s 5))⟩, ⟨none, (some 132), (.ld none (.s 131))⟩, ⟨none, (some 133), (.ia 1 (.s 130) (.s 132))⟩, ⟨none, (some 134), (.ld none (.s 133))⟩, ⟨none, (some 135), (.bin .geq (.s 134) (.c (.lit (.int .i64 0))))⟩, ⟨none, (some 136), (.mv (.s 135))⟩, ⟨(some (136, true)), (some 137), (.ld (some 5) (.s 2))⟩, ⟨(some (136, true)), (some 138), (.fa 0 (.s 5))⟩, ⟨(some (136, true)), (some 139), (.ld none (.s 138))⟩, ⟨(some (136, true)), (some 140), (.fa 1 (.s 5))⟩, ⟨(some (136, true)), (some 141), (.ld none (.s 140))⟩, ⟨(some (136, true)), (some 142), (.call 51 [(.s 137), (.s 139), (.s 141)])⟩, ⟨(some (136, true)), (some 143), (.fa 4 (.s 2))⟩, ⟨(some (136, true)), (some 144), (.ld none (.s 143))⟩, ⟨(some (136, true)), (some 145), (.mv (.s 10))⟩, ⟨(some (136, true)), (some 146), (.fa 1 (.s 5))⟩, ⟨(some (136, true)), (some 147), (.ld none (.s 146))⟩, ⟨(some (136, true)), (some 148), (.ia 1 (.s 145) (.s 147))⟩, ⟨(some (136, true)), (some 149), (.ld none (.s 148))⟩, ⟨(some (136, true)), (some 150), (.fa 0 (.s 5))⟩, ⟨(some (136, true)), (some 151), (.ld none (.s 150))⟩, ⟨(some (136, true)), (some 152), (.ia 1 (.s 149) (.s 151))⟩, ⟨(some (136, true)), (some 153), (.ld none (.s 152))⟩, ⟨(some (136, true)), (some 154), (.bin .mul (.s 144) (.s 153))⟩, ⟨(some (136, true)), (some 155), (.bin .sub (.s 142) (.s 154))⟩, ⟨(some (136, true)), (some 156), (.mv (.s 8))⟩, ⟨(some (136, true)), (some 157), (.fa 1 (.s 3))⟩, ⟨(some (136, true)), (some 158), (.ld none (.s 157))⟩, ⟨(some (136, true)), (some 159), (.ia 1 (.s 156) (.s 158))⟩, ⟨(some (136, true)), (some 160), (.ld none (.s 159))⟩, ⟨(some (136, true)), (some 161), (.fa 0 (.s 3))⟩, ⟨(some (136, true)), (some 162), (.ld none (.s 161))⟩, ⟨(some (136, true)), (some 163), (.ia 1 (.s 160) (.s 162))⟩, ⟨(some (136, true)), (some 164), (.ld none (.s 163))⟩, ⟨(some (136, true)), (some 165), (.bin .eql (.s 155) (.s 164))⟩, ⟨none, (some 166), (.pick (.s 136) (.s 165) (.c (.lit (.bool false))))⟩, ⟨none, (some 4), (.mv (.s 166))⟩]) .ret))))))))))))⟩ := by kernel_rfl
abbrev dfH (t : Tk) (s p : Nd) (f : Nd → Option Nat) (g : List (List Int)) : MHeap := [⟨0, false, 5, [encT t]⟩, ⟨0, false, 2, [posM s]⟩, ⟨0, false, 2, [posM p]⟩, ⟨0, false, 1, g.map encW⟩, ⟨0, false, 1, (stG t f).map encW⟩]
set_option maxHeartbeats 4000000 in
theorem DrapeForces_z (t : Tk) (U V : Int) (m1 : t.ter.length ≤ 9223372036854775807) (m2 : t.rows.length ≤ 9223372036854775807) (m3 : t.ties.length ≤ 9223372036854775807) (m4 : ∀ r ∈ t.ter, r.length ≤ 9223372036854775807) :
    runZ MT (orA 12) (itA 12) 4000000 6 [encT t, posI U V] [] = some (Bo true, []) := by
  refine runZ_of mf_DrapeForces (by simp) ?_
  simp only [argsL]
  cases hf : fewT t
  · have hfw := fun h => Few_c 11 t m1 m2 m3 m4 h hf
    repeat (first | apply ef_seq | (apply ef_mv; exact rfl; exact rfl) | (apply ef_ldp; exact rfl; exact rfl; (exact rfl); exact rfl; (exact rfl); (exact rd_5 rfl rfl rfl rfl rfl)) | (apply ef_notT; exact rfl; exact rfl) | (apply ef_notF; exact rfl; exact rfl) | (apply ef_box; exact rfl; exact rfl; exact rfl; exact rfl) | apply ef_nil | apply seqQ.normal | apply ef_ret | apply seqQ.ret | apply ef_skip | (apply ef_condt; exact rfl; (exact (rfl : true = true))) | (apply ef_condf; exact rfl; (exact (rfl : false = false))) | (apply ef_call; exact rfl; ((repeat (apply XVs.cons; exact rfl)); exact XVs.nil); (with_reducible first | exact awake_c _ | exact hfw _)))
    (refine fin1 rfl (by exact rfl) rfl ?_)
    rfl
  · have hfw := fun h => Few_c 11 t m1 m2 m3 m4 h hf
    obtain ⟨bd, -⟩ := fewT_bd hf
    have hcp := fun h => CopyTask_c 9 t bd h
    have hte := fun h => TaskErr_c 8 t bd h
    obtain ⟨hR1, -⟩ := taskF_rel t
    rw [hR1] at hte
    by_cases h0 : (taskF id t).2 = 0
    · have ok := (task_ok h0).1
      rw [h0] at hte
      obtain ⟨h1, h2⟩ := ok.h1
      obtain ⟨w1, w2⟩ := ok.w1
      obtain ⟨c1, c2⟩ := ok.cb
      cases hX : t.flI U V
      · have hfo := fun h => ForceOn_out 4 bd h0 hX h
        have hrf := fun h => rFlown_c 10 t bd h1 U V h hX
        simp only [clM] at hfo
        clear hR1 m1 m2 m3 m4
        repeat (first | apply ef_seq | (apply ef_mv; exact rfl; exact rfl) | (apply ef_bin; exact rfl; exact rfl; exact rfl; (exact cmp_t rfl (by first | exact rfl | (simp only [cmpP]; omega)))) | (apply ef_gy; exact rfl; (exact (rfl : true = true))) | (apply ef_pick; exact rfl; exact rfl; exact rfl) | (apply ef_ldp; exact rfl; exact rfl; (exact rfl); exact rfl; (exact rfl); (first | exact rd_2 rfl rfl | exact rd_5 rfl rfl rfl rfl rfl | exact rfl)) | (apply ef_fap; exact rfl; exact rfl) | (apply ef_notT; exact rfl; exact rfl) | (apply ef_notF; exact rfl; exact rfl) | (apply ef_ext; exact rfl; exact rfl; exact rfl) | (apply ef_box; exact rfl; exact rfl; exact rfl; exact rfl) | (apply ef_new; exact rfl) | (apply ef_build; exact rfl; (repeat (apply XVs.cons; exact rfl)); exact XVs.nil; exact rfl; exact rfl) | (apply ef_nilck; exact rfl; exact rfl; exact rfl) | (apply ef_eqa; exact rfl; exact rfl; exact rfl; exact rfl; exact rfl; exact rfl) | (apply ef_st; exact rfl; exact rfl; exact rfl; exact rfl; exact rfl; exact rfl; (exact rfl); exact rfl) | apply ef_nil | apply seqQ.normal | apply ef_ret | apply seqQ.ret | apply ef_skip | (apply ef_condt; exact rfl; (exact (rfl : true = true))) | (apply ef_condf; exact rfl; (exact (rfl : false = false))) | (apply ef_call; exact rfl; ((repeat (apply XVs.cons; exact rfl)); exact XVs.nil); (with_reducible first | exact awake_c _ | exact hfw _ | exact hcp _ | exact hfo _ | exact hte _ | exact hrf _)))
        (refine fin1 rfl (by exact rfl) rfl ?_)
        simp [negIf]
      · have hrf := fun h => rFlown_c 10 t bd h1 U V h hX
        have hXY : (0 ≤ U ∧ U ≤ (t.W : Int) - 1) ∧ (0 ≤ V ∧ V ≤ (t.ter.length : Int) - 1) := by
          have := hX
          simp only [Tk.flI, Bool.and_eq_true] at this
          exact ⟨inB_iff.1 this.1.1, inB_iff.1 this.1.2⟩
        obtain ⟨sx, rfl⟩ : ∃ n : Nat, U = (n : Int) := ⟨U.toNat, by omega⟩
        obtain ⟨sy, rfl⟩ : ∃ n : Nat, V = (n : Int) := ⟨V.toNat, by omega⟩
        have hy0 : sy < t.ter.length := by omega
        have hx0 : sx < t.W := by omega
        have hs : t.inP (sy, sx) := ⟨hy0, hx0, (t.flI_nat hy0 hx0).symm.trans hX⟩
        obtain ⟨g, hg⟩ := ok.lea
        obtain ⟨L, hD, hvl, -⟩ := steps_c 0 t ok hs
        obtain ⟨p0, q1, q2, q3⟩ := hit_some hD hg c1
        obtain ⟨⟨py, px⟩, hp⟩ := first_node q1 q2 q3
        have hfo := fun h => ForceOn_ok 4 bd h0 hs hg hD hp h
        have hlo := fun h => Lowest_ok 4 bd h0 hg h
        have hrc := fun h => rForce_c 8 ok bd hs hg hD hvl hp h
        have hst := fun h => rSteps_c 9 ok bd hs hD h
        have hgl : g.length = t.ter.length := hg.1.sh.hl
        have hse := rSurfaceErr_v 10 t ok g (by omega) (fun r hr => by
          obtain ⟨y, hy, rfl⟩ := List.getElem_of_mem hr
          have := hg.1.sh.wl y hy
          omega) [⟨0, false, 5, [encT t]⟩, ⟨0, false, 2, [posM (sy, sx)]⟩, ⟨0, false, 2, [posM (py, px)]⟩, ⟨0, false, 1, g.map encW⟩] (v := .arr 3 0 t.ter.length 0) (fz_arr (h := [⟨0, false, 5, [encT t]⟩, ⟨0, false, 2, [posM (sy, sx)]⟩, ⟨0, false, 2, [posM (py, px)]⟩, ⟨0, false, 1, g.map encW⟩]) (id := 3) (k := t.ter.length) rfl rfl (by simp [hgl]) (ltL_W 0 g) rfl).now (surfE_of (hg.okz ok))
        have hgw := hg.1.sh.row hs.1
        simp only at hgw
        have e1 := encW_at (g := g) (y := sy) (by omega)
        have e2 : ((g.getD sy []).map I64)[((sx : Nat) : Int).toNat]? = some (I64 (at2 g sy sx)) := cell_at (by omega)
        obtain ⟨a1, a2⟩ := ok.top hg.pre sy sx hs.1 hs.2.1
        simp only [clM] at hfo
        clear hR1 m1 m2 m3 m4 hf
        repeat (first | apply ef_seq | (apply ef_mv; exact rfl; exact rfl) | (apply ef_bin; exact rfl; exact rfl; exact rfl; (first | exact cmp_t rfl (by first | exact rfl | (simp only [cmpP]; omega)) | exact cmp_f rfl (by simp only [cmpP]; omega))) | (apply ef_gy; exact rfl; (first | exact (rfl : true = true) | exact (rfl : false = false))) | (apply ef_pick; exact rfl; exact rfl; exact rfl) | (apply ef_ldp; exact rfl; exact rfl; (exact rfl); exact rfl; (exact rfl); (first | exact rd_2 rfl rfl | exact rd_5 rfl rfl rfl rfl rfl | exact rfl)) | (apply ef_fap; exact rfl; exact rfl) | (apply ef_notT; exact rfl; exact rfl) | (apply ef_ext; exact rfl; exact rfl; exact rfl) | (apply ef_box; exact rfl; exact rfl; exact rfl; exact rfl) | (apply ef_new; exact rfl) | (apply ef_nilck; exact rfl; exact rfl; exact rfl) | (apply ef_eqa; exact rfl; exact rfl; exact rfl; exact rfl; exact rfl; exact rfl) | (apply ef_st; exact rfl; exact rfl; exact rfl; exact rfl; exact rfl; exact rfl; (exact rfl); exact rfl) | apply ef_nil | apply seqQ.normal | apply ef_skip | (apply ef_condf; exact rfl; (exact (rfl : false = false))) | (apply ef_call; exact rfl; ((repeat (apply XVs.cons; exact rfl)); exact XVs.nil); (with_reducible first | exact awake_c _ | exact hfw _ | exact hcp _ | exact hfo _ | exact hte _ | exact hrf _ | exact hlo _ | exact hrc _)))
        simp only [beq_self_eq_true, Bool.and_self]
        repeat (first | (apply ef_mv; exact rfl; exact rfl) | (apply ef_bin; exact rfl; exact rfl; exact rfl; (exact cmp_f rfl (by simp only [cmpP]; omega))) | (apply ef_gy; exact rfl; (exact (rfl : false = false))) | (apply ef_pick; exact rfl; exact rfl; exact rfl) | (apply ef_ldp; exact rfl; exact rfl; (exact rfl); exact rfl; (exact rfl); (exact rd_5 rfl rfl rfl rfl rfl)))
        (apply ef_call; (· exact rfl); (· ((repeat (apply XVs.cons; exact rfl)); exact XVs.nil)); · exact hse)
        repeat (first | apply ef_seq | (apply ef_mv; exact rfl; exact rfl) | (apply ef_bin; exact rfl; exact rfl; exact rfl; (exact cmp_f rfl (by simp only [cmpP]; omega))) | (apply ef_gy; exact rfl; (exact (rfl : false = false))) | (apply ef_pick; exact rfl; exact rfl; exact rfl) | (apply ef_ldp; exact rfl; exact rfl; (exact rfl); exact rfl; (exact rfl); (first | exact rd_2 rfl rfl | exact rd_5 rfl rfl rfl rfl rfl)) | apply ef_nil | apply seqQ.normal | apply ef_block | apply ef_skip | (apply ef_condf; exact rfl; (exact (rfl : false = false))) | (apply ef_call; exact rfl; ((repeat (apply XVs.cons; exact rfl)); exact XVs.nil); (with_reducible exact hst _)))
        have hask : ∀ y x k0, mF L (y, x) = some k0 → t.need y x - t.cb * (k0 : Int) ≤ at2 g sy sx := fun y x k0 hm => hD.most hg hm
        have hend : ∃ kp, mF L (py, px) = some kp ∧ t.need py px - t.cb * (kp : Int) = at2 g sy sx := by
          have hy := hp.yes
          unfold hitF at hy
          cases hm : mF L (py, px) with
          | none => rw [hm] at hy; cases hy
          | some kp =>
            rw [hm] at hy
            refine ⟨kp, rfl, ?_⟩
            rw [Int.mul_comm]
            exact of_decide_eq_true hy
        have hpy : py < t.ter.length := hp.y
        have hpx : px < t.W := hp.x
        clear hfw hcp hte hrf hfo hlo hrc hst hse q1 q2 q3 hp
        refine ef_loopf (α := Nat) (fun y => y ≤ t.ter.length) (fun y => [(11, I64 (y : Int))]) [(10, .arr 4 0 t.ter.length 0), (2, .ptr 0 0 0 0), (8, .arr 3 0 t.ter.length 0), (3, .ptr 1 0 0 0), (5, .ptr 2 0 0 0)] (fun _ => dfH t (sy, sx) (py, px) (mF L) g) (fun y => t.ter.length - y) 0 [11] (fun _ => rfl) (by ((repeat (refine Hold.cons (by exact rfl) ?_)); exact Hold.nil)) (by ((repeat (refine Hold.cons (by exact rfl) ?_)); exact Hold.nil)) rfl rfl (Nat.zero_le _) (by simp; omega) ?_
        intro y hy
        try simp only at hy ⊢
        by_cases hyl : y < t.ter.length
        · have r1 := encW_at (g := stG t (mF L)) (y := y) (by rw [stG_len]; exact hyl)
          have r2 : (encW ((stG t (mF L)).getD y [])).slen = some t.W := by simp [MV.slen]; exact stG_w hyl
          repeat (first | apply ef_seq | (apply ef_mv; exact rfl; exact rfl) | (apply ef_bin; exact rfl; exact rfl; exact rfl; (exact cmp_t rfl (by first | exact rfl | (simp only [cmpP]; omega)))) | (apply ef_len; exact rfl; exact rfl; (exact rfl)) | apply ef_nil | apply seqQ.normal | apply ef_block | apply ef_skip | (apply ef_condt; exact rfl; (exact (rfl : true = true))))
          refine ef_loopf (α := Nat) (fun x => x ≤ t.W) (fun x => [(12, I64 (x : Int))]) [(10, .arr 4 0 t.ter.length 0), (11, I64 (y : Int)), (2, .ptr 0 0 0 0), (8, .arr 3 0 t.ter.length 0), (3, .ptr 1 0 0 0), (5, .ptr 2 0 0 0)] (fun _ => dfH t (sy, sx) (py, px) (mF L) g) (fun x => t.W - x) 0 [12] (fun _ => rfl) (by ((repeat (refine Hold.cons (by exact rfl) ?_)); exact Hold.nil)) (by ((repeat (refine Hold.cons (by exact rfl) ?_)); exact Hold.nil)) rfl rfl (Nat.zero_le _) (by simp; omega) ?_
          intro x hx
          try simp only at hx ⊢
          by_cases hlt : x < t.W
          · have r3 : (((stG t (mF L)).getD y []).map I64)[((x : Nat) : Int).toNat]? = some (I64 (at2 (stG t (mF L)) y x)) := cell_at (by rw [stG_w hyl]; exact hlt)
            have hv := stG_at (f := mF L) hyl hlt
            have hnd := fun h => rNeed_c 11 t ok hyl hlt h
            obtain ⟨n1, n2⟩ := ok.need hyl hlt
            cases hm : mF L (y, x) with
            | none =>
              rw [hm] at hv
              have hr : ¬ (0 ≤ at2 (stG t (mF L)) y x) := by rw [hv]; simp [stI]
              repeat (first | apply ef_seq | (apply ef_mv; exact rfl; exact rfl) | (apply ef_bin; exact rfl; exact rfl; exact rfl; (first | exact cmp_t rfl (by first | exact rfl | (simp only [cmpP]; omega)) | exact cmp_f rfl (by simp only [cmpP]; omega) | ((with_reducible refine bin_add (wrap_of ?_ ?_)) <;> omega))) | (apply ef_gn; exact rfl; (exact (rfl : false = false)); exact rfl) | (apply ef_pick; exact rfl; exact rfl; exact rfl) | (apply ef_len; exact rfl; exact rfl; (assumption)) | (apply ef_ldr; exact rfl; exact rfl; (exact rfl)) | (apply ef_ldp; exact rfl; exact rfl; (exact rfl); exact rfl; (assumption); (exact rfl)) | (apply ef_ias; exact rfl; exact rfl; exact rfl; (omega); assumption; exact rfl) | (apply ef_iaa; exact rfl; exact rfl; exact rfl; (omega); (omega); (exact rfl)) | apply ef_nil | apply seqQ.normal | apply blockQ.normal | apply ef_block | apply ef_skip | (apply ef_condt; exact rfl; (exact (rfl : true = true))) | (apply ef_condf; exact rfl; (exact (rfl : false = false))))
              (refine loopQ.normal _ _ ⟨x + 1, (by show x + 1 ≤ t.W; omega), (by first | (simp only; omega) | omega), ⟨by ((repeat (refine Hold.cons (by exact rfl) ?_)); exact Hold.nil), by ((repeat (refine Hold.cons (by exact rfl) ?_)); exact Hold.nil)⟩, .inl (Nat.le_refl _), (by first | exact List.take_length | exact rfl | exact takeF rfl rfl)⟩)
            | some k0 =>
              have hk := hvl _ _ hm
              rw [hm] at hv
              have hv : at2 (stG t (mF L)) y x = (k0 : Int) := hv
              rw [hv] at r3
              have hm1 : 0 ≤ t.cb * (k0 : Int) := Int.mul_nonneg c1 (by omega)
              have hm2 : t.cb * (k0 : Int) ≤ 10000 * 144 := Int.mul_le_mul c2 (by omega) (by omega) (by omega)
              have hr := hask y x k0 hm
              repeat (first | apply ef_seq | (apply ef_mv; exact rfl; exact rfl) | (apply ef_bin; exact rfl; exact rfl; exact rfl; (first | exact cmp_t rfl (by first | exact rfl | (simp only [cmpP]; omega)) | exact cmp_f rfl (by simp only [cmpP]; omega) | ((with_reducible refine bin_add (wrap_of ?_ ?_)) <;> omega) | ((with_reducible refine bin_sub (wrap_of ?_ ?_)) <;> omega) | ((with_reducible refine bin_mul (wrap_of ?_ ?_)) <;> omega))) | (apply ef_gy; exact rfl; (exact (rfl : true = true))) | (apply ef_pick; exact rfl; exact rfl; exact rfl) | (apply ef_len; exact rfl; exact rfl; (assumption)) | (apply ef_ldr; exact rfl; exact rfl; (exact rfl)) | (apply ef_ldp; exact rfl; exact rfl; (exact rfl); exact rfl; (first | exact rfl | assumption); (first | exact rd_5 rfl rfl rfl rfl rfl | exact rfl)) | (apply ef_ias; exact rfl; exact rfl; exact rfl; (omega); assumption; exact rfl) | (apply ef_iaa; exact rfl; exact rfl; exact rfl; (omega); (omega); (exact rfl)) | (apply ef_fap; exact rfl; exact rfl) | apply ef_nil | apply seqQ.normal | apply blockQ.normal | apply ef_block | apply ef_skip | (apply ef_condt; exact rfl; (exact (rfl : true = true))) | (apply ef_condf; exact rfl; (exact (rfl : false = false))) | (apply ef_call; exact rfl; ((repeat (apply XVs.cons; exact rfl)); exact XVs.nil); (with_reducible exact hnd _)))
              (refine loopQ.normal _ _ ⟨x + 1, (by show x + 1 ≤ t.W; omega), (by first | (simp only; omega) | omega), ⟨by ((repeat (refine Hold.cons (by exact rfl) ?_)); exact Hold.nil), by ((repeat (refine Hold.cons (by exact rfl) ?_)); exact Hold.nil)⟩, .inl (Nat.le_refl _), (by first | exact List.take_length | exact rfl | exact takeF rfl rfl)⟩)
          · repeat (first | apply ef_seq | (apply ef_mv; exact rfl; exact rfl) | (apply ef_bin; exact rfl; exact rfl; exact rfl; (first | exact cmp_f rfl (by simp only [cmpP]; omega) | ((with_reducible refine bin_add (wrap_of ?_ ?_)) <;> omega))) | (apply ef_len; exact rfl; exact rfl; (assumption)) | (apply ef_ldp; exact rfl; exact rfl; (exact rfl); exact rfl; (assumption); (exact rfl)) | (apply ef_iaa; exact rfl; exact rfl; exact rfl; (omega); (omega); (exact rfl)) | apply ef_nil | apply seqQ.normal | apply loopQ.exit | apply ef_exit | apply seqQ.exit | apply blockQ.normal | apply blockQ.here | (apply ef_condf; exact rfl; (exact (rfl : false = false))))
            (refine loopQ.normal _ _ ⟨y + 1, (by show y + 1 ≤ t.ter.length; omega), (by first | (simp only; omega) | omega), ⟨by ((repeat (refine Hold.cons (by exact rfl) ?_)); exact Hold.nil), by ((repeat (refine Hold.cons (by exact rfl) ?_)); exact Hold.nil)⟩, .inl (Nat.le_refl _), (by first | exact List.take_length | exact rfl | exact takeF rfl rfl)⟩)
        · obtain ⟨kp, hm, hr⟩ := hend
          have hk := hvl _ _ hm
          have r1 := encW_at (g := stG t (mF L)) (y := py) (by rw [stG_len]; exact hpy)
          have r3 : (((stG t (mF L)).getD py []).map I64)[((px : Nat) : Int).toNat]? = some (I64 (at2 (stG t (mF L)) py px)) := cell_at (by rw [stG_w hpy]; exact hpx)
          have hv := stG_at (f := mF L) hpy hpx
          rw [hm] at hv
          have hv : at2 (stG t (mF L)) py px = (kp : Int) := hv
          rw [hv] at r3
          have hnd := fun h => rNeed_c 11 t ok hpy hpx h
          obtain ⟨n1, n2⟩ := ok.need hpy hpx
          have hm1 : 0 ≤ t.cb * (kp : Int) := Int.mul_nonneg c1 (by omega)
          have hm2 : t.cb * (kp : Int) ≤ 10000 * 144 := Int.mul_le_mul c2 (by omega) (by omega) (by omega)
          repeat (first | apply ef_seq | (apply ef_mv; exact rfl; exact rfl) | (apply ef_bin; exact rfl; exact rfl; exact rfl; (first | exact cmp_t rfl (by first | exact rfl | (simp only [cmpP]; omega)) | exact cmp_f rfl (by simp only [cmpP]; omega) | ((with_reducible refine bin_sub (wrap_of ?_ ?_)) <;> omega) | ((with_reducible refine bin_mul (wrap_of ?_ ?_)) <;> omega))) | (apply ef_gy; exact rfl; (exact (rfl : true = true))) | (apply ef_pick; exact rfl; exact rfl; exact rfl) | (apply ef_len; exact rfl; exact rfl; (exact rfl)) | (apply ef_ldr; exact rfl; exact rfl; (exact rfl)) | (apply ef_ldp; exact rfl; exact rfl; (exact rfl); exact rfl; (first | exact rfl | assumption); (first | exact rd_5 rfl rfl rfl rfl rfl | exact rfl)) | (apply ef_ias; exact rfl; exact rfl; exact rfl; (omega); assumption; exact rfl) | (apply ef_iaa; exact rfl; exact rfl; exact rfl; (omega); (omega); (exact rfl)) | (apply ef_fap; exact rfl; exact rfl) | apply ef_nil | apply seqQ.normal | apply loopQ.exit | apply ef_ret | apply ef_exit | apply seqQ.exit | apply blockQ.here | (apply ef_condf; exact rfl; (exact (rfl : false = false))) | (apply ef_call; exact rfl; ((repeat (apply XVs.cons; exact rfl)); exact XVs.nil); (with_reducible exact hnd _)))
          (refine fin1 rfl (by exact rfl) rfl ?_)
          simp [hr]
    · have hfo := fun h => ForceOn_bad 4 bd h0 U V h
      simp only [clM] at hfo
      generalize (taskF id t).2 = e at *
      clear hR1 m1 m2 m3 m4
      repeat (first | apply ef_seq | (apply ef_mv; exact rfl; exact rfl) | (apply ef_bin; exact rfl; exact rfl; exact rfl; (first | exact cmp_t rfl (by first | exact rfl | (simp only [cmpP]; omega)) | exact cmp_f rfl (by simp only [cmpP]; omega))) | (apply ef_gy; exact rfl; (exact (rfl : true = true))) | (apply ef_gn; exact rfl; (exact (rfl : false = false)); exact rfl) | (apply ef_pick; exact rfl; exact rfl; exact rfl) | (apply ef_ldp; exact rfl; exact rfl; (exact rfl); exact rfl; (exact rfl); (first | exact rd_2 rfl rfl | exact rd_5 rfl rfl rfl rfl rfl)) | (apply ef_notT; exact rfl; exact rfl) | (apply ef_ext; exact rfl; exact rfl; exact rfl) | (apply ef_box; exact rfl; exact rfl; exact rfl; exact rfl) | (apply ef_new; exact rfl) | (apply ef_build; exact rfl; (repeat (apply XVs.cons; exact rfl)); exact XVs.nil; exact rfl; exact rfl) | (apply ef_nilck; exact rfl; exact rfl; exact rfl) | (apply ef_eqa; exact rfl; exact rfl; exact rfl; exact rfl; exact rfl; exact rfl) | (apply ef_st; exact rfl; exact rfl; exact rfl; exact rfl; exact rfl; exact rfl; (exact rfl); exact rfl) | apply ef_nil | apply seqQ.normal | apply ef_ret | apply seqQ.ret | apply ef_skip | (apply ef_condt; exact rfl; (exact (rfl : true = true))) | (apply ef_condf; exact rfl; (exact (rfl : false = false))) | (apply ef_call; exact rfl; ((repeat (apply XVs.cons; exact rfl)); exact XVs.nil); (with_reducible first | exact awake_c _ | exact hfw _ | exact hcp _ | exact hfo _ | exact hte _)))
      (refine fin1 rfl (by exact rfl) rfl ?_)
      simp [negIf]
end Go.Proofs.Ytgjpdjihjphbdaa

/- Open values of tasks. -/
namespace Go.Proofs.Ytgjpdjihjphbdaa
open Go.ChangeShapes Go.WideShapes Go.ChangeAt Go.RowKit

def taskSh : Sh := .agg [.slice (.slice (.int .i64)), .slice (.int .i64), .slice (.int .i64), .int .i64, .int .i64]
theorem fits_lists {m : MV} (h : Fits (.slice (.slice (.int .i64))) m) : ∃ g : List (List Int), m = .sl (g.map encW) ∧ g.length ≤ maxLen ∧ ∀ r ∈ g, r.length ≤ maxLen := by
  rw [Fits] at h
  obtain ⟨es, rfl, hl, he⟩ := h
  induction es with
  | nil => exact ⟨[], rfl, by simp, fun n hn => by cases hn⟩
  | cons e es ih =>
    obtain ⟨r, rfl, hr, _⟩ := fits_ints (he e List.mem_cons_self)
    obtain ⟨g, h1, h2, h3⟩ := ih (by simp at hl; omega) fun e h => he e (List.mem_cons_of_mem _ h)
    have e1 : es = g.map encW := by simpa using h1
    subst e1
    refine ⟨r :: g, rfl, by simpa using hl, fun k hk => ?_⟩
    rcases List.mem_cons.1 hk with rfl | hk
    · exact hr
    · exact h3 k hk
theorem fits_task {m : MV} (h : Fits taskSh m) : ∃ t : Tk, m = encT t ∧ t.ter.length ≤ 9223372036854775807 ∧ t.rows.length ≤ 9223372036854775807 ∧ t.ties.length ≤ 9223372036854775807 ∧ ∀ r ∈ t.ter, r.length ≤ 9223372036854775807 := by
  obtain ⟨ms, h', rfl⟩ := fits_agg h
  obtain ⟨m1, r1, rfl, h1, h⟩ := fitsL_cons h'
  obtain ⟨m2, r2, rfl, h2, h⟩ := fitsL_cons h
  obtain ⟨m3, r3, rfl, h3, h⟩ := fitsL_cons h
  obtain ⟨m4, r4, rfl, h4, h⟩ := fitsL_cons h
  obtain ⟨m5, r5, rfl, h5, h⟩ := fitsL_cons h
  obtain rfl := fitsL_nil h
  obtain ⟨g, rfl, hg, hr⟩ := fits_lists h1
  obtain ⟨rs, rfl, hrs, _⟩ := fits_ints h2
  obtain ⟨ts, rfl, hts, _⟩ := fits_ints h3
  obtain ⟨a, rfl, _⟩ := fits_int h4
  obtain ⟨b, rfl, _⟩ := fits_int h5
  exact ⟨⟨g, rs, ts, a, b⟩, rfl, Nat.le_trans hg maxLen_le, Nat.le_trans hrs maxLen_le, Nat.le_trans hts maxLen_le, fun r h => Nat.le_trans (hr r h) maxLen_le⟩
end Go.Proofs.Ytgjpdjihjphbdaa
