/- More rules of evaluation: cuts with a state, rows of integers. -/
import Derived.Test.YtgjpdjihjphbdaaPr1
namespace Go.Proofs.Ytgjpdjihjphbdaa
open Go.RowKit

section
variable {O : Oracle} {I : Iter} {N n : Nat} {lk : Nat → Bool} {A : Sl} {h : MHeap} {Q : MX2 → Sl → MHeap → Prop}
/-- A cut behind a loop that was left: what is known there, of some state. -/
theorem ef_cutx {α : Type} {a : MC} (x0 : MX2) (P : α → Prop) (B : α → Sl) (h2 : α → MHeap) (h1 : Ef O I N n lk a A h fun x A' h' => (x = x0 ∧ ∃ s, P s ∧ h' = h2 s ∧ Hold A' (B s)) ∨ Q x A' h') (hQ : ∀ s, P s → Q x0 (B s) (h2 s)) : Ef O I N n lk a A h Q := .mk fun s hs => by
  obtain ⟨x, s', h', k1, A', k2, ⟨rfl, t, k3, rfl, k4⟩ | k3⟩ := h1.run s hs
  · exact ⟨_, s', _, k1, B t, ⟨k2.len, fun u v ht => k2.get u v (k4.sub u v ht)⟩, hQ t k3⟩
  · exact ⟨x, s', h', k1, A', k2, k3⟩
theorem ef_cuth {α : Type} {a : MC} (x0 : MX2) (P : α → Prop) (B : α → Sl) (h1 : Ef O I N n lk a A h fun x A' h' => (x = x0 ∧ ∃ s, P s ∧ h' = h ∧ Hold A' (B s)) ∨ Q x A' h') (hQ : ∀ s, P s → Q x0 (B s) h) : Ef O I N n lk a A h Q :=
  ef_cutx x0 P B (fun _ => h) h1 hQ
end

theorem rng_get {α : Type} (f : Nat → α) {n j : Nat} (h : j < n) : ((List.range n).map f)[j]? = some (f j) := by
  rw [List.getElem?_map, List.getElem?_range h]; rfl
theorem rng_set {α : Type} (f : Nat → α) {n i : Nat} (v : α) : ((List.range n).map f).set i v = (List.range n).map fun j => if j = i then v else f j := by
  apply List.ext_getElem?
  intro j
  rw [List.getElem?_set, List.getElem?_map, List.getElem?_map, List.length_map, List.length_range]
  by_cases hj : j < n
  · rw [List.getElem?_range hj]
    by_cases hij : i = j
    · subst hij; simp [hj]
    · simp [hij, Ne.symm hij]
  · rw [List.getElem?_eq_none (by simp; omega)]
    by_cases hij : i = j
    · subst hij; simp [hj]
    · simp [hij]
theorem rng_congr {α : Type} {f g : Nat → α} {n : Nat} (h : ∀ j, j < n → f j = g j) : (List.range n).map f = (List.range n).map g :=
  List.map_congr_left fun j hj => h j (List.mem_range.1 hj)
theorem set_mapI (xs : List Int) (k : Nat) (v : Int) : (xs.map I64).set k (I64 v) = (xs.set k v).map I64 := by rw [List.map_set]
theorem app_mapI (ys : List Int) (x : Int) : (ys.map I64).drop 0 ++ [I64 x] = (ys ++ [x]).map I64 := by simp
theorem lt_succ_ne {α : Type} {j i : Nat} (h : j ≠ i) (x y : α) : (if j < i then x else y) = if j < i + 1 then x else y := by
  by_cases h1 : j < i
  · rw [if_pos h1, if_pos (by omega)]
  · rw [if_neg h1, if_neg (by omega)]
theorem le_pred_ne {α : Type} {j i : Int} (h : j ≠ i) (x y : α) : (if i < j then x else y) = if i - 1 < j then x else y := by
  by_cases h1 : i < j
  · rw [if_pos h1, if_pos (by omega)]
  · rw [if_neg h1, if_neg (by omega)]
theorem ok_of {h : MHeap} {id g sz : Nat} {o : MObj} (ho : h[id]? = some o) (hg : o.g = g) (hz : o.sz = sz) : MHeap.ok h id g sz = true := by
  subst hg hz; simp [MHeap.ok, ho]
theorem ltL_app1 (n : Nat) (v : MV) : ∀ xs : List MV, ltL n (xs ++ [v]) = (ltL n xs && v.lt n)
  | [] => by simp [ltL]
  | x :: xs => by simp [ltL, ltL_app1 n v xs, Bool.and_assoc]
theorem ltL_appI (n : Nat) (ys : List Int) (x : Int) : ltL n (ys.map I64 ++ [I64 x]) = true := by rw [show ys.map I64 ++ [I64 x] = (ys ++ [x]).map I64 by simp]; exact ltL_I n _
/-- A cell of a row of integers. -/
theorem at_I {xs : List Int} {k : Nat} {v : Int} {j : Int} (h : xs[k]? = some v) (hj : j = (k : Int)) : (xs.map I64)[0 + j.toNat]? = some (I64 v) := by
  subst hj
  rw [Nat.zero_add, Int.toNat_natCast, List.getElem?_map, h]; rfl
def nlN : Nat → Bool
  | 0 => true
  | _ + 1 => false
/-- A slice of the call's own and a literal, handed back. -/
theorem fin_al {x : MX2} {A : Sl} {h : MHeap} {t u id k g : Nat} {o : MObj} {es : List MV} {sz : Nat} {nl : Bool} {v : Value} (hx : outX x = true) (hv : look A t = some (.arr id 0 k g)) (hw : look A u = some (.lit v)) (ho : h[id]? = some o) (hg : o.g = g) (hk : k = es.length) (hl : ltL 0 es = true) (he : o.es = es) (hz : o.sz = sz) (hn : o.nl = nl) :
    FinF [.tmp t, .tmp u] (.tup [.arr 0 0 k 0, .lit v]) [⟨0, nl, sz, es⟩] x A h := by
  subst hz hn he hk
  refine ⟨hx, [.arr id 0 o.es.length g, .lit v], [.arr 0 0 o.es.length 0, .lit v], ⟨_, _, rfl, hv, _, [], rfl, hw, rfl⟩, ?_, ?_, rfl⟩
  · simp [impIds]
  · simp [impIds, expL, ho, hg, hl, frz, MV.lt]

end Go.Proofs.Ytgjpdjihjphbdaa
