/- Appends onto a row of the call's own: laws for the walk. -/
import Derived.Test.YtgjpdjihjphbdaaCalm
import Derived.Laws.AppendOwnNone
namespace Go.Proofs.Ytgjpdjihjphbdaa
open Go.RowKit

section
variable {P : Program} {W : World} {ops : Array Oper} {rest : List Oper} {o : Oper} {a : Act} {Q : Exit → Act → World → Prop}

/-- append(out, x): one element, which has just been laid. -/
theorem app1 (hgd : o.guard = none) (s x : Operand) (t : TypeId) (ho : o.op = .call { callee := .builtin .append, args := #[s, x], argTypes := #[t, t] })
    (base : Nat) (e : TypeId) (size bytes : Nat) (z : Value) (ht : P.underlying t = some (.slice e)) (hinfo : (P.info? e).map (fun i => (i.zero, i.size, i.bytes)) = some (some z, size, bytes)) (hzs : z.cells.size = size) (hsz : 0 < size)
    (v : Value) (n : Nat) (xs : List Value) (hs : a.eval s = v) (hown : W.ownsRow base e size v n xs) (cs : Array Value) (T : TypeId) (hx : a.eval x = .slice (some ⟨W.heap.size, 0, none⟩) 1 1) (hl : cs.size = size)
    (h1 : ∀ u ∈ cs.toList, u.oneCell' = true) (hn : n + 1 ≤ 1000000) (hby : bytes ≤ 1000) (hbase : base ≤ W.heap.size)
    (h : ∀ v' w', w'.ownsRow base e size v' (n + 1) (xs ++ cs.toList) → Below base W w' → v' ≠ .slice none 0 0 → wpList P ops Q rest (a.put o.dst v') w') : wpList P ops Q (o :: rest) a (W.alloc (.cells cs T)) := by
  obtain ⟨i, hi, hz0, hz1, hz2⟩ := info_parts hinfo
  refine wpList_append_own (W.alloc (.cells cs T)) hgd s x t ho base e i z size bytes ht hi hz0 hz1 hz2 hzs hsz v n xs hs (hown.alloc _) ⟨W.heap.size, 0, none⟩ 1 1 cs.toList hx (by simp [hl]) (fun j u hu => ?_) h1 (by unfold maxLen; omega) ?_ (by simp; omega) (fun v' w' h2 h3 h4 => ?_)
  · have hadd : (⟨W.heap.size, 0, none⟩ : Addr).add j = ⟨W.heap.size, j, none⟩ := by unfold Addr.add; split <;> simp_all
    rw [hadd, World.cell?_alloc_at _ _ _ _ rfl]
    simpa using hu
  · have : (n + 1) * bytes ≤ 1000000 * 1000 := Nat.mul_le_mul hn hby
    omega
  · refine h v' w' h2 (((Below.refl _ W).alloc hbase _).grown h3 (by simp; omega) (fun k hk => (hown.lt k hk).1)) (fun e => ?_)
    have := (h4.1 e).2
    omega

/-- append(out, l...): l is read. -/
theorem appRd (hgd : o.guard = none) (s x : Operand) (t : TypeId) (ho : o.op = .call { callee := .builtin .append, args := #[s, x], argTypes := #[t, t] })
    (base : Nat) (e : TypeId) (size bytes : Nat) (z : Value) (ht : P.underlying t = some (.slice e)) (hinfo : (P.info? e).map (fun i => (i.zero, i.size, i.bytes)) = some (some z, size, bytes)) (hzs : z.cells.size = size) (hsz : 0 < size)
    (v : Value) (n : Nat) (xs : List Value) (hs : a.eval s = v) (hown : W.ownsRow base e size v n xs) (A : Option Addr) (m c : Nat) (news : List Value) (hx : a.eval x = .slice A m c) (hN : A = none → c = 0) (hrd : Rd W size A m news)
    (h1 : ∀ u ∈ news, u.oneCell' = true) (hn : n + m ≤ 1000000) (hby : bytes ≤ 1000) (hbase : base ≤ W.heap.size)
    (h : ∀ v' w', w'.ownsRow base e size v' (n + m) (xs ++ news) → Below base W w' → (v ≠ .slice none 0 0 → v' ≠ .slice none 0 0) → wpList P ops Q rest (a.put o.dst v') w') : wpList P ops Q (o :: rest) a W := by
  obtain ⟨i, hi, hz0, hz1, hz2⟩ := info_parts hinfo
  cases A with
  | none =>
    have hm : m = 0 := by
      rcases Nat.eq_zero_or_pos m with hm | hm
      · exact hm
      · obtain ⟨b, off, e, _⟩ := hrd.2 hm
        cases e
    subst hm
    obtain rfl := hN rfl
    have hnews : news = [] := List.eq_nil_of_length_eq_zero (by simpa using hrd.1)
    subst hnews
    exact wpList_append_own_none hgd s x t ho base e i size ht hi v n xs hs hown hx (h v W (by simpa using hown) (Below.refl _ _) (fun h => h))
  | some ad =>
    refine wpList_append_own W hgd s x t ho base e i z size bytes ht hi hz0 hz1 hz2 hzs hsz v n xs hs hown ad m c news hx hrd.1 (fun j u hu => ?_) h1 (by unfold maxLen; omega) ?_ hbase (fun v' w' h2 h3 h4 => ?_)
    · have hlt : j < news.length := (List.getElem?_eq_some_iff.1 hu).1
      have hm : 0 < m := by
        rcases Nat.eq_zero_or_pos m with hm | hm
        · have := hrd.1; rw [hm] at this; omega
        · exact hm
      obtain ⟨b, off, e, _, hc⟩ := hrd.2 hm
      cases e
      have hadd : (⟨b, off, none⟩ : Addr).add j = ⟨b, off + j, none⟩ := by
        unfold Addr.add; split <;> simp_all
      rw [hadd]
      exact hc j u hu
    · have : (n + m) * bytes ≤ 1000000 * 1000 := Nat.mul_le_mul hn hby
      omega
    · exact h v' w' h2 ((Below.refl _ W).grown h3 hbase (fun k hk => (hown.lt k hk).1)) (fun hv e => hv (h4.1 e).1)
end

/-- An empty literal of a slice owns nothing yet. -/
theorem owns_empty (w : World) (base e size : Nat) (hb : base ≤ w.heap.size) (T : TypeId) (hT : T = e) : (w.alloc (.cells #[] T)).ownsRow base e size (.slice (some ⟨w.heap.size, 0, none⟩) 0 0) 0 [] := by
  subst hT
  have := World.ownsRow_lit (base := base) (size := size) (e := T) w #[] 0 hb (by unfold maxLen; omega) (by simp)
  simpa using this

theorem oneCell_enc1 (xs : List Int) : ∀ u ∈ enc1 xs, u.oneCell' = true := by
  intro u hu
  obtain ⟨x, _, rfl⟩ := List.mem_map.1 hu
  rfl
theorem oneCell_enc2 (xs : List (Int × Int)) : ∀ u ∈ enc2 xs, u.oneCell' = true := by
  intro u hu
  obtain ⟨x, _, hx⟩ := List.mem_flatMap.1 hu
  simp at hx
  rcases hx with rfl | rfl <;> rfl

end Go.Proofs.Ytgjpdjihjphbdaa
