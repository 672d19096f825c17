/- Regions that draw their order, inside the fence of a range over a function. -/
import Derived.Test.YtgjpdjihjphbdaaCalm
import Derived.RangeFuncNested
import Derived.RangeFuncBound
import Derived.RangeFuncCalls
import Derived.RangeFuncLeaves
import Derived.RangeFuncBox
import Derived.OrdersIn
import Derived.OwnWalkIn
import Derived.TacticsInMore
import Derived.LoopNIn
import Derived.LoopIn
import Derived.Shelf.Abstract
namespace Go.Proofs.Ytgjpdjihjphbdaa
open Go.RowKit

/-- The fence that lets everything by, in a round or in none. -/
abbrev Fw (r : Option Nat) : Fence := { Fence.wide with round := r }

theorem calls_in {P : Program} {f : FuncId} {args : Array Value} {w : World} {R : Ending → World → Prop} (r : Option Nat) (n : Nat) (h : Calls P f args w R) : CallsIn (Fw r) n P f args w R :=
  (callsIn_wide (n := n)).2 h

/-- No operation defers a call. -/
def noDefer (ops : Array Oper) : Bool := ops.all fun o => match o.op with | .defer _ => false | _ => true
theorem noDefer_spec {ops : Array Oper} (h : noDefer ops = true) {i : Nat} {o : Oper} (hi : ops[i]? = some o) : ∀ c, o.op ≠ .defer c := by
  intro c e
  have := Array.all_eq_true'.1 h o (Array.mem_of_getElem? hi)
  rw [e] at this
  cases this

section
variable {P : Program} {ops : Array Oper} {md : Region.Mode} {C : World → Prop} {r : Option Nat} {m : Nat}

theorem about_wide (o : Oper) (a : Act) (w : World) : ∀ f, o.about P w a.eval = some f → (Fw r).fn f := fun _ _ => trivial

theorem Oper.wpIn_of_quiet {o : Oper} {a : Act} {K : Act → Prop} {K' : Act → World → Prop} {Q' : Exit → Act → World → Prop} {w : World} (hnd : ∀ c, o.op ≠ .defer c) (hw : C w) (h : ∀ a w', C w' → K a → K' a w') (hh : o.quiet P a C K) : o.wpIn (Fw r) m P a w K' Q' := by
  obtain ⟨v, h1, h2⟩ := hh
  have h3 := h1 w hw
  unfold Oper.quietAt at h3
  refine ⟨about_wide o a w, ?_⟩
  rw [Oper.semAt_eq _ _ _ hnd]
  generalize (execOp a.eval o).run P w = x at *
  cases x with
  | ok nx w' =>
    cases nx <;> simp only [Oper.quietUpon] at h3 <;> simp only [Oper.uponIn]
    case value u =>
      obtain ⟨e1, e2⟩ := h3
      rw [e1, e2]
      exact h _ _ hw h2
    case skip =>
      obtain ⟨e1, e2⟩ := h3
      rw [e1, ← e2]
      exact h _ _ hw h2
    case enter f args =>
      obtain ⟨e1, hc⟩ := h3
      rw [e1]
      exact ⟨fun h => by simp [Fence.wide] at h, (calls_in r _ hc).mono fun e w'' ⟨he, hw''⟩ => by subst he; exact h _ _ hw'' h2⟩
  | halt y w' => simp only [Oper.quietUpon] at h3

theorem wpOpIn_of_qOp {i : Nat} {a : Act} {K : Act → Prop} {K' : Act → World → Prop} {Q' : Exit → Act → World → Prop} {w : World} (hnd : noDefer ops = true) (hC : C w) (h : ∀ a w', C w' → K a → K' a w') (hh : qOp P ops C i K a) : wpOpIn (Fw r) m P ops Q' i K' a w := by
  unfold qOp at hh
  unfold wpOpIn
  split
  · rename_i ho; simp only [ho] at hh; exact h _ _ hC hh
  · rename_i o ho
    simp only [ho] at hh
    split
    · rename_i hw; simp only [hw, if_true] at hh; exact Oper.wpIn_of_quiet (noDefer_spec hnd ho) hC h hh
    · rename_i hw; simp only [hw] at hh; exact ⟨about_wide o a w, h _ _ hC hh⟩

theorem headAnyIn_sound (hnd : noDefer ops = true) {n g : Nat} {L : Array Bool → Act → Prop} {Q : Exit → Act → World → Prop} (hL : ∀ listed a w, C w → L listed a → wpAnyIn (Fw r) m P md ops Q g listed a w) :
    ∀ (f : Nat) (listed : Array Bool) (a : Act) (w : World), C w → headAny P md ops C n L f listed a → wpAnyIn (Fw r) m P md ops Q (f + g) listed a w := by
  intro f
  induction f with
  | zero => intro listed a w hw h; rw [Nat.zero_add]; exact hL _ _ _ hw h
  | succ f ih =>
    intro listed a w hw h
    have e : f + 1 + g = (f + g) + 1 := by omega
    rw [e]
    exact ⟨fun h0 => absurd h0 h.1, fun i hi => wpOpIn_of_qOp hnd hw (fun a' w' hw' h' => ih _ a' w' hw' h') (h.2 i hi).2⟩

theorem wpAnyIn_of_seq {F : Fence} {Q : Exit → Act → World → Prop} : ∀ (l : List Oper) (k : Nat) (listed : Array Bool) (a : Act) (w : World), (∀ j, l[j]? = ops[k + j]?) →
    Region.seqB md ops l.length k listed = true → wpListIn F m P ops Q l a w → wpAnyIn F m P md ops Q l.length listed a w := by
  intro l
  induction l with
  | nil => intro k listed a w _ hB h; exact ⟨by simpa [Region.seqB] using hB, h⟩
  | cons o l ih =>
    intro k listed a w hl hB h
    have h0 : ops[k]? = some o := by simpa using (hl 0).symm
    simp only [List.length_cons, Region.seqB, Bool.and_eq_true, decide_eq_true_eq] at hB
    refine ⟨fun h1 => (by rw [hB.1] at h1; cases h1), fun i hi => ?_⟩
    rw [hB.1] at hi
    obtain rfl : i = k := by simpa using hi
    have hw : wpOpIn F m P ops Q i (wpListIn F m P ops Q l) a w := by unfold wpOpIn; simp only [h0]; exact h
    exact wpOpIn_mono (fun a' w' h' => ih (i + 1) _ a' w' (fun j => by have := hl (j + 1); simpa [Nat.add_assoc, Nat.add_comm 1 j] using this) hB.2 h') hw

theorem wpAnyIn_of_quiet (hnd : noDefer ops = true) {Q : Act → Prop} {Q' : Exit → Act → World → Prop} (hQ : ∀ a w, C w → Q a → Q' .normal a w) : ∀ (fuel : Nat) (listed : Array Bool) (a : Act) (w : World), C w →
    wpAnyQ P md ops C Q fuel listed a → wpAnyIn (Fw r) m P md ops Q' fuel listed a w := by
  intro fuel
  induction fuel with
  | zero => intro listed a w hw h; exact ⟨h.1, hQ _ _ hw h.2⟩
  | succ f ih => intro listed a w hw h; exact ⟨fun h0 => hQ _ _ hw (h.1 h0), fun i hi => wpOpIn_of_qOp hnd hw (fun a' w' hw' => ih _ a' w' hw') (h.2 i hi)⟩
end

/-- 'wp_region_calm' inside a fence. -/
theorem wpIn_region_calm {P : Program} {id m : Nat} {r : Option Nat} {Q : Exit → Act → World → Prop} {a : Act} {w : World} {l : List Oper} (hm : P.follows .mixedOrders = true) (hB : (Region.lexB .any l.toArray && noDefer l.toArray) = true)
    (h : wpQuiet P l.toArray (fun w' => ∃ x : After w, w' = x.val) (fun a' => ∀ w', Below w.heap.size w w' → Q .normal a' w') l a) : (Code.region id l.toArray true).wpIn (Fw r) m P Q a w := by
  simp only [Region.lexB, Bool.and_eq_true] at hB
  obtain ⟨⟨h1, h2⟩, hnd⟩ := hB
  have e : (fun a' => ∀ w', Below w.heap.size w w' → Q .normal a' w') = (fun a' => ∀ w', (∃ x : After w, w' = x.val) → Q .normal a' w') := funext fun a' => propext after_iff
  rw [e] at h
  have h3 := wpAnyQ_lex (C := fun w' => ∃ x : After w, w' = x.val) (md := .any) h1 l 0 (Array.replicate l.toArray.size false) a (by simp) (by simpa using h2) h
  refine wpIn_region_any hm (wpAnyIn_of_quiet hnd (Q := fun a' => ∀ w', (∃ x : After w, w' = x.val) → Q .normal a' w') (fun _ w' hw' h => h w' hw') _ _ _ _ ⟨⟨{ w with drawn := w.drawn + 1 }, (Below.refl _ w).drew⟩, rfl⟩ ?_)
  simpa using h3

/-- 'wp_region_calm_tail' inside a fence. -/
theorem wpIn_region_calm_tail {P : Program} {id m : Nat} {r : Option Nat} {Q : Exit → Act → World → Prop} {a : Act} {w : World} {l : List Oper} (n : Nat) (hm : P.follows .mixedOrders = true) (hB : (Region.lexTailB .any l.toArray n && noDefer l.toArray) = true)
    (h : wpQuiet P l.toArray (fun w' => ∃ x : After w, w' = x.val) (fun a' => ∀ w', Below w.heap.size w w' → wpListIn (Fw r) m P l.toArray Q (l.drop n) a' w') (l.take n) a) : (Code.region id l.toArray true).wpIn (Fw r) m P Q a w := by
  simp only [Region.lexTailB, Bool.and_eq_true, decide_eq_true_eq] at hB
  obtain ⟨⟨⟨⟨⟨hsel, hn⟩, hs⟩, hc⟩, hlex⟩, hnd⟩ := hB
  have hn' : n < l.length := by simpa using hn
  have htl : (l.take n).length = n := by simp; omega
  have hdl : (l.drop n).length = l.toArray.size - n := by simp
  have inv0 : HeadInv .any l.toArray n (Array.replicate l.toArray.size false) :=
    ⟨by simp, fun j oj _ hl => (by rw [getD_replicate_false] at hl; cases hl), fun t _ ht => getD_in (by simpa using ht) (getD_replicate_false _ _)⟩
  have hhead := headAny_lex (md := .any) (g := l.toArray.size - n) hsel hs hc hn (l.take n) 0 (Array.replicate l.toArray.size false) a
    (fun j hj => by rw [List.getElem?_take_of_lt (by omega)]; simp) (by omega) inv0 (by rw [htl]; exact hlex) h
  have hany := headAnyIn_sound (r := r) (m := m) hnd (Q := Q) (g := l.toArray.size - n) (fun listed a' w' hw' ⟨hq, ht⟩ => by
    obtain ⟨x, rfl⟩ := hw'
    rw [← hdl] at hq ⊢
    exact wpAnyIn_of_seq (l.drop n) n listed a' x.val (fun j => by simp) hq (ht _ x.below)) (l.take n).length _ a { w with drawn := w.drawn + 1 } ⟨⟨{ w with drawn := w.drawn + 1 }, (Below.refl _ w).drew⟩, rfl⟩ hhead
  refine wpIn_region_any hm ?_
  have hsz : (l.take n).length + (l.toArray.size - n) = l.toArray.size := by simp; omega
  rw [hsz] at hany
  exact hany

section
variable {P : Program} {ops : Array Oper} {C : World → Prop} {Q : Exit → Act → World → Prop} {r : Option Nat} {m : Nat}
theorem wpListIn_of_quiet (rest : List Oper) : ∀ (l : List Oper), (∀ o ∈ l, ∀ c, o.op ≠ .defer c) → ∀ (a : Act) (w : World), C w → wpQuiet P ops C (fun a' => ∀ w', C w' → wpListIn (Fw r) m P ops Q rest a' w') l a → wpListIn (Fw r) m P ops Q (l ++ rest) a w := by
  intro l
  induction l with
  | nil => intro _ a w hw h; exact h w hw
  | cons o l ih =>
    intro hnd a w hw h
    rw [List.cons_append]
    refine wpListIn_step fun K hK => ?_
    unfold wpQuiet at h
    split
    · rename_i hg
      rw [if_pos hg] at h
      exact Oper.wpIn_of_quiet (hnd o (by simp)) hw (fun a' w' hw' h' => hK _ _ (ih (fun o ho => hnd o (by simp [ho])) a' w' hw' h')) h
    · rename_i hg
      rw [if_neg hg] at h
      exact ⟨about_wide o a w, hK _ _ (ih (fun o ho => hnd o (by simp [ho])) _ _ hw h)⟩
end

/-- 'wp_region_calm_seq' inside a fence. -/
theorem wpIn_region_calm_seq {P : Program} {id m : Nat} {r : Option Nat} {Q : Exit → Act → World → Prop} {a : Act} {w : World} {l : List Oper} (n : Nat) (hB : noDefer l.toArray = true)
    (h : wpQuiet P l.toArray (fun w' => ∃ x : After w, w' = x.val) (fun a' => ∀ w', Below w.heap.size w w' → wpListIn (Fw r) m P l.toArray Q (l.drop n) a' w') (l.take n) a) : (Code.region id l.toArray false).wpIn (Fw r) m P Q a w := by
  refine wpIn_region_list ?_
  have e : (fun a' => ∀ w', Below w.heap.size w w' → wpListIn (Fw r) m P l.toArray Q (l.drop n) a' w') = (fun a' => ∀ w', (∃ x : After w, w' = x.val) → wpListIn (Fw r) m P l.toArray Q (l.drop n) a' w') := funext fun a' => propext after_iff
  rw [e] at h
  have h1 := wpListIn_of_quiet (P := P) (ops := l.toArray) (C := fun w' => ∃ x : After w, w' = x.val) (Q := Q) (r := r) (m := m) (l.drop n) (l.take n) (fun o ho => by
    obtain ⟨i, hi⟩ := List.getElem?_of_mem (List.mem_of_mem_take ho)
    exact noDefer_spec hB (i := i) (by simpa using hi)) a w ⟨⟨w, Below.refl _ _⟩, rfl⟩ h
  rw [List.take_append_drop] at h1
  simpa using h1

end Go.Proofs.Ytgjpdjihjphbdaa
