/- Contracts of the reference, of groups: more. -/
import Derived.Test.YtgjpdjihjphbdaaGr1
namespace Go.Proofs.Ytgjpdjihjphbdaa
open Go.RowKit

theorem ltL_lits {n : Nat} {α : Type} {f : α → MV} (hf : ∀ a, (f a).lt n = true) : ∀ xs : List α, ltL n (xs.map f) = true
  | [] => rfl
  | x :: xs => by simp [ltL, hf x, ltL_lits hf xs]
theorem pureL_lits {α : Type} {f : α → MV} (hf : ∀ a, (f a).pure = true) : ∀ xs : List α, pureL (xs.map f) = true
  | [] => rfl
  | x :: xs => by simp [pureL, hf x, pureL_lits hf xs]
theorem ltL_R (n : Nat) (xs : List (Int × Int)) : ltL n (xs.map encR) = true := ltL_lits (fun ⟨_, _⟩ => rfl) xs
theorem ltL_I (n : Nat) (xs : List Int) : ltL n (xs.map I64) = true := ltL_lits (fun _ => rfl) xs
theorem pureL_R (xs : List (Int × Int)) : pureL (xs.map encR) = true := pureL_lits (fun ⟨_, _⟩ => rfl) xs
theorem pureL_I (xs : List Int) : pureL (xs.map I64) = true := pureL_lits (fun _ => rfl) xs
theorem frz_arr {h : MHeap} {id i k g : Nat} {o : MObj} {es : List MV} (ho : h[id]? = some o) (hg : o.g = g) (hk : i + k ≤ o.es.length) (hl : ltL 0 o.es = true) (he : (o.es.drop i).take k = es) : frz 0 [] h 8 (.arr id i k g) = some (.sl es) := by
  simp [frz, MV.lt, ho, hg, hk, hl, he]
theorem frz_sl {h : MHeap} {es : List MV} (hl : ltL 0 es = true) : frz 0 [] h 8 (.sl es) = some (.sl es) := by
  simp [frz, MV.lt, hl]
/-- A slice that may be read, now and later. -/
def FzS (H : MHeap) (v : MV) (es : List MV) : Prop := v.slen = some es.length ∧ ∀ t, frz 0 [] (H ++ t) 8 v = some (.sl es)
theorem FzS.now {H : MHeap} {v : MV} {es : List MV} (h : FzS H v es) : frz 0 [] H 8 v = some (.sl es) := by have := h.2 []; rwa [List.append_nil] at this
theorem fz_arr {h : MHeap} {id k : Nat} {o : MObj} {es : List MV} (ho : h[id]? = some o) (hg : o.g = 0) (hk : k = es.length) (hl : ltL 0 es = true) (he : o.es = es) : FzS h (.arr id 0 k 0) es := by
  subst he hk
  refine ⟨rfl, fun t => frz_arr (o := o) ?_ hg (by simp) hl (by simp)⟩
  rw [List.getElem?_append_left (List.getElem?_eq_some_iff.1 ho).1]; exact ho
theorem fz_row (h : MHeap) (zs : List Int) : FzS (h ++ rowH zs) (sh1 h.length (rowM zs)) (zs.map I64) := by
  cases zs with
  | nil => exact ⟨rfl, fun t => frz_sl rfl⟩
  | cons z zs =>
    refine fz_arr (o := ⟨0, false, 1, (z :: zs).map I64⟩) ?_ rfl (by simp) (ltL_I 0 _) rfl
    simp [rowH]

theorem mf_CopyRanges : MT.mf 17 = some ⟨6, [(.tmp 2)], (.seq (.reg [⟨none, (some 2), (.nil0 2)⟩]) (.seq (.reg [⟨none, (some 3), (.bsl (.agg [(.lit (.int .i64 0)), (.lit (.int .i64 0))]) 2 0 [])⟩, ⟨none, (some 4), (.mv (.s 0))⟩, ⟨none, (some 5), (.app 2 (.s 3) (.s 4))⟩, ⟨none, (some 2), (.mv (.s 5))⟩]) .ret))⟩ := by kernel_rfl
theorem rCopyRanges_z (k : Nat) (xs : List (Int × Int)) (hx : xs.length ≤ 1000000) : runZ MT (orA k) (itA k) 1000000 17 [.sl (xs.map encR)] [] = some (.arr 0 0 xs.length 0, [⟨0, false, 2, xs.map encR⟩]) := by
  refine runZ_of mf_CopyRanges (by simp) ?_
  simp only [argsL]
  cases xs with
  | nil =>
    repeat (first | apply ef_seq | (apply ef_mv; exact rfl; exact rfl) | (apply ef_nil0; exact rfl) | (apply ef_bsl; exact rfl; (repeat (apply XVs.cons; exact rfl)); exact XVs.nil; exact rfl) | apply ef_nil | apply seqQ.normal)
    (apply ef_app0; (· exact rfl); (· exact rfl); (· exact rfl); (· exact rfl); (· exact rfl); (· exact rfl); (· exact rfl); (· exact rfl))
    repeat (first | (apply ef_mv; exact rfl; exact rfl) | apply ef_nil | apply seqQ.normal | apply ef_ret)
    (apply fin_arr; (· exact rfl); (· exact rfl); (· exact rfl); (· exact rfl); (· simp); (· exact rfl); (· exact rfl); (· exact rfl); (· exact rfl); (· exact rfl))
  | cons x xs =>
    have hs : ((x :: xs).map encR).all (MV.sOk 2) = true := by
      rw [List.all_eq_true]
      intro m hm
      obtain ⟨⟨a, b⟩, _, rfl⟩ := List.mem_map.1 hm
      rfl
    repeat (first | apply ef_seq | (apply ef_mv; exact rfl; exact rfl) | (apply ef_nil0; exact rfl) | (apply ef_bsl; exact rfl; (repeat (apply XVs.cons; exact rfl)); exact XVs.nil; exact rfl) | apply ef_nil | apply seqQ.normal)
    (apply ef_app; (· exact rfl); (· exact rfl); (· exact rfl); (· exact rfl); (· exact rfl); (· exact rfl); (· exact rfl); (· exact rfl); (· (simp at hx ⊢; omega)); (· exact hs); (· exact rfl))
    repeat (first | (apply ef_mv; exact rfl; exact rfl) | apply ef_nil | apply seqQ.normal | apply ef_ret)
    (apply fin_arr; (· exact rfl); (· exact rfl); (· exact rfl); (· exact rfl); (· simp); (· (exact ltL_R 0 (x :: xs))); (· (simp; rw [List.take_of_length_le (by simp)])); (· exact rfl); (· exact rfl); (· (simp)))
theorem rCopyRanges_c (k : Nat) (xs : List (Int × Int)) (h : MHeap) {v : MV} (hx : xs.length ≤ 1000000) (hv : frz 0 [] h 8 v = some (.sl (xs.map encR))) : orA (k + 1) 17 [v] h = some (.arr h.length 0 xs.length 0, h ++ [⟨0, false, 2, xs.map encR⟩]) := by
  have := callA (k := k) (args := [v]) (args' := [.sl (xs.map encR)]) (h := h) (by simp [List.mapM_cons, hv]) rfl (rCopyRanges_z k xs hx) rfl (by simp [okH, ltL_R, pureL_R])
  simpa [shV, sh1] using this

/-- Two slices of integers are equal. -/
theorem mf_Ints : MT.mf 21 = some ⟨26, [(.tmp 4)], (.seq (.reg [⟨none, (some 4), (.mv (.c (.lit (.bool false))))⟩]) (.seq (.seq (.reg [⟨none, (some 6), (.mv (.s 0))⟩, ⟨none, (some 7), (.len (.s 6))⟩, ⟨none, (some 8), (.mv (.s 1))⟩, ⟨none, (some 9), (.len (.s 8))⟩, ⟨none, (some 10), (.bin .neq (.s 7) (.s 9))⟩]) (.cond (.s 10) (.seq (.reg [⟨none, (some 4), (.mv (.c (.lit (.bool false))))⟩]) .ret) .skip)) (.seq (.seq (.reg [⟨none, (some 5), (.mv (.c (.lit (.int .i64 0))))⟩]) (.block 0 (.loop [5, 0, 1] (.seq (.seq (.reg [⟨none, (some 11), (.mv (.s 5))⟩, ⟨none, (some 12), (.mv (.s 0))⟩, ⟨none, (some 13), (.len (.s 12))⟩, ⟨none, (some 14), (.bin .lss (.s 11) (.s 13))⟩]) (.cond (.s 14) .skip (.exit 0))) (.seq (.block 1 (.seq (.reg [⟨none, (some 17), (.mv (.s 0))⟩, ⟨none, (some 18), (.mv (.s 5))⟩, ⟨none, (some 19), (.ia 1 (.s 17) (.s 18))⟩, ⟨none, (some 20), (.ld none (.s 19))⟩, ⟨none, (some 21), (.mv (.s 1))⟩, ⟨none, (some 22), (.mv (.s 5))⟩, ⟨none, (some 23), (.ia 1 (.s 21) (.s 22))⟩, ⟨none, (some 24), (.ld none (.s 23))⟩, ⟨none, (some 25), (.bin .neq (.s 20) (.s 24))⟩]) (.cond (.s 25) (.seq (.reg [⟨none, (some 4), (.mv (.c (.lit (.bool false))))⟩]) .ret) .skip))) (.reg [⟨none, (some 15), (.mv (.s 5))⟩, ⟨none, (some 16), (.bin .add (.s 15) (.c (.lit (.int .i64 1))))⟩, ⟨none, (some 5), (.mv (.s 16))⟩])))))) (.seq (.reg [⟨none, (some 4), (.mv (.c (.lit (.bool true))))⟩]) .ret))))⟩ := by kernel_rfl
theorem bInts_z (k : Nat) (xs ys : List Int) (hx : xs.length < 1000000) : runZ MT (orA k) (itA k) 1000000 21 [.sl (xs.map I64), .sl (ys.map I64)] [] = some (Bo (xs == ys), []) := by
  have hl1 : (xs.map I64).length = xs.length := by simp
  have hl2 : (ys.map I64).length = ys.length := by simp
  refine runZ_of mf_Ints (by simp) ?_
  simp only [argsL]
  by_cases hlen : xs.length = ys.length
  · repeat (first | apply ef_seq | (apply ef_mv; exact rfl; exact rfl) | (apply ef_bin; exact rfl; exact rfl; exact rfl; (exact cmp_f rfl (by simp only [cmpP]; omega))) | (apply ef_len; exact rfl; exact rfl; (exact rfl)) | apply ef_nil | apply seqQ.normal | apply ef_block | apply ef_skip | (apply ef_condf; exact rfl; (exact (rfl : false = false))))
    refine ef_loop (α := Nat) (fun i => i ≤ xs.length ∧ (xs == ys) = (xs.drop i == ys.drop i)) (fun i => [(5, I64 (i : Int)), (0, .sl (xs.map I64)), (1, .sl (ys.map I64))]) (fun _ => []) (fun i => xs.length - i) 0 [5, 0, 1] (fun _ => rfl) rfl ⟨by omega, by simp⟩ (by simpa using hx) (by ((repeat (refine Hold.cons (by exact rfl) ?_)); exact Hold.nil)) rfl ?_
    rintro i ⟨hi, hz⟩
    by_cases hlt : i < xs.length
    · have e1 := at_map I64 xs i hlt
      have e2 := at_map I64 ys i (by omega)
      have HD := Lib.hid (drop_at xs i hlt)
      have HD2 := Lib.hid (drop_at ys i (by omega))
      have HZ := Lib.hid hz
      clear hz
      generalize xs[i] = p at e1 HD
      generalize ys[i] = q at e2 HD2
      by_cases hpq : p = q
      · subst hpq
        repeat (first | apply ef_seq | (apply ef_mv; exact rfl; exact rfl) | (apply ef_bin; exact rfl; exact rfl; exact rfl; (first | exact cmp_t rfl (by first | exact rfl | (simp only [cmpP]; omega)) | exact cmp_f rfl (by simp only [cmpP]; omega) | ((with_reducible refine bin_add (wrap_of ?_ ?_)) <;> omega))) | (apply ef_len; exact rfl; exact rfl; (exact rfl)) | (apply ef_ldr; exact rfl; exact rfl; (exact rfl)) | (apply ef_ias; exact rfl; exact rfl; exact rfl; (omega); assumption; exact rfl) | apply ef_nil | apply seqQ.normal | apply blockQ.normal | apply ef_block | apply ef_skip | (apply ef_condt; exact rfl; (exact (rfl : true = true))) | (apply ef_condf; exact rfl; (exact (rfl : false = false))))
        (refine loopQ.normal _ _ ⟨i + 1, ⟨hlt, by rw [HZ.out, HD.out, HD2.out]; simp⟩, (by first | (simp only; omega) | omega), by ((repeat (refine Hold.cons (by exact rfl) ?_)); exact Hold.nil), .inl (Nat.le_refl _), (by first | exact List.take_length | exact rfl)⟩)
      · repeat (first | apply ef_seq | (apply ef_mv; exact rfl; exact rfl) | (apply ef_bin; exact rfl; exact rfl; exact rfl; (exact cmp_t rfl (by first | exact rfl | (simp only [cmpP]; omega)))) | (apply ef_len; exact rfl; exact rfl; (exact rfl)) | (apply ef_ldr; exact rfl; exact rfl; (exact rfl)) | (apply ef_ias; exact rfl; exact rfl; exact rfl; (omega); assumption; exact rfl) | apply ef_nil | apply seqQ.normal | apply loopQ.ret | apply ef_ret | apply seqQ.ret | apply blockQ.ret | apply ef_block | apply ef_skip | (apply ef_condt; exact rfl; (exact (rfl : true = true))))
        (refine fin1 rfl (by exact rfl) rfl ?_)
        rw [HZ.out, HD.out, HD2.out]
        simp [hpq]
    · repeat (first | apply ef_seq | (apply ef_mv; exact rfl; exact rfl) | (apply ef_bin; exact rfl; exact rfl; exact rfl; (exact cmp_f rfl (by simp only [cmpP]; omega))) | (apply ef_len; exact rfl; exact rfl; (exact rfl)) | apply ef_nil | apply seqQ.normal | apply loopQ.exit | apply ef_ret | apply ef_exit | apply seqQ.exit | apply blockQ.here | (apply ef_condf; exact rfl; (exact (rfl : false = false))))
      (refine fin1 rfl (by exact rfl) rfl ?_)
      rw [hz, List.drop_eq_nil_of_le (by omega), List.drop_eq_nil_of_le (by omega)]; rfl
  · repeat (first | apply ef_seq | (apply ef_mv; exact rfl; exact rfl) | (apply ef_bin; exact rfl; exact rfl; exact rfl; (exact cmp_t rfl (by first | exact rfl | (simp only [cmpP]; omega)))) | (apply ef_len; exact rfl; exact rfl; (exact rfl)) | apply ef_nil | apply seqQ.normal | apply ef_ret | apply seqQ.ret | (apply ef_condt; exact rfl; (exact (rfl : true = true))))
    (refine fin1 rfl (by exact rfl) rfl ?_)
    have : (xs == ys) = false := by
      rw [beq_eq_false_iff_ne]; exact fun e => hlen (by rw [e])
    rw [this]
theorem bInts_c (k : Nat) (xs ys : List Int) (h : MHeap) {v w : MV} (hx : xs.length < 1000000) (hv : frz 0 [] h 8 v = some (.sl (xs.map I64))) (hw : frz 0 [] h 8 w = some (.sl (ys.map I64))) {t : Bool} (ht : (xs == ys) = t) : orA (k + 1) 21 [v, w] h = some (Bo t, h) :=
  callL (args' := [.sl (xs.map I64), .sl (ys.map I64)]) (by simp [List.mapM_cons, hv, hw]) rfl (by rw [← ht]; exact bInts_z k xs ys hx)

/-- Groups. -/
theorem tGroups_bad (fixed lead : Int) (xs : List (Int × Int)) (hx : xs.length ≤ 9223372036854775807) (he : groupsErr fixed lead xs ≠ 0) : tA 16 [.agg [I64 fixed, I64 lead], .sl (xs.map encR)] [] = some (.tup [.lit (.slice none 0 0), I64 0, I64 (groupsErr fixed lead xs)], []) := by
  refine (if_pos rfl : tA 16 _ _ = tGroups 16 _ _).trans ?_
  simp only [tGroups, MV.elems, decR_map, if_pos hx, if_true, ne_eq, he, not_false_eq_true]
theorem tGroups_good (fixed lead : Int) (xs : List (Int × Int)) (he : groupsErr fixed lead xs = 0) : tA 16 [.agg [I64 fixed, I64 lead], .sl (xs.map encR)] [] = some (.tup [rowM (gSizes fixed lead xs), I64 (gCost fixed lead xs), I64 0], rowH (gSizes fixed lead xs)) := by
  have hx : xs.length ≤ 9223372036854775807 := by have := (groupsErr_ok he).2.2.1; omega
  refine (if_pos rfl : tA 16 _ _ = tGroups 16 _ _).trans ?_
  simp only [tGroups, MV.elems, decR_map, if_pos hx, if_true, ne_eq, he, not_true_eq_false, if_false]
theorem tGroupsR_good (fixed lead : Int) (xs : List (Int × Int)) (he : groupsErr fixed lead xs = 0) : tA 20 [.agg [I64 fixed, I64 lead], .sl (xs.map encR)] [] = some (.tup [rowM (gSizes fixed lead xs), I64 (gCost fixed lead xs)], rowH (gSizes fixed lead xs)) := by
  have hx : xs.length ≤ 9223372036854775807 := by have := (groupsErr_ok he).2.2.1; omega
  refine ((if_neg (by decide)).trans (if_pos rfl) : tA 20 _ _ = tGroups 20 _ _).trans ?_
  simp only [tGroups, MV.elems, decR_map, if_pos hx, ne_eq, he, not_true_eq_false, if_false]
  rfl
theorem okH_row (p : Bool) (zs : List Int) : okH p (rowH zs) = true := by
  cases zs with
  | nil => rfl
  | cons z zs => simp [okH, rowH, ltL_I, pureL_I, ltL, pureL, MV.lt, MV.pure]
theorem ok1_row (p : Bool) (zs : List Int) : ok1 p (rowM zs) = true := by
  cases zs with
  | nil => cases p <;> rfl
  | cons z zs => rfl
theorem args_x {h : MHeap} {v : MV} {fixed lead : Int} {es : List MV} (hv : frz 0 [] h 8 v = some (.sl es)) : [.agg [I64 fixed, I64 lead], v].mapM (frz 0 [] h 8) = some [.agg [I64 fixed, I64 lead], .sl es] := by
  simp [List.mapM_cons, hv]; simp [frz, MV.lt, ltL]
theorem GroupsOf_bc (k : Nat) (fixed lead : Int) (xs : List (Int × Int)) (h : MHeap) {v : MV} {e : Int} (hx : xs.length ≤ 9223372036854775807) (he : groupsErr fixed lead xs = e) (h0 : e ≠ 0) (hv : frz 0 [] h 8 v = some (.sl (xs.map encR))) :
    orA (k + 1) 16 [.agg [I64 fixed, I64 lead], v] h = some (.tup [.lit (.slice none 0 0), I64 0, I64 e], h) := by
  subst he
  have := callT (k := k) (args_x hv) (tGroups_bad fixed lead xs hx h0) (by simp [okV, ok1, MV.lt, MV.pure]) rfl
  simpa [shV, sh1] using this
theorem GroupsOf_gc (k : Nat) (fixed lead : Int) (xs : List (Int × Int)) (h : MHeap) {v : MV} (he : groupsErr fixed lead xs = 0) (hv : frz 0 [] h 8 v = some (.sl (xs.map encR))) :
    ∃ u H, orA (k + 1) 16 [.agg [I64 fixed, I64 lead], v] h = some (.tup [u, I64 (gCost fixed lead xs), I64 0], h ++ H) ∧ FzS (h ++ H) u ((gSizes fixed lead xs).map I64) := by
  have := callT (k := k) (args_x hv) (tGroups_good fixed lead xs he) (by simp [okV, ok1_row]; simp [ok1, MV.lt, MV.pure]) (okH_row _ _)
  exact ⟨_, _, by simpa [shV, sh1] using this, fz_row h _⟩
theorem rGroups_gc (k : Nat) (fixed lead : Int) (xs : List (Int × Int)) (h : MHeap) {v : MV} (he : groupsErr fixed lead xs = 0) (hv : frz 0 [] h 8 v = some (.sl (xs.map encR))) :
    ∃ u H, orA (k + 1) 20 [.agg [I64 fixed, I64 lead], v] h = some (.tup [u, I64 (gCost fixed lead xs)], h ++ H) ∧ FzS (h ++ H) u ((gSizes fixed lead xs).map I64) := by
  have := callT (k := k) (args_x hv) (tGroupsR_good fixed lead xs he) (by simp [okV, ok1_row]; simp [ok1, MV.lt, MV.pure]) (okH_row _ _)
  exact ⟨_, _, by simpa [shV, sh1] using this, fz_row h _⟩
end Go.Proofs.Ytgjpdjihjphbdaa
