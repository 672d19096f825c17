/- Contracts: which strips are valid. -/
import Derived.Test.YtgjpdjihjphbdaaSp1
namespace Go.Proofs.Ytgjpdjihjphbdaa
open Go.RowKit

/-- The error of a line behind another one. -/
def lineE (a b : Int) (others : List Int) (last n : Int) : Int := firstE [unl (inB n (a + 1) (b - 1)) 2, unl (decide (last < n)) 9, unl (!others.contains n) 13]
def posnE (a b : Int) (others : List Int) : Int → Nat → List Int → Int × Int
  | _, _, [] => (0, 0)
  | last, i, n :: ns => if lineE a b others last n = 0 then posnE a b others n (i + 1) ns else (i, lineE a b others last n)
def rangeE (a b c : Int) (fl lo : List Int) : Int := firstE [unl (inB a 0 1000 && inB b 0 1000 && inB c 1 1000) 2, unl (decide (a ≤ b)) 9, unl (decide ((fl.length : Int) ≤ 40) && decide ((lo.length : Int) ≤ 40)) 8]
/-- The index and the error of a strip. -/
def stripE (a b c : Int) (fl lo : List Int) : Int × Int :=
  if rangeE a b c fl lo = 0 then (if (posnE a b [] a 0 fl).2 = 0 then posnE a b fl a 0 lo else posnE a b [] a 0 fl) else (0, rangeE a b c fl lo)

theorem firstE_cons (x : Int) (xs : List Int) : firstE (x :: xs) = if x = 0 then firstE xs else x := by
  by_cases h : x = 0 <;> simp [firstE, h]
theorem firstE_nil : firstE [] = 0 := rfl
theorem unl_eq {b : Bool} {n : Int} (hn : n ≠ 0) : unl b n = 0 ↔ b = true := by
  cases b
  · simp [unl, hn]
  · simp [unl]
theorem firstE_zero {x : Int} {xs : List Int} : firstE (x :: xs) = 0 ↔ x = 0 ∧ firstE xs = 0 := by
  rw [firstE_cons]
  by_cases h : x = 0
  · simp [h]
  · simp [h]
theorem lineE_zero {a b last n : Int} {o : List Int} : lineE a b o last n = 0 ↔ (a + 1 ≤ n ∧ n ≤ b - 1) ∧ last < n ∧ n ∉ o := by
  unfold lineE
  rw [firstE_zero, firstE_zero, firstE_zero, unl_eq (by decide), unl_eq (by decide), unl_eq (by decide), inB_iff]
  simp [firstE_nil]
theorem posnE_zero {a b : Int} {o : List Int} : ∀ {ns : List Int} {last : Int} {i : Nat}, (posnE a b o last i ns).2 = 0 → (∀ n ∈ ns, (a + 1 ≤ n ∧ n ≤ b - 1) ∧ last < n ∧ n ∉ o) ∧ Asc ns ∧ posnE a b o last i ns = (0, 0)
  | [], _, _, _ => ⟨(fun n h => by cases h), .nil, rfl⟩
  | n :: ns, last, i, h => by
    simp only [posnE] at h ⊢
    by_cases h0 : lineE a b o last n = 0
    · rw [if_pos h0] at h ⊢
      obtain ⟨h1, h2, h3⟩ := posnE_zero h
      have hl := lineE_zero.1 h0
      refine ⟨fun m hm => ?_, List.Pairwise.cons (fun m hm => (h1 m hm).2.1) h2, h3⟩
      rcases List.mem_cons.1 hm with rfl | hm
      · exact hl
      · have := h1 m hm
        exact ⟨this.1, by omega, this.2.2⟩
    · rw [if_neg h0] at h
      exact absurd h h0
structure OkS (a b c : Int) (fl lo : List Int) : Prop where
  ha : 0 ≤ a ∧ a ≤ 1000
  hb : 0 ≤ b ∧ b ≤ 1000
  hc : 1 ≤ c ∧ c ≤ 1000
  hab : a ≤ b
  hf : fl.length ≤ 40
  hl : lo.length ≤ 40
  f1 : ∀ n ∈ fl, a + 1 ≤ n ∧ n ≤ b - 1
  f2 : Asc fl
  l1 : ∀ n ∈ lo, (a + 1 ≤ n ∧ n ≤ b - 1) ∧ n ∉ fl
  l2 : Asc lo
  all : stripE a b c fl lo = (0, 0)
theorem stripE_ok {a b c : Int} {fl lo : List Int} (h : (stripE a b c fl lo).2 = 0) : OkS a b c fl lo := by
  have h' := h
  unfold stripE at h
  by_cases h0 : rangeE a b c fl lo = 0
  · rw [if_pos h0] at h
    by_cases h1 : (posnE a b [] a 0 fl).2 = 0
    · rw [if_pos h1] at h
      obtain ⟨p1, p2, p3⟩ := posnE_zero h1
      obtain ⟨q1, q2, q3⟩ := posnE_zero h
      have h2 := h0
      unfold rangeE at h2
      rw [firstE_zero, firstE_zero, firstE_zero, unl_eq (by decide), unl_eq (by decide), unl_eq (by decide)] at h2
      simp only [Bool.and_eq_true, inB_iff, decide_eq_true_eq] at h2
      obtain ⟨⟨⟨r1, r2⟩, r3⟩, r4, ⟨r5, r6⟩, -⟩ := h2
      exact ⟨r1, r2, r3, r4, by omega, by omega, fun n hn => (p1 n hn).1, p2, fun n hn => ⟨(q1 n hn).1, (q1 n hn).2.2⟩, q2, by unfold stripE; rw [if_pos h0, if_pos h1, q3]⟩
    · rw [if_neg h1] at h
      exact absurd h h1
  · rw [if_neg h0] at h
    exact absurd h h0
theorem OkS.good {a b c : Int} {fl lo : List Int} (h : OkS a b c fl lo) : Good lo := ⟨h.l2, fun n hn => by have := (h.l1 n hn).1; have := h.ha; omega⟩

theorem mf_positionsErr : MT.mf 130 = some ⟨47, [(.tmp 6), (.tmp 7)], (.seq (.reg [⟨none, (some 3), (.box 5 (.s 0))⟩, ⟨none, (some 6), (.mv (.c (.lit (.int .i64 0))))⟩, ⟨none, (some 7), (.mv (.c (.lit (.int .i64 0))))⟩]) (.seq (.reg [⟨none, (some 12), (.fa 0 (.s 3))⟩, ⟨none, (some 13), (.ld none (.s 12))⟩, ⟨none, (some 8), (.mv (.s 13))⟩]) (.seq (.seq (.reg [⟨none, (some 14), (.mv (.s 1))⟩, ⟨none, (some 15), (.len (.s 14))⟩, ⟨none, (some 16), (.mv (.c (.lit (.int .i64 0))))⟩]) (.block 0 (.loop [16, 15, 14, 3, 8, 2] (.seq (.reg [⟨none, (some 17), (.bin .lss (.s 16) (.s 15))⟩]) (.seq (.cond (.s 17) .skip (.exit 0)) (.seq (.block 1 (.seq (.reg [⟨none, (some 18), (.mv (.s 16))⟩, ⟨none, (some 19), (.ia 1 (.s 14) (.s 16))⟩, ⟨none, (some 20), (.ld none (.s 19))⟩, ⟨none, (some 9), (.mv (.s 18))⟩, ⟨none, (some 10), (.mv (.s 20))⟩]) (.seq (.reg [⟨none, (some 21), (.mv (.s 10))⟩, ⟨none, (some 22), (.fa 0 (.s 3))⟩, ⟨none, (some 23), (.ld none (.s 22))⟩, ⟨none, (some 24), (.bin .add (.s 23) (.c (.lit (.int .i64 1))))⟩, ⟨none, (some 25), (.fa 1 (.s 3))⟩, ⟨none, (some 26), (.ld none (.s 25))⟩, ⟨none, (some 27), (.bin .sub (.s 26) (.c (.lit (.int .i64 1))))⟩, ⟨none, (some 28), (.call 129 [(.s 21), (.s 24), (.s 27)])⟩, ⟨none, (some 29), (.call 93 [(.s 28), (.c (.lit (.int .i64 2)))])⟩, ⟨none, (some 30), (.mv (.s 10))⟩, ⟨none, (some 31), (.mv (.s 8))⟩, ⟨none, (some 32), (.bin .gtr (.s 30) (.s 31))⟩, ⟨none, (some 33), (.call 93 [(.s 32), (.c (.lit (.int .i64 9)))])⟩, ⟨none, (some 34), (.mv (.s 2))⟩, ⟨none, (some 35), (.mv (.s 10))⟩, ⟨none, (some 36), (.call 134 [(.s 34), (.s 35)])⟩, ⟨none, (some 37), (.un .not (.s 36))⟩, ⟨none, (some 38), (.call 93 [(.s 37), (.c (.lit (.int .i64 13)))])⟩, ⟨none, (some 39), (.bsl (.lit (.int .i64 0)) 1 3 [(0, (.s 29)), (1, (.s 33)), (2, (.s 38))])⟩, ⟨none, (some 40), (.call 92 [(.s 39)])⟩, ⟨none, (some 11), (.mv (.s 40))⟩]) (.seq (.seq (.reg [⟨none, (some 41), (.mv (.s 11))⟩, ⟨none, (some 42), (.bin .neq (.s 41) (.c (.lit (.int .i64 0))))⟩]) (.cond (.s 42) (.seq (.reg [⟨none, (some 43), (.mv (.s 9))⟩, ⟨none, (some 44), (.mv (.s 11))⟩, ⟨none, (some 6), (.mv (.s 43))⟩, ⟨none, (some 7), (.mv (.s 44))⟩]) .ret) .skip)) (.reg [⟨none, (some 45), (.mv (.s 10))⟩, ⟨none, (some 8), (.mv (.s 45))⟩]))))) (.reg [⟨none, (some 46), (.bin .add (.s 16) (.c (.lit (.int .i64 1))))⟩, ⟨none, (some 16), (.mv (.s 46))⟩]))))))) (.seq (.reg [⟨none, (some 6), (.mv (.c (.lit (.int .i64 0))))⟩, ⟨none, (some 7), (.mv (.c (.lit (.int .i64 0))))⟩]) .ret))))⟩ := by kernel_rfl
set_option maxHeartbeats 1000000 in
theorem positionsErr_c (k : Nat) (a b c : Int) (fl lo ns o : List Int) (h : MHeap) {ov : MV} (ha : 0 ≤ a ∧ a ≤ 1000) (hb : 0 ≤ b ∧ b ≤ 1000) (hn : ns.length ≤ 100000) (ho : o.length ≤ 100000) (hov : SlI ov o) :
    orA (k + 4) 130 [encS a b c fl lo, .sl (ns.map I64), ov] h = some (.tup [I64 (posnE a b o a 0 ns).1, I64 (posnE a b o a 0 ns).2], h) := by
  have hlt := hov.lt
  obtain ⟨a1, a2⟩ := ha
  obtain ⟨b1, b2⟩ := hb
  have hz : runZ MT (orA (k + 3)) (itA (k + 3)) 1000000 130 [encS a b c fl lo, .sl (ns.map I64), ov] [] = some (.tup [I64 (posnE a b o a 0 ns).1, I64 (posnE a b o a 0 ns).2], []) := by
    have hl : (MV.sl (ns.map I64)).slen = some ns.length := by simp [MV.slen]
    refine runZ_of mf_positionsErr (by simp) ?_
    simp only [argsL]
    repeat (first | apply ef_seq | (apply ef_mv; exact rfl; exact rfl) | (apply ef_len; exact rfl; exact rfl; (assumption)) | (apply ef_ldp; exact rfl; exact rfl; exact rfl; exact rfl; (exact rfl); (exact rfl)) | (apply ef_fap; exact rfl; exact rfl) | (apply ef_box; exact rfl; exact rfl; exact rfl; exact rfl) | apply ef_nil | apply seqQ.normal | apply ef_block)
    refine ef_loopf (α := Nat × Int) (fun s => s.1 ≤ ns.length ∧ posnE a b o a 0 ns = posnE a b o s.2 s.1 (ns.drop s.1)) (fun s => [(16, I64 (s.1 : Int)), (8, I64 s.2)]) [(15, _), (14, _), (3, _), (2, _)] (fun _ => _) (fun s => ns.length - s.1) (0, a) [16, 8] (fun _ => rfl) (by ((repeat (refine Hold.cons (by exact rfl) ?_)); exact Hold.nil)) (by ((repeat (refine Hold.cons (by exact rfl) ?_)); exact Hold.nil)) rfl rfl ⟨by simp, rfl⟩ (by simp; omega) ?_
    rintro ⟨i, last⟩ ⟨hi, hz⟩
    simp only at hi hz ⊢
    by_cases hlt2 : i < ns.length
    · have e1 := at_map I64 ns i hlt2
      have HD := Lib.hid (drop_at ns i hlt2)
      have HZ := Lib.hid hz
      clear hz
      generalize ns[i] = n at e1 HD
      have hcn := fun h => ContainsI_c (k + 1) o n h (v := ov) ho (hov.frz h) hov rfl
      obtain ⟨e, he⟩ : ∃ e, lineE a b o last n = e := ⟨_, rfl⟩
      have HE := Lib.hid he
      unfold lineE at he
      by_cases h0 : e = 0
      · subst h0
        repeat (first | apply ef_seq | (apply ef_mv; exact rfl; exact rfl) | (apply ef_bin; exact rfl; exact rfl; exact rfl; (first | exact cmp_t rfl (by first | exact rfl | (simp only [cmpP]; omega)) | exact cmp_f rfl (by simp only [cmpP]; omega) | ((with_reducible refine bin_add (wrap_of ?_ ?_)) <;> omega) | ((with_reducible refine bin_sub (wrap_of ?_ ?_)) <;> omega) | exact rfl)) | (apply ef_ldr; exact rfl; exact rfl; (exact rfl)) | (apply ef_ldp; exact rfl; exact rfl; exact rfl; exact rfl; (exact rfl); (exact rfl)) | (apply ef_ias; exact rfl; exact rfl; exact rfl; (omega); assumption; exact rfl) | (apply ef_fap; exact rfl; exact rfl) | (apply ef_not; exact rfl; exact rfl; exact rfl) | (apply ef_bsl; exact rfl; (repeat (apply XVs.cons; exact rfl)); exact XVs.nil; exact rfl) | apply ef_nil | apply seqQ.normal | apply blockQ.normal | apply ef_block | apply ef_skip | (apply ef_condt; exact rfl; (exact (rfl : true = true))) | (apply ef_condf; exact rfl; (exact (rfl : false = false))) | (apply ef_call; exact rfl; ((repeat (apply XVs.cons; exact rfl)); exact XVs.nil); (with_reducible first | exact within_c _ _ _ _ _ rfl | exact unless_c _ _ _ _ rfl | exact hcn _)) | (apply ef_call; exact rfl; ((repeat (apply XVs.cons; exact rfl)); exact XVs.nil); (with_reducible apply first3_c); exact rfl; exact rfl; exact rfl; (assumption)))
        (refine loopQ.normal _ _ ⟨(i + 1, n), ⟨hlt2, by rw [HZ.out, HD.out]; simp only [posnE, HE.out, if_true]⟩, (by first | (simp only; omega) | omega), ⟨by ((repeat (refine Hold.cons (by exact rfl) ?_)); exact Hold.nil), by ((repeat (refine Hold.cons (by exact rfl) ?_)); exact Hold.nil)⟩, .inr ⟨by ((repeat (refine hdl_cons rfl (by first | rfl | (simp [MV.lt, ltL, ltL_I, hov.ltn])) ?_)); exact hdl_nil), by first | rfl | (simp [hltL, ltL, MV.lt, ltL, ltL_I, hov.ltn])⟩, by first | exact rfl | (simp only [List.map_append, List.map_set]; exact rfl)⟩)
      · repeat (first | apply ef_seq | (apply ef_mv; exact rfl; exact rfl) | (apply ef_bin; exact rfl; exact rfl; exact rfl; (first | exact cmp_t rfl (by first | exact rfl | (simp only [cmpP]; omega)) | ((with_reducible refine bin_add (wrap_of ?_ ?_)) <;> omega) | ((with_reducible refine bin_sub (wrap_of ?_ ?_)) <;> omega) | exact rfl)) | (apply ef_ldr; exact rfl; exact rfl; (exact rfl)) | (apply ef_ldp; exact rfl; exact rfl; exact rfl; exact rfl; (exact rfl); (exact rfl)) | (apply ef_ias; exact rfl; exact rfl; exact rfl; (omega); assumption; exact rfl) | (apply ef_fap; exact rfl; exact rfl) | (apply ef_not; exact rfl; exact rfl; exact rfl) | (apply ef_bsl; exact rfl; (repeat (apply XVs.cons; exact rfl)); exact XVs.nil; exact rfl) | apply ef_nil | apply seqQ.normal | apply loopQ.ret | apply ef_ret | apply seqQ.ret | apply blockQ.ret | apply ef_block | apply ef_skip | (apply ef_condt; exact rfl; (exact (rfl : true = true))) | (apply ef_call; exact rfl; ((repeat (apply XVs.cons; exact rfl)); exact XVs.nil); (with_reducible first | exact within_c _ _ _ _ _ rfl | exact unless_c _ _ _ _ rfl | exact hcn _)) | (apply ef_call; exact rfl; ((repeat (apply XVs.cons; exact rfl)); exact XVs.nil); (with_reducible apply first3_c); exact rfl; exact rfl; exact rfl; (assumption)))
        (refine fin2 rfl (by exact rfl) (by exact rfl) ?_)
        rw [HZ.out, HD.out]; simp only [posnE, HE.out, if_neg h0]
    · repeat (first | apply ef_seq | (apply ef_mv; exact rfl; exact rfl) | (apply ef_bin; exact rfl; exact rfl; exact rfl; (exact cmp_f rfl (by simp only [cmpP]; omega))) | apply ef_nil | apply seqQ.normal | apply loopQ.exit | apply ef_ret | apply ef_exit | apply seqQ.exit | apply blockQ.here | (apply ef_condf; exact rfl; (exact (rfl : false = false))))
      (refine fin2 rfl (by exact rfl) (by exact rfl) ?_)
      rw [hz, List.drop_eq_nil_of_le (by omega)]; rfl
  have := callA (k := k + 3) (h := h) (frzL_lt (ms := [encS a b c fl lo, .sl (ns.map I64), ov]) (by simp [ltL, MV.lt, ltL_I, hlt])) rfl hz (by simp [okV, ok1, MV.lt, MV.pure]) rfl
  simpa [shV, sh1] using this
theorem mf_CheckStrip : MT.mf 59 = some ⟨62, [(.tmp 2), (.tmp 3)], (.seq (.reg [⟨none, (some 1), (.box 5 (.s 0))⟩, ⟨none, (some 2), (.mv (.c (.lit (.int .i64 0))))⟩, ⟨none, (some 3), (.mv (.c (.lit (.int .i64 0))))⟩]) (.seq (.reg [⟨none, (some 7), (.fa 0 (.s 1))⟩, ⟨none, (some 8), (.ld none (.s 7))⟩, ⟨none, (some 9), (.call 128 [(.s 8)])⟩, ⟨none, (some 10), (.mv (.s 9))⟩, ⟨(some (10, true)), (some 11), (.fa 1 (.s 1))⟩, ⟨(some (10, true)), (some 12), (.ld none (.s 11))⟩, ⟨(some (10, true)), (some 13), (.call 128 [(.s 12)])⟩, ⟨none, (some 14), (.pick (.s 10) (.s 13) (.c (.lit (.bool false))))⟩, ⟨none, (some 15), (.mv (.s 14))⟩, ⟨(some (15, true)), (some 16), (.fa 2 (.s 1))⟩, ⟨(some (15, true)), (some 17), (.ld none (.s 16))⟩, ⟨(some (15, true)), (some 18), (.call 129 [(.s 17), (.c (.lit (.int .i64 1))), (.c (.lit (.int .i64 1000)))])⟩, ⟨none, (some 19), (.pick (.s 15) (.s 18) (.c (.lit (.bool false))))⟩, ⟨none, (some 20), (.call 93 [(.s 19), (.c (.lit (.int .i64 2)))])⟩, ⟨none, (some 21), (.fa 0 (.s 1))⟩, ⟨none, (some 22), (.ld none (.s 21))⟩, ⟨none, (some 23), (.fa 1 (.s 1))⟩, ⟨none, (some 24), (.ld none (.s 23))⟩, ⟨none, (some 25), (.bin .leq (.s 22) (.s 24))⟩, ⟨none, (some 26), (.call 93 [(.s 25), (.c (.lit (.int .i64 9)))])⟩, ⟨none, (some 27), (.fa 3 (.s 1))⟩, ⟨none, (some 28), (.ld none (.s 27))⟩, ⟨none, (some 29), (.len (.s 28))⟩, ⟨none, (some 30), (.bin .leq (.s 29) (.c (.lit (.int .i64 40))))⟩, ⟨none, (some 31), (.mv (.s 30))⟩, ⟨(some (31, true)), (some 32), (.fa 4 (.s 1))⟩, ⟨(some (31, true)), (some 33), (.ld none (.s 32))⟩, ⟨(some (31, true)), (some 34), (.len (.s 33))⟩, ⟨(some (31, true)), (some 35), (.bin .leq (.s 34) (.c (.lit (.int .i64 40))))⟩, ⟨none, (some 36), (.pick (.s 31) (.s 35) (.c (.lit (.bool false))))⟩, ⟨none, (some 37), (.call 93 [(.s 36), (.c (.lit (.int .i64 8)))])⟩, ⟨none, (some 38), (.bsl (.lit (.int .i64 0)) 1 3 [(0, (.s 20)), (1, (.s 26)), (2, (.s 37))])⟩, ⟨none, (some 39), (.call 92 [(.s 38)])⟩, ⟨none, (some 4), (.mv (.s 39))⟩]) (.seq (.seq (.reg [⟨none, (some 40), (.mv (.s 4))⟩, ⟨none, (some 41), (.bin .neq (.s 40) (.c (.lit (.int .i64 0))))⟩]) (.cond (.s 41) (.seq (.reg [⟨none, (some 42), (.mv (.s 4))⟩, ⟨none, (some 2), (.mv (.c (.lit (.int .i64 0))))⟩, ⟨none, (some 3), (.mv (.s 42))⟩]) .ret) .skip)) (.seq (.seq (.reg [⟨none, (some 44), (.ld (some 5) (.s 1))⟩, ⟨none, (some 45), (.fa 3 (.s 1))⟩, ⟨none, (some 46), (.ld none (.s 45))⟩, ⟨none, (some 47), (.call 130 [(.s 44), (.s 46), (.c (.lit (.slice none 0 0)))])⟩, ⟨none, (some 43), (.mv (.s 47))⟩, ⟨none, (some 48), (.ext (.s 43) 0)⟩, ⟨none, (some 49), (.ext (.s 43) 1)⟩, ⟨none, (some 5), (.mv (.s 48))⟩, ⟨none, (some 6), (.mv (.s 49))⟩]) (.seq (.reg [⟨none, (some 50), (.mv (.s 6))⟩, ⟨none, (some 51), (.bin .neq (.s 50) (.c (.lit (.int .i64 0))))⟩]) (.cond (.s 51) (.seq (.reg [⟨none, (some 52), (.mv (.s 5))⟩, ⟨none, (some 53), (.mv (.s 6))⟩, ⟨none, (some 2), (.mv (.s 52))⟩, ⟨none, (some 3), (.mv (.s 53))⟩]) .ret) .skip))) (.seq (.reg [⟨none, (some 54), (.ld (some 5) (.s 1))⟩, ⟨none, (some 55), (.fa 4 (.s 1))⟩, ⟨none, (some 56), (.ld none (.s 55))⟩, ⟨none, (some 57), (.fa 3 (.s 1))⟩, ⟨none, (some 58), (.ld none (.s 57))⟩, ⟨none, (some 59), (.call 130 [(.s 54), (.s 56), (.s 58)])⟩, ⟨none, (some 60), (.ext (.s 59) 0)⟩, ⟨none, (some 61), (.ext (.s 59) 1)⟩, ⟨none, (some 2), (.mv (.s 60))⟩, ⟨none, (some 3), (.mv (.s 61))⟩]) .ret)))))⟩ := by kernel_rfl
set_option maxHeartbeats 1000000 in
theorem CheckStrip_c (k : Nat) (a b c : Int) (fl lo : List Int) (h : MHeap) (hf : fl.length ≤ 100000) (hl : lo.length ≤ 100000) : orA (k + 5) 59 [encS a b c fl lo] h = some (.tup [I64 (stripE a b c fl lo).1, I64 (stripE a b c fl lo).2], h) := by
  have hz : runZ MT (orA (k + 4)) (itA (k + 4)) 1000000 59 [encS a b c fl lo] [] = some (.tup [I64 (stripE a b c fl lo).1, I64 (stripE a b c fl lo).2], []) := by
    have hl1 : (MV.sl (fl.map I64)).slen = some fl.length := by simp [MV.slen]
    have hl2 : (MV.sl (lo.map I64)).slen = some lo.length := by simp [MV.slen]
    refine runZ_of mf_CheckStrip (by simp) ?_
    simp only [argsL]
    obtain ⟨e, he⟩ : ∃ e, rangeE a b c fl lo = e := ⟨_, rfl⟩
    have HE := Lib.hid he
    by_cases h0 : e = 0
    · subst h0
      unfold rangeE at he
      rw [firstE_zero, firstE_zero, firstE_zero, unl_eq (by decide), unl_eq (by decide), unl_eq (by decide)] at he
      simp only [Bool.and_eq_true, inB_iff, decide_eq_true_eq] at he
      obtain ⟨⟨⟨r1, r2⟩, r3⟩, r4, ⟨r5, r6⟩, -⟩ := he
      have g1 := inB_iff.2 r1
      have g2 := inB_iff.2 r2
      have g3 := inB_iff.2 r3
      have hp1 := fun h => positionsErr_c k a b c fl lo fl [] h (ov := .lit (.slice none 0 0)) r1 r2 hf (by simp) .nil
      have hp2 := fun h => positionsErr_c k a b c fl lo lo fl h (ov := .sl (fl.map I64)) r1 r2 hl hf (.sl fl)
      have f0 : firstE [(0 : Int), 0, 0] = 0 := rfl
      have HS := Lib.hid (show stripE a b c fl lo = if (posnE a b [] a 0 fl).2 = 0 then posnE a b fl a 0 lo else posnE a b [] a 0 fl by unfold stripE; rw [if_pos HE.out])
      generalize posnE a b [] a 0 fl = p at hp1 HS
      generalize posnE a b fl a 0 lo = q at hp2 HS
      obtain ⟨p1, p2⟩ := p
      obtain ⟨q1, q2⟩ := q
      by_cases hp : p2 = 0
      · subst hp
        repeat (first | apply ef_seq | (apply ef_mv; exact rfl; exact rfl) | (apply ef_bin; exact rfl; exact rfl; exact rfl; (first | exact cmp_t rfl (by first | exact rfl | (simp only [cmpP]; omega)) | exact cmp_f rfl (by simp only [cmpP]; omega))) | (apply ef_gy; exact rfl; (exact (rfl : true = true))) | (apply ef_pick; exact rfl; exact rfl; exact rfl) | (apply ef_len; exact rfl; exact rfl; (assumption)) | (apply ef_ldp; exact rfl; exact rfl; exact rfl; exact rfl; (exact rfl); (first | exact rd_5 rfl rfl rfl rfl rfl | exact rfl)) | (apply ef_fap; exact rfl; exact rfl) | (apply ef_ext; exact rfl; exact rfl; exact rfl) | (apply ef_box; exact rfl; exact rfl; exact rfl; exact rfl) | (apply ef_bsl; exact rfl; (repeat (apply XVs.cons; exact rfl)); exact XVs.nil; exact rfl) | apply ef_nil | apply seqQ.normal | apply ef_ret | apply ef_skip | (apply ef_condf; exact rfl; (exact (rfl : false = false))) | (apply ef_call; exact rfl; ((repeat (apply XVs.cons; exact rfl)); exact XVs.nil); (with_reducible first | exact isPosition_c _ _ _ (by assumption) | exact within_c _ _ _ _ _ (by assumption) | exact unless_c _ _ _ _ rfl | exact hp1 _ | exact hp2 _)) | (apply ef_call; exact rfl; ((repeat (apply XVs.cons; exact rfl)); exact XVs.nil); (with_reducible apply first3_c); exact rfl; exact rfl; exact rfl; (assumption)))
        (refine fin2 rfl (by exact rfl) (by exact rfl) ?_)
        rw [HS.out]; rfl
      · repeat (first | apply ef_seq | (apply ef_mv; exact rfl; exact rfl) | (apply ef_bin; exact rfl; exact rfl; exact rfl; (first | exact cmp_t rfl (by first | exact rfl | (simp only [cmpP]; omega)) | exact cmp_f rfl (by simp only [cmpP]; omega))) | (apply ef_gy; exact rfl; (exact (rfl : true = true))) | (apply ef_pick; exact rfl; exact rfl; exact rfl) | (apply ef_len; exact rfl; exact rfl; (assumption)) | (apply ef_ldp; exact rfl; exact rfl; exact rfl; exact rfl; (exact rfl); (first | exact rd_5 rfl rfl rfl rfl rfl | exact rfl)) | (apply ef_fap; exact rfl; exact rfl) | (apply ef_ext; exact rfl; exact rfl; exact rfl) | (apply ef_box; exact rfl; exact rfl; exact rfl; exact rfl) | (apply ef_bsl; exact rfl; (repeat (apply XVs.cons; exact rfl)); exact XVs.nil; exact rfl) | apply ef_nil | apply seqQ.normal | apply ef_ret | apply seqQ.ret | apply ef_skip | (apply ef_condt; exact rfl; (exact (rfl : true = true))) | (apply ef_condf; exact rfl; (exact (rfl : false = false))) | (apply ef_call; exact rfl; ((repeat (apply XVs.cons; exact rfl)); exact XVs.nil); (with_reducible first | exact isPosition_c _ _ _ (by assumption) | exact within_c _ _ _ _ _ (by assumption) | exact unless_c _ _ _ _ rfl | exact hp1 _)) | (apply ef_call; exact rfl; ((repeat (apply XVs.cons; exact rfl)); exact XVs.nil); (with_reducible apply first3_c); exact rfl; exact rfl; exact rfl; (assumption)))
        (refine fin2 rfl (by exact rfl) (by exact rfl) ?_)
        rw [HS.out]; simp [hp]
    · have HS := Lib.hid (show stripE a b c fl lo = (0, e) by unfold stripE; rw [HE.out, if_neg h0])
      clear he
      cases g1 : inB a 0 1000
      · by_cases g5 : (fl.length : Int) ≤ 40
        · skip
          obtain rfl : e = 2 := by rw [← HE.out]; simp [rangeE, firstE, unl, g1]
          repeat (first | apply ef_seq | (apply ef_mv; exact rfl; exact rfl) | (apply ef_bin; exact rfl; exact rfl; exact rfl; (first | exact cmp_t rfl (by first | exact rfl | (simp only [cmpP]; omega)) | exact rfl)) | (apply ef_gy; exact rfl; (exact (rfl : true = true))) | (apply ef_gn; exact rfl; (exact (rfl : false = false)); exact rfl) | (apply ef_pick; exact rfl; exact rfl; exact rfl) | (apply ef_len; exact rfl; exact rfl; (assumption)) | (apply ef_ldp; exact rfl; exact rfl; exact rfl; exact rfl; (exact rfl); (exact rfl)) | (apply ef_fap; exact rfl; exact rfl) | (apply ef_box; exact rfl; exact rfl; exact rfl; exact rfl) | (apply ef_bsl; exact rfl; (repeat (apply XVs.cons; exact rfl)); exact XVs.nil; exact rfl) | apply ef_nil | apply seqQ.normal | apply ef_ret | apply seqQ.ret | (apply ef_condt; exact rfl; (exact (rfl : true = true))) | (apply ef_call; exact rfl; ((repeat (apply XVs.cons; exact rfl)); exact XVs.nil); (with_reducible first | exact isPosition_c _ _ _ (by assumption) | exact unless_c _ _ _ _ rfl)) | (apply ef_call; exact rfl; ((repeat (apply XVs.cons; exact rfl)); exact XVs.nil); (with_reducible apply first3_c); exact rfl; exact rfl; exact rfl; (exact rfl)))
          (refine fin2 rfl (by exact rfl) (by exact rfl) ?_)
          rw [HS.out]; rfl
        · skip
          obtain rfl : e = 2 := by rw [← HE.out]; simp [rangeE, firstE, unl, g1]
          repeat (first | apply ef_seq | (apply ef_mv; exact rfl; exact rfl) | (apply ef_bin; exact rfl; exact rfl; exact rfl; (first | exact cmp_f rfl (by simp only [cmpP]; omega) | exact rfl)) | (apply ef_gn; exact rfl; (exact (rfl : false = false)); exact rfl) | (apply ef_pick; exact rfl; exact rfl; exact rfl) | (apply ef_len; exact rfl; exact rfl; (assumption)) | (apply ef_ldp; exact rfl; exact rfl; exact rfl; exact rfl; (exact rfl); (exact rfl)) | (apply ef_fap; exact rfl; exact rfl) | (apply ef_box; exact rfl; exact rfl; exact rfl; exact rfl) | (apply ef_bsl; exact rfl; (repeat (apply XVs.cons; exact rfl)); exact XVs.nil; exact rfl) | apply ef_nil | apply seqQ.normal | apply ef_ret | apply seqQ.ret | (apply ef_condt; exact rfl; (exact (rfl : true = true))) | (apply ef_call; exact rfl; ((repeat (apply XVs.cons; exact rfl)); exact XVs.nil); (with_reducible first | exact isPosition_c _ _ _ (by assumption) | exact unless_c _ _ _ _ rfl)) | (apply ef_call; exact rfl; ((repeat (apply XVs.cons; exact rfl)); exact XVs.nil); (with_reducible apply first3_c); exact rfl; exact rfl; exact rfl; (exact rfl)))
          (refine fin2 rfl (by exact rfl) (by exact rfl) ?_)
          rw [HS.out]; rfl
      · cases g2 : inB b 0 1000
        · by_cases g5 : (fl.length : Int) ≤ 40
          · skip
            obtain rfl : e = 2 := by rw [← HE.out]; simp [rangeE, firstE, unl, g1, g2]
            repeat (first | apply ef_seq | (apply ef_mv; exact rfl; exact rfl) | (apply ef_bin; exact rfl; exact rfl; exact rfl; (first | exact cmp_t rfl (by first | exact rfl | (simp only [cmpP]; omega)) | exact rfl)) | (apply ef_gy; exact rfl; (exact (rfl : true = true))) | (apply ef_gn; exact rfl; (exact (rfl : false = false)); exact rfl) | (apply ef_pick; exact rfl; exact rfl; exact rfl) | (apply ef_len; exact rfl; exact rfl; (assumption)) | (apply ef_ldp; exact rfl; exact rfl; exact rfl; exact rfl; (exact rfl); (exact rfl)) | (apply ef_fap; exact rfl; exact rfl) | (apply ef_box; exact rfl; exact rfl; exact rfl; exact rfl) | (apply ef_bsl; exact rfl; (repeat (apply XVs.cons; exact rfl)); exact XVs.nil; exact rfl) | apply ef_nil | apply seqQ.normal | apply ef_ret | apply seqQ.ret | (apply ef_condt; exact rfl; (exact (rfl : true = true))) | (apply ef_call; exact rfl; ((repeat (apply XVs.cons; exact rfl)); exact XVs.nil); (with_reducible first | exact isPosition_c _ _ _ (by assumption) | exact unless_c _ _ _ _ rfl)) | (apply ef_call; exact rfl; ((repeat (apply XVs.cons; exact rfl)); exact XVs.nil); (with_reducible apply first3_c); exact rfl; exact rfl; exact rfl; (exact rfl)))
            (refine fin2 rfl (by exact rfl) (by exact rfl) ?_)
            rw [HS.out]; rfl
          · skip
            obtain rfl : e = 2 := by rw [← HE.out]; simp [rangeE, firstE, unl, g1, g2]
            repeat (first | apply ef_seq | (apply ef_mv; exact rfl; exact rfl) | (apply ef_bin; exact rfl; exact rfl; exact rfl; (first | exact cmp_f rfl (by simp only [cmpP]; omega) | exact rfl)) | (apply ef_gy; exact rfl; (exact (rfl : true = true))) | (apply ef_gn; exact rfl; (exact (rfl : false = false)); exact rfl) | (apply ef_pick; exact rfl; exact rfl; exact rfl) | (apply ef_len; exact rfl; exact rfl; (assumption)) | (apply ef_ldp; exact rfl; exact rfl; exact rfl; exact rfl; (exact rfl); (exact rfl)) | (apply ef_fap; exact rfl; exact rfl) | (apply ef_box; exact rfl; exact rfl; exact rfl; exact rfl) | (apply ef_bsl; exact rfl; (repeat (apply XVs.cons; exact rfl)); exact XVs.nil; exact rfl) | apply ef_nil | apply seqQ.normal | apply ef_ret | apply seqQ.ret | (apply ef_condt; exact rfl; (exact (rfl : true = true))) | (apply ef_call; exact rfl; ((repeat (apply XVs.cons; exact rfl)); exact XVs.nil); (with_reducible first | exact isPosition_c _ _ _ (by assumption) | exact unless_c _ _ _ _ rfl)) | (apply ef_call; exact rfl; ((repeat (apply XVs.cons; exact rfl)); exact XVs.nil); (with_reducible apply first3_c); exact rfl; exact rfl; exact rfl; (exact rfl)))
            (refine fin2 rfl (by exact rfl) (by exact rfl) ?_)
            rw [HS.out]; rfl
        · cases g3 : inB c 1 1000
          · by_cases g5 : (fl.length : Int) ≤ 40
            · skip
              obtain rfl : e = 2 := by rw [← HE.out]; simp [rangeE, firstE, unl, g1, g2, g3]
              repeat (first | apply ef_seq | (apply ef_mv; exact rfl; exact rfl) | (apply ef_bin; exact rfl; exact rfl; exact rfl; (first | exact cmp_t rfl (by first | exact rfl | (simp only [cmpP]; omega)) | exact rfl)) | (apply ef_gy; exact rfl; (exact (rfl : true = true))) | (apply ef_pick; exact rfl; exact rfl; exact rfl) | (apply ef_len; exact rfl; exact rfl; (assumption)) | (apply ef_ldp; exact rfl; exact rfl; exact rfl; exact rfl; (exact rfl); (exact rfl)) | (apply ef_fap; exact rfl; exact rfl) | (apply ef_box; exact rfl; exact rfl; exact rfl; exact rfl) | (apply ef_bsl; exact rfl; (repeat (apply XVs.cons; exact rfl)); exact XVs.nil; exact rfl) | apply ef_nil | apply seqQ.normal | apply ef_ret | apply seqQ.ret | (apply ef_condt; exact rfl; (exact (rfl : true = true))) | (apply ef_call; exact rfl; ((repeat (apply XVs.cons; exact rfl)); exact XVs.nil); (with_reducible first | exact isPosition_c _ _ _ (by assumption) | exact within_c _ _ _ _ _ (by assumption) | exact unless_c _ _ _ _ rfl)) | (apply ef_call; exact rfl; ((repeat (apply XVs.cons; exact rfl)); exact XVs.nil); (with_reducible apply first3_c); exact rfl; exact rfl; exact rfl; (exact rfl)))
              (refine fin2 rfl (by exact rfl) (by exact rfl) ?_)
              rw [HS.out]; rfl
            · skip
              obtain rfl : e = 2 := by rw [← HE.out]; simp [rangeE, firstE, unl, g1, g2, g3]
              repeat (first | apply ef_seq | (apply ef_mv; exact rfl; exact rfl) | (apply ef_bin; exact rfl; exact rfl; exact rfl; (first | exact cmp_f rfl (by simp only [cmpP]; omega) | exact rfl)) | (apply ef_gy; exact rfl; (exact (rfl : true = true))) | (apply ef_gn; exact rfl; (exact (rfl : false = false)); exact rfl) | (apply ef_pick; exact rfl; exact rfl; exact rfl) | (apply ef_len; exact rfl; exact rfl; (assumption)) | (apply ef_ldp; exact rfl; exact rfl; exact rfl; exact rfl; (exact rfl); (exact rfl)) | (apply ef_fap; exact rfl; exact rfl) | (apply ef_box; exact rfl; exact rfl; exact rfl; exact rfl) | (apply ef_bsl; exact rfl; (repeat (apply XVs.cons; exact rfl)); exact XVs.nil; exact rfl) | apply ef_nil | apply seqQ.normal | apply ef_ret | apply seqQ.ret | (apply ef_condt; exact rfl; (exact (rfl : true = true))) | (apply ef_call; exact rfl; ((repeat (apply XVs.cons; exact rfl)); exact XVs.nil); (with_reducible first | exact isPosition_c _ _ _ (by assumption) | exact within_c _ _ _ _ _ (by assumption) | exact unless_c _ _ _ _ rfl)) | (apply ef_call; exact rfl; ((repeat (apply XVs.cons; exact rfl)); exact XVs.nil); (with_reducible apply first3_c); exact rfl; exact rfl; exact rfl; (exact rfl)))
              (refine fin2 rfl (by exact rfl) (by exact rfl) ?_)
              rw [HS.out]; rfl
          · by_cases g4 : a ≤ b
            · by_cases g5 : (fl.length : Int) ≤ 40
              · by_cases g6 : (lo.length : Int) ≤ 40
                · exact absurd (HE.out.symm.trans (by simp [rangeE, firstE, unl, g1, g2, g3, g4, g5, g6])) h0
                · skip
                  obtain rfl : e = 8 := by rw [← HE.out]; simp [rangeE, firstE, unl, g1, g2, g3, g4, g5, g6]
                  repeat (first | apply ef_seq | (apply ef_mv; exact rfl; exact rfl) | (apply ef_bin; exact rfl; exact rfl; exact rfl; (first | exact cmp_t rfl (by first | exact rfl | (simp only [cmpP]; omega)) | exact cmp_f rfl (by simp only [cmpP]; omega) | exact rfl)) | (apply ef_gy; exact rfl; (exact (rfl : true = true))) | (apply ef_pick; exact rfl; exact rfl; exact rfl) | (apply ef_len; exact rfl; exact rfl; (assumption)) | (apply ef_ldp; exact rfl; exact rfl; exact rfl; exact rfl; (exact rfl); (exact rfl)) | (apply ef_fap; exact rfl; exact rfl) | (apply ef_box; exact rfl; exact rfl; exact rfl; exact rfl) | (apply ef_bsl; exact rfl; (repeat (apply XVs.cons; exact rfl)); exact XVs.nil; exact rfl) | apply ef_nil | apply seqQ.normal | apply ef_ret | apply seqQ.ret | (apply ef_condt; exact rfl; (exact (rfl : true = true))) | (apply ef_call; exact rfl; ((repeat (apply XVs.cons; exact rfl)); exact XVs.nil); (with_reducible first | exact isPosition_c _ _ _ (by assumption) | exact within_c _ _ _ _ _ (by assumption) | exact unless_c _ _ _ _ rfl)) | (apply ef_call; exact rfl; ((repeat (apply XVs.cons; exact rfl)); exact XVs.nil); (with_reducible apply first3_c); exact rfl; exact rfl; exact rfl; (exact rfl)))
                  (refine fin2 rfl (by exact rfl) (by exact rfl) ?_)
                  rw [HS.out]; rfl
              · skip
                obtain rfl : e = 8 := by rw [← HE.out]; simp [rangeE, firstE, unl, g1, g2, g3, g4, g5]
                repeat (first | apply ef_seq | (apply ef_mv; exact rfl; exact rfl) | (apply ef_bin; exact rfl; exact rfl; exact rfl; (first | exact cmp_t rfl (by first | exact rfl | (simp only [cmpP]; omega)) | exact cmp_f rfl (by simp only [cmpP]; omega) | exact rfl)) | (apply ef_gy; exact rfl; (exact (rfl : true = true))) | (apply ef_gn; exact rfl; (exact (rfl : false = false)); exact rfl) | (apply ef_pick; exact rfl; exact rfl; exact rfl) | (apply ef_len; exact rfl; exact rfl; (assumption)) | (apply ef_ldp; exact rfl; exact rfl; exact rfl; exact rfl; (exact rfl); (exact rfl)) | (apply ef_fap; exact rfl; exact rfl) | (apply ef_box; exact rfl; exact rfl; exact rfl; exact rfl) | (apply ef_bsl; exact rfl; (repeat (apply XVs.cons; exact rfl)); exact XVs.nil; exact rfl) | apply ef_nil | apply seqQ.normal | apply ef_ret | apply seqQ.ret | (apply ef_condt; exact rfl; (exact (rfl : true = true))) | (apply ef_call; exact rfl; ((repeat (apply XVs.cons; exact rfl)); exact XVs.nil); (with_reducible first | exact isPosition_c _ _ _ (by assumption) | exact within_c _ _ _ _ _ (by assumption) | exact unless_c _ _ _ _ rfl)) | (apply ef_call; exact rfl; ((repeat (apply XVs.cons; exact rfl)); exact XVs.nil); (with_reducible apply first3_c); exact rfl; exact rfl; exact rfl; (exact rfl)))
                (refine fin2 rfl (by exact rfl) (by exact rfl) ?_)
                rw [HS.out]; rfl
            · by_cases g5 : (fl.length : Int) ≤ 40
              · skip
                obtain rfl : e = 9 := by rw [← HE.out]; simp [rangeE, firstE, unl, g1, g2, g3, g4]
                repeat (first | apply ef_seq | (apply ef_mv; exact rfl; exact rfl) | (apply ef_bin; exact rfl; exact rfl; exact rfl; (first | exact cmp_t rfl (by first | exact rfl | (simp only [cmpP]; omega)) | exact cmp_f rfl (by simp only [cmpP]; omega) | exact rfl)) | (apply ef_gy; exact rfl; (exact (rfl : true = true))) | (apply ef_pick; exact rfl; exact rfl; exact rfl) | (apply ef_len; exact rfl; exact rfl; (assumption)) | (apply ef_ldp; exact rfl; exact rfl; exact rfl; exact rfl; (exact rfl); (exact rfl)) | (apply ef_fap; exact rfl; exact rfl) | (apply ef_box; exact rfl; exact rfl; exact rfl; exact rfl) | (apply ef_bsl; exact rfl; (repeat (apply XVs.cons; exact rfl)); exact XVs.nil; exact rfl) | apply ef_nil | apply seqQ.normal | apply ef_ret | apply seqQ.ret | (apply ef_condt; exact rfl; (exact (rfl : true = true))) | (apply ef_call; exact rfl; ((repeat (apply XVs.cons; exact rfl)); exact XVs.nil); (with_reducible first | exact isPosition_c _ _ _ (by assumption) | exact within_c _ _ _ _ _ (by assumption) | exact unless_c _ _ _ _ rfl)) | (apply ef_call; exact rfl; ((repeat (apply XVs.cons; exact rfl)); exact XVs.nil); (with_reducible apply first3_c); exact rfl; exact rfl; exact rfl; (exact rfl)))
                (refine fin2 rfl (by exact rfl) (by exact rfl) ?_)
                rw [HS.out]; rfl
              · skip
                obtain rfl : e = 9 := by rw [← HE.out]; simp [rangeE, firstE, unl, g1, g2, g3, g4]
                repeat (first | apply ef_seq | (apply ef_mv; exact rfl; exact rfl) | (apply ef_bin; exact rfl; exact rfl; exact rfl; (first | exact cmp_f rfl (by simp only [cmpP]; omega) | exact rfl)) | (apply ef_gy; exact rfl; (exact (rfl : true = true))) | (apply ef_gn; exact rfl; (exact (rfl : false = false)); exact rfl) | (apply ef_pick; exact rfl; exact rfl; exact rfl) | (apply ef_len; exact rfl; exact rfl; (assumption)) | (apply ef_ldp; exact rfl; exact rfl; exact rfl; exact rfl; (exact rfl); (exact rfl)) | (apply ef_fap; exact rfl; exact rfl) | (apply ef_box; exact rfl; exact rfl; exact rfl; exact rfl) | (apply ef_bsl; exact rfl; (repeat (apply XVs.cons; exact rfl)); exact XVs.nil; exact rfl) | apply ef_nil | apply seqQ.normal | apply ef_ret | apply seqQ.ret | (apply ef_condt; exact rfl; (exact (rfl : true = true))) | (apply ef_call; exact rfl; ((repeat (apply XVs.cons; exact rfl)); exact XVs.nil); (with_reducible first | exact isPosition_c _ _ _ (by assumption) | exact within_c _ _ _ _ _ (by assumption) | exact unless_c _ _ _ _ rfl)) | (apply ef_call; exact rfl; ((repeat (apply XVs.cons; exact rfl)); exact XVs.nil); (with_reducible apply first3_c); exact rfl; exact rfl; exact rfl; (exact rfl)))
                (refine fin2 rfl (by exact rfl) (by exact rfl) ?_)
                rw [HS.out]; rfl
  have := callA (k := k + 4) (h := h) (frzL_lt (ms := [encS a b c fl lo]) (by simp [ltL, MV.lt, ltL_I])) rfl hz (by simp [okV, ok1, MV.lt, MV.pure]) rfl
  simpa [shV, sh1] using this

/-- A value out of a cell and a literal, handed back. -/
theorem fin_cl {x : MX2} {A : Sl} {h : MHeap} {t u it : Nat} {ot : MObj} {ag : Option Nat} {e m : MV} {v : Value} {r1 : List MV} (hx : outX x = true) (ht : look A t = some (.ptr it 0 0 0)) (hot : h[it]? = some ot) (h1 : ot.g = 0) (h2 : ot.es = e :: r1) (hr : rdCells e.cells 0 ag = some m) (hu : look A u = some (.lit v)) (hm : m.lt 0 = true) (hn : ∀ id i k g, m ≠ .arr id i k g) : FinF [.cell t ag, .tmp u] (.tup [m, .lit v]) [] x A h := by
  have hi : impIds 0 [m, .lit v] = [] := by
    cases m with
    | arr id i k g => exact absurd rfl (hn id i k g)
    | _ => rfl
  refine ⟨hx, [m, .lit v], [m, .lit v], ⟨_, _, rfl, ⟨it, 0, 0, 0, ot, _, ht, hot, h1, by rw [h2]; rfl, hr⟩, _, [], rfl, hu, rfl⟩, by rw [hi]; simp, ?_, rfl⟩
  rw [hi]
  have hf : frz 0 [] h 8 m = some m := frz_lt hm
  cases m with
  | arr id i k g => exact absurd rfl (hn id i k g)
  | _ => simp only [expL, hf]; simp [frz, MV.lt]
theorem mf_openStrip : MT.mf 131 = some ⟨14, [(.cell 2 (some 5)), (.tmp 3)], (.seq (.reg [⟨none, (some 1), (.box 5 (.s 0))⟩, ⟨none, (some 2), (.new (.agg [(.lit (.int .i64 0)), (.lit (.int .i64 0)), (.lit (.int .i64 0)), (.lit (.slice none 0 0)), (.lit (.slice none 0 0))]))⟩, ⟨none, (some 3), (.mv (.c (.lit (.int .i64 0))))⟩]) (.seq (.reg [⟨none, (some 7), (.ld (some 5) (.s 1))⟩, ⟨none, (some 8), (.call 59 [(.s 7)])⟩, ⟨none, (some 6), (.mv (.s 8))⟩, ⟨none, (some 9), (.ext (.s 6) 0)⟩, ⟨none, (some 10), (.ext (.s 6) 1)⟩, ⟨none, (some 4), (.mv (.s 9))⟩, ⟨none, (some 5), (.mv (.s 10))⟩]) (.seq (.reg [⟨none, (some 11), (.ld (some 5) (.s 1))⟩, ⟨none, (some 12), (.build [(.lit (.int .i64 0)), (.lit (.int .i64 0)), (.lit (.int .i64 0)), (.lit (.slice none 0 0)), (.lit (.slice none 0 0))] [(0, (5, (.s 11)))])⟩, ⟨none, (some 13), (.mv (.s 5))⟩, ⟨none, none, (.st 5 (.s 2) (.s 12))⟩, ⟨none, (some 3), (.mv (.s 13))⟩]) .ret)))⟩ := by kernel_rfl
theorem openStrip_c (k : Nat) (a b c : Int) (fl lo : List Int) (h : MHeap) (hf : fl.length ≤ 100000) (hl : lo.length ≤ 100000) : orA (k + 6) 131 [encS a b c fl lo] h = some (.tup [encS a b c fl lo, I64 (stripE a b c fl lo).2], h) := by
  have hz : runZ MT (orA (k + 5)) (itA (k + 5)) 1000000 131 [encS a b c fl lo] [] = some (.tup [encS a b c fl lo, I64 (stripE a b c fl lo).2], []) := by
    refine runZ_of mf_openStrip (by simp) ?_
    simp only [argsL]
    have hc := fun h => CheckStrip_c k a b c fl lo h hf hl
    repeat (first | apply ef_seq | (apply ef_mv; exact rfl; exact rfl) | (apply ef_ldp; exact rfl; exact rfl; exact rfl; exact rfl; (exact rfl); (exact rd_5 rfl rfl rfl rfl rfl)) | (apply ef_ext; exact rfl; exact rfl; exact rfl) | (apply ef_box; exact rfl; exact rfl; exact rfl; exact rfl) | (apply ef_new; exact rfl) | (apply ef_build; exact rfl; (repeat (apply XVs.cons; exact rfl)); exact XVs.nil; exact rfl; exact rfl) | (apply ef_st; exact rfl; exact rfl; exact rfl; exact rfl; exact rfl; exact rfl; (exact rfl); exact rfl) | apply ef_nil | apply seqQ.normal | apply ef_ret | (apply ef_call; exact rfl; ((repeat (apply XVs.cons; exact rfl)); exact XVs.nil); (with_reducible exact hc _)))
    (apply fin_cl; (· exact rfl); (· exact rfl); (· exact rfl); (· exact rfl); (· exact rfl); (· exact rd_5 rfl rfl rfl rfl rfl); (· exact rfl); (· exact encS_lt a b c fl lo); (· simp))
  have := callA (k := k + 5) (h := h) (frzL_lt (ms := [encS a b c fl lo]) (by simp [ltL, MV.lt, ltL_I])) rfl hz (by simp [okV, ok1, MV.lt, MV.pure, ltL, ltL_I]) rfl
  simpa [shV, sh1] using this

theorem mf_rlineErr : MT.mf 138 = some ⟨33, [(.tmp 6)], (.seq (.reg [⟨none, (some 3), (.box 5 (.s 0))⟩, ⟨none, (some 6), (.mv (.c (.lit (.int .i64 0))))⟩]) (.seq (.seq (.reg [⟨none, (some 7), (.mv (.s 1))⟩, ⟨none, (some 8), (.mv (.s 2))⟩, ⟨none, (some 9), (.ia 1 (.s 7) (.s 8))⟩, ⟨none, (some 10), (.ld none (.s 9))⟩, ⟨none, (some 11), (.fa 0 (.s 3))⟩, ⟨none, (some 12), (.ld none (.s 11))⟩, ⟨none, (some 13), (.bin .add (.s 12) (.c (.lit (.int .i64 1))))⟩, ⟨none, (some 14), (.fa 1 (.s 3))⟩, ⟨none, (some 15), (.ld none (.s 14))⟩, ⟨none, (some 16), (.bin .sub (.s 15) (.c (.lit (.int .i64 1))))⟩, ⟨none, (some 17), (.call 22 [(.s 10), (.s 13), (.s 16)])⟩, ⟨none, (some 18), (.un .not (.s 17))⟩]) (.cond (.s 18) (.seq (.reg [⟨none, (some 6), (.mv (.c (.lit (.int .i64 2))))⟩]) .ret) .skip)) (.seq (.seq (.reg [⟨none, (some 19), (.mv (.s 2))⟩, ⟨none, (some 20), (.bin .gtr (.s 19) (.c (.lit (.int .i64 0))))⟩, ⟨none, (some 21), (.mv (.s 20))⟩, ⟨(some (21, true)), (some 22), (.mv (.s 1))⟩, ⟨(some (21, true)), (some 23), (.mv (.s 2))⟩, ⟨(some (21, true)), (some 24), (.ia 1 (.s 22) (.s 23))⟩, ⟨(some (21, true)), (some 25), (.ld none (.s 24))⟩, ⟨(some (21, true)), (some 26), (.mv (.s 1))⟩, ⟨(some (21, true)), (some 27), (.mv (.s 2))⟩, ⟨(some (21, true)), (some 28), (.bin .sub (.s 27) (.c (.lit (.int .i64 1))))⟩, ⟨(some (21, true)), (some 29), (.ia 1 (.s 26) (.s 28))⟩, ⟨(some (21, true)), (some 30), (.ld none (.s 29))⟩, ⟨(some (21, true)), (some 31), (.bin .leq (.s 25) (.s 30))⟩, ⟨none, (some 32), (.pick (.s 21) (.s 31) (.c (.lit (.bool false))))⟩]) (.cond (.s 32) (.seq (.reg [⟨none, (some 6), (.mv (.c (.lit (.int .i64 9))))⟩]) .ret) .skip)) (.seq (.reg [⟨none, (some 6), (.mv (.c (.lit (.int .i64 0))))⟩]) .ret))))⟩ := by kernel_rfl
/-- The error of the line at an index, as the reference tells it. -/
def rlineE (a b : Int) (l : List Int) (i : Nat) : Int := if inB (l.getD i 0) (a + 1) (b - 1) then (if 0 < i ∧ l.getD i 0 ≤ l.getD (i - 1) 0 then 9 else 0) else 2
theorem rlineErr_c (k : Nat) (a b c : Int) (fl lo l : List Int) (i : Nat) (h : MHeap) (ha : 0 ≤ a ∧ a ≤ 1000) (hb : 0 ≤ b ∧ b ≤ 1000) (hi : i < l.length) (hl : l.length ≤ 100000) {e : Int} (he : rlineE a b l i = e) : orA (k + 2) 138 [encS a b c fl lo, .sl (l.map I64), I64 (i : Int)] h = some (I64 e, h) := by
  obtain ⟨a1, a2⟩ := ha
  obtain ⟨b1, b2⟩ := hb
  refine callL (args' := [encS a b c fl lo, .sl (l.map I64), I64 (i : Int)]) (frzL_lt (by simp [ltL, MV.lt, ltL_I])) rfl (runZ_of mf_rlineErr (by simp) ?_)
  simp only [argsL]
  have e1 := at_map I64 l i hi
  have e2 : 0 < i → (l.map I64)[((i : Int) - 1).toNat]? = some (I64 (l.getD (i - 1) 0)) := fun h0 => by
    rw [show ((i : Int) - 1).toNat = i - 1 by omega, List.getElem?_map, List.getElem?_eq_getElem (by omega), List.getD_eq_getElem?_getD, List.getElem?_eq_getElem (by omega)]; rfl
  have HX : l.getD i 0 = l[i] := by rw [List.getD_eq_getElem?_getD, List.getElem?_eq_getElem hi]; rfl
  unfold rlineE at he
  rw [HX] at he
  generalize l[i] = n at e1 he
  clear HX
  cases h1 : inB n (a + 1) (b - 1)
  · rw [h1] at he
    repeat (first | apply ef_seq | (apply ef_mv; exact rfl; exact rfl) | (apply ef_bin; exact rfl; exact rfl; exact rfl; (first | ((with_reducible refine bin_add (wrap_of ?_ ?_)) <;> omega) | ((with_reducible refine bin_sub (wrap_of ?_ ?_)) <;> omega))) | (apply ef_ldr; exact rfl; exact rfl; (exact rfl)) | (apply ef_ldp; exact rfl; exact rfl; exact rfl; exact rfl; (exact rfl); (exact rfl)) | (apply ef_ias; exact rfl; exact rfl; exact rfl; (omega); assumption; exact rfl) | (apply ef_fap; exact rfl; exact rfl) | (apply ef_notF; exact rfl; exact rfl) | (apply ef_box; exact rfl; exact rfl; exact rfl; exact rfl) | apply ef_nil | apply seqQ.normal | apply ef_ret | apply seqQ.ret | (apply ef_condt; exact rfl; (exact (rfl : true = true))) | (apply ef_call; exact rfl; ((repeat (apply XVs.cons; exact rfl)); exact XVs.nil); (with_reducible exact Within_c _ _ _ _ _ (by assumption))))
    (refine fin1 rfl (by exact rfl) rfl ?_)
    rw [← he]; rfl
  · rw [h1] at he
    by_cases h0 : i = 0
    · subst h0
      repeat (first | apply ef_seq | (apply ef_mv; exact rfl; exact rfl) | (apply ef_bin; exact rfl; exact rfl; exact rfl; (first | exact cmp_f rfl (by simp only [cmpP]; omega) | ((with_reducible refine bin_add (wrap_of ?_ ?_)) <;> omega) | ((with_reducible refine bin_sub (wrap_of ?_ ?_)) <;> omega))) | (apply ef_gn; exact rfl; (exact (rfl : false = false)); exact rfl) | (apply ef_pick; exact rfl; exact rfl; exact rfl) | (apply ef_ldr; exact rfl; exact rfl; (exact rfl)) | (apply ef_ldp; exact rfl; exact rfl; exact rfl; exact rfl; (exact rfl); (exact rfl)) | (apply ef_ias; exact rfl; exact rfl; exact rfl; (omega); assumption; exact rfl) | (apply ef_fap; exact rfl; exact rfl) | (apply ef_notT; exact rfl; exact rfl) | (apply ef_box; exact rfl; exact rfl; exact rfl; exact rfl) | apply ef_nil | apply seqQ.normal | apply ef_ret | apply ef_skip | (apply ef_condf; exact rfl; (exact (rfl : false = false))) | (apply ef_call; exact rfl; ((repeat (apply XVs.cons; exact rfl)); exact XVs.nil); (with_reducible exact Within_c _ _ _ _ _ (by assumption))))
      (refine fin1 rfl (by exact rfl) rfl ?_)
      rw [← he]; simp
    · have e2 := e2 (by omega)
      generalize l.getD (i - 1) 0 = m at e2 he
      by_cases h2 : n ≤ m
      · repeat (first | apply ef_seq | (apply ef_mv; exact rfl; exact rfl) | (apply ef_bin; exact rfl; exact rfl; exact rfl; (first | exact cmp_t rfl (by first | exact rfl | (simp only [cmpP]; omega)) | ((with_reducible refine bin_add (wrap_of ?_ ?_)) <;> omega) | ((with_reducible refine bin_sub (wrap_of ?_ ?_)) <;> omega))) | (apply ef_gy; exact rfl; (exact (rfl : true = true))) | (apply ef_pick; exact rfl; exact rfl; exact rfl) | (apply ef_ldr; exact rfl; exact rfl; (exact rfl)) | (apply ef_ldp; exact rfl; exact rfl; exact rfl; exact rfl; (exact rfl); (exact rfl)) | (apply ef_ias; exact rfl; exact rfl; exact rfl; (omega); assumption; exact rfl) | (apply ef_fap; exact rfl; exact rfl) | (apply ef_notT; exact rfl; exact rfl) | (apply ef_box; exact rfl; exact rfl; exact rfl; exact rfl) | apply ef_nil | apply seqQ.normal | apply ef_ret | apply seqQ.ret | apply ef_skip | (apply ef_condt; exact rfl; (exact (rfl : true = true))) | (apply ef_condf; exact rfl; (exact (rfl : false = false))) | (apply ef_call; exact rfl; ((repeat (apply XVs.cons; exact rfl)); exact XVs.nil); (with_reducible exact Within_c _ _ _ _ _ (by assumption))))
        (refine fin1 rfl (by exact rfl) rfl ?_)
        rw [← he]; simp [h2]; omega
      · repeat (first | apply ef_seq | (apply ef_mv; exact rfl; exact rfl) | (apply ef_bin; exact rfl; exact rfl; exact rfl; (first | exact cmp_t rfl (by first | exact rfl | (simp only [cmpP]; omega)) | exact cmp_f rfl (by simp only [cmpP]; omega) | ((with_reducible refine bin_add (wrap_of ?_ ?_)) <;> omega) | ((with_reducible refine bin_sub (wrap_of ?_ ?_)) <;> omega))) | (apply ef_gy; exact rfl; (exact (rfl : true = true))) | (apply ef_pick; exact rfl; exact rfl; exact rfl) | (apply ef_ldr; exact rfl; exact rfl; (exact rfl)) | (apply ef_ldp; exact rfl; exact rfl; exact rfl; exact rfl; (exact rfl); (exact rfl)) | (apply ef_ias; exact rfl; exact rfl; exact rfl; (omega); assumption; exact rfl) | (apply ef_fap; exact rfl; exact rfl) | (apply ef_notT; exact rfl; exact rfl) | (apply ef_box; exact rfl; exact rfl; exact rfl; exact rfl) | apply ef_nil | apply seqQ.normal | apply ef_ret | apply ef_skip | (apply ef_condf; exact rfl; (exact (rfl : false = false))) | (apply ef_call; exact rfl; ((repeat (apply XVs.cons; exact rfl)); exact XVs.nil); (with_reducible exact Within_c _ _ _ _ _ (by assumption))))
        (refine fin1 rfl (by exact rfl) rfl ?_)
        rw [← he]; simp [h2]
end Go.Proofs.Ytgjpdjihjphbdaa
