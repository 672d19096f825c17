/- Contracts: the packing of a strip; which infills and packings are accepted. -/
import Derived.Test.YtgjpdjihjphbdaaSp5
import Derived.Test.YtgjpdjihjphbdaaStr2
namespace Go.Proofs.Ytgjpdjihjphbdaa
open Go.RowKit

theorem InfillOf_c (k : Nat) (a b c : Int) (fl lo : List Int) (hok : OkS a b c fl lo) (h : MHeap) : orA (k + 7) 61 [encS a b c fl lo] h = some (shV h.length (infillM (infillF ⟨a, b, c, fl, lo⟩)), h ++ infillN (infillF ⟨a, b, c, fl, lo⟩)) := by
  refine callA (k := k + 6) (args' := [encS a b c fl lo]) (frzL_lt (by simp [ltL, MV.lt, ltL_I])) rfl (InfillOf_z k a b c fl lo hok) ?_ ?_
  · cases infillF ⟨a, b, c, fl, lo⟩ <;> simp [infillM, okV, ok1, MV.lt, MV.pure]
  · cases infillF ⟨a, b, c, fl, lo⟩ <;> simp [infillN, okH, ltL_I, pureL_I, ltL, pureL]
theorem InfillOf_e (k : Nat) (a b c e : Int) (fl lo : List Int) (hf : fl.length ≤ 100000) (hl : lo.length ≤ 100000) (he : (stripE a b c fl lo).2 = e) (h0 : e ≠ 0) (h : MHeap) : orA (k + 7) 61 [encS a b c fl lo] h = some (.tup [.arr h.length 0 0 0, I64 e], h ++ [⟨0, true, 1, []⟩]) := by
  have hz : runZ MT (orA (k + 6)) (itA (k + 6)) 1000000 61 [encS a b c fl lo] [] = some (.tup [.arr 0 0 0 0, I64 e], [⟨0, true, 1, []⟩]) := by
    have ho := fun h => openStrip_c k a b c fl lo h hf hl
    rw [he] at ho
    refine runZ_of mf_InfillOf (by simp) ?_
    simp only [argsL]
    repeat (first | apply ef_seq | (apply ef_mv; exact rfl; exact rfl) | (apply ef_bin; exact rfl; exact rfl; exact rfl; (exact cmp_t rfl (by first | exact rfl | (simp only [cmpP]; omega)))) | (apply ef_ldp; exact rfl; exact rfl; exact rfl; exact rfl; (exact rfl); (exact rd_5 rfl rfl rfl rfl rfl)) | (apply ef_ext; exact rfl; exact rfl; exact rfl) | (apply ef_box; exact rfl; exact rfl; exact rfl; exact rfl) | (apply ef_new; exact rfl) | (apply ef_nil0; exact rfl) | (apply ef_st; exact rfl; exact rfl; exact rfl; exact rfl; exact rfl; exact rfl; (exact rfl); exact rfl) | apply ef_nil | apply seqQ.normal | apply ef_ret | apply seqQ.ret | (apply ef_condt; exact rfl; (exact (rfl : true = true))) | (apply ef_call; exact rfl; ((repeat (apply XVs.cons; exact rfl)); exact XVs.nil); (with_reducible exact ho _)))
    (apply fin_al; (· exact rfl); (· exact rfl); (· exact rfl); (· exact rfl); (· exact rfl); (· exact rfl); (· exact rfl); (· exact rfl); (· exact rfl); (· exact rfl))
  have := callA (k := k + 6) (h := h) (frzL_lt (ms := [encS a b c fl lo]) (by simp [ltL, MV.lt, ltL_I])) rfl hz (by simp [okV, ok1, MV.lt, MV.pure]) (by simp [okH, ltL, pureL])
  simpa [shV, sh1] using this

theorem mf_PackingOf : MT.mf 62 = some ⟨24, [(.tmp 2), (.tmp 3)], (.seq (.reg [⟨none, (some 1), (.box 5 (.s 0))⟩, ⟨none, (some 2), (.nil0 1)⟩, ⟨none, (some 3), (.mv (.c (.lit (.int .i64 0))))⟩]) (.seq (.reg [⟨none, (some 9), (.ld (some 5) (.s 1))⟩, ⟨none, (some 10), (.call 131 [(.s 9)])⟩, ⟨none, (some 8), (.mv (.s 10))⟩, ⟨none, (some 11), (.ext (.s 8) 0)⟩, ⟨none, (some 12), (.ext (.s 8) 1)⟩, ⟨none, (some 4), (.new (.agg [(.lit (.int .i64 0)), (.lit (.int .i64 0)), (.lit (.int .i64 0)), (.lit (.slice none 0 0)), (.lit (.slice none 0 0))]))⟩, ⟨none, none, (.st 5 (.s 4) (.s 11))⟩, ⟨none, (some 5), (.mv (.s 12))⟩]) (.seq (.seq (.reg [⟨none, (some 13), (.mv (.s 5))⟩, ⟨none, (some 14), (.bin .neq (.s 13) (.c (.lit (.int .i64 0))))⟩]) (.cond (.s 14) (.seq (.reg [⟨none, (some 15), (.mv (.s 5))⟩, ⟨none, (some 2), (.nil0 1)⟩, ⟨none, (some 3), (.mv (.s 15))⟩]) .ret) .skip)) (.seq (.reg [⟨none, (some 17), (.ld (some 5) (.s 4))⟩, ⟨none, (some 18), (.call 132 [(.s 17), (.c (.lit (.slice none 0 0))), (.c (.lit (.int .i64 (-1))))])⟩, ⟨none, (some 16), (.mv (.s 18))⟩, ⟨none, (some 19), (.ext (.s 16) 0)⟩, ⟨none, (some 20), (.ext (.s 16) 1)⟩, ⟨none, (some 6), (.mv (.s 19))⟩, ⟨none, (some 7), (.mv (.s 20))⟩]) (.seq (.reg [⟨none, (some 21), (.mv (.s 6))⟩, ⟨none, (some 22), (.mv (.s 7))⟩, ⟨none, (some 23), (.call 93 [(.s 22), (.c (.lit (.int .i64 12)))])⟩, ⟨none, (some 2), (.mv (.s 21))⟩, ⟨none, (some 3), (.mv (.s 23))⟩]) .ret)))))⟩ := by kernel_rfl
theorem PackingOf_e (k : Nat) (a b c e : Int) (fl lo : List Int) (hf : fl.length ≤ 100000) (hl : lo.length ≤ 100000) (he : (stripE a b c fl lo).2 = e) (h0 : e ≠ 0) (h : MHeap) : orA (k + 7) 62 [encS a b c fl lo] h = some (.tup [.arr h.length 0 0 0, I64 e], h ++ [⟨0, true, 1, []⟩]) := by
  have hz : runZ MT (orA (k + 6)) (itA (k + 6)) 1000000 62 [encS a b c fl lo] [] = some (.tup [.arr 0 0 0 0, I64 e], [⟨0, true, 1, []⟩]) := by
    have ho := fun h => openStrip_c k a b c fl lo h hf hl
    rw [he] at ho
    refine runZ_of mf_PackingOf (by simp) ?_
    simp only [argsL]
    repeat (first | apply ef_seq | (apply ef_mv; exact rfl; exact rfl) | (apply ef_bin; exact rfl; exact rfl; exact rfl; (exact cmp_t rfl (by first | exact rfl | (simp only [cmpP]; omega)))) | (apply ef_ldp; exact rfl; exact rfl; exact rfl; exact rfl; (exact rfl); (exact rd_5 rfl rfl rfl rfl rfl)) | (apply ef_ext; exact rfl; exact rfl; exact rfl) | (apply ef_box; exact rfl; exact rfl; exact rfl; exact rfl) | (apply ef_new; exact rfl) | (apply ef_nil0; exact rfl) | (apply ef_st; exact rfl; exact rfl; exact rfl; exact rfl; exact rfl; exact rfl; (exact rfl); exact rfl) | apply ef_nil | apply seqQ.normal | apply ef_ret | apply seqQ.ret | (apply ef_condt; exact rfl; (exact (rfl : true = true))) | (apply ef_call; exact rfl; ((repeat (apply XVs.cons; exact rfl)); exact XVs.nil); (with_reducible exact ho _)))
    (apply fin_al; (· exact rfl); (· exact rfl); (· exact rfl); (· exact rfl); (· exact rfl); (· exact rfl); (· exact rfl); (· exact rfl); (· exact rfl); (· exact rfl))
  have := callA (k := k + 6) (h := h) (frzL_lt (ms := [encS a b c fl lo]) (by simp [ltL, MV.lt, ltL_I])) rfl hz (by simp [okV, ok1, MV.lt, MV.pure]) (by simp [okH, ltL, pureL])
  simpa [shV, sh1] using this
/-- What PackingOf hands back, for a valid strip. -/
def packM : Option (List Int) → MV
  | some l => .tup [rowL l, I64 0]
  | none => .tup [.lit (.slice none 0 0), I64 12]
theorem PackingOf_z (k : Nat) (a b c : Int) (fl lo : List Int) (hok : OkS a b c fl lo) : runZ MT (orA (k + 6)) (itA (k + 6)) 1000000 62 [encS a b c fl lo] [] = some (packM (packF ⟨a, b, c, fl, lo⟩), sweepN (packF ⟨a, b, c, fl, lo⟩)) := by
  obtain ⟨ha, hb, hc, hab, hf, hl, -, -, -, -, hall⟩ := hok
  have hc' : 0 ≤ c ∧ c ≤ 1000 := by omega
  have ho := fun h => openStrip_c k a b c fl lo h (by omega) (by omega)
  rw [hall] at ho
  have hsw := fun h => sweep_c k a b c (-1) fl lo [] h (v := .lit (.slice none 0 0)) (sv := .lit (.slice none 0 0)) rfl .nil ha hb hc' (by omega) (by simp) (by omega)
  have HI := Lib.hid (show packF ⟨a, b, c, fl, lo⟩ = sweepF c (-1) lo (-1) (wins ⟨a, b, c, fl, lo⟩ []) from rfl)
  refine runZ_of mf_PackingOf (by simp) ?_
  simp only [argsL]
  cases hr : sweepF c (-1) lo (-1) (wins ⟨a, b, c, fl, lo⟩ []) with
  | none =>
    rw [hr] at hsw HI
    simp only [sweepM, sweepN, shV, sh1, List.map_cons, List.map_nil, List.append_nil] at hsw
    repeat (first | apply ef_seq | (apply ef_mv; exact rfl; exact rfl) | (apply ef_bin; exact rfl; exact rfl; exact rfl; (exact cmp_f rfl (by simp only [cmpP]; omega))) | (apply ef_ldp; exact rfl; exact rfl; exact rfl; exact rfl; (exact rfl); (exact rd_5 rfl rfl rfl rfl rfl)) | (apply ef_ext; exact rfl; exact rfl; exact rfl) | (apply ef_box; exact rfl; exact rfl; exact rfl; exact rfl) | (apply ef_new; exact rfl) | (apply ef_nil0; exact rfl) | (apply ef_st; exact rfl; exact rfl; exact rfl; exact rfl; exact rfl; exact rfl; (exact rfl); exact rfl) | apply ef_nil | apply seqQ.normal | apply ef_ret | apply ef_skip | (apply ef_condf; exact rfl; (exact (rfl : false = false))) | (apply ef_call; exact rfl; ((repeat (apply XVs.cons; exact rfl)); exact XVs.nil); (with_reducible first | exact ho _ | exact hsw _ | exact unless_c _ _ _ _ rfl)))
    rw [HI.out]
    (refine fin2 rfl (by exact rfl) (by exact rfl) ?_)
    rfl
  | some all =>
    rw [hr] at hsw HI
    cases all with
    | nil =>
      simp only [sweepM, sweepN, shV, sh1, rowL, rowH, List.map_cons, List.map_nil, List.append_nil] at hsw
      repeat (first | apply ef_seq | (apply ef_mv; exact rfl; exact rfl) | (apply ef_bin; exact rfl; exact rfl; exact rfl; (exact cmp_f rfl (by simp only [cmpP]; omega))) | (apply ef_ldp; exact rfl; exact rfl; exact rfl; exact rfl; (exact rfl); (exact rd_5 rfl rfl rfl rfl rfl)) | (apply ef_ext; exact rfl; exact rfl; exact rfl) | (apply ef_box; exact rfl; exact rfl; exact rfl; exact rfl) | (apply ef_new; exact rfl) | (apply ef_nil0; exact rfl) | (apply ef_st; exact rfl; exact rfl; exact rfl; exact rfl; exact rfl; exact rfl; (exact rfl); exact rfl) | apply ef_nil | apply seqQ.normal | apply ef_ret | apply ef_skip | (apply ef_condf; exact rfl; (exact (rfl : false = false))) | (apply ef_call; exact rfl; ((repeat (apply XVs.cons; exact rfl)); exact XVs.nil); (with_reducible first | exact ho _ | exact hsw _ | exact unless_c _ _ _ _ rfl)))
      rw [HI.out]
      (refine fin2 rfl (by exact rfl) (by exact rfl) ?_)
      rfl
    | cons y ys =>
      simp only [sweepM, sweepN, shV, sh1, rowL, rowH, List.map_cons, List.map_nil] at hsw
      repeat (first | apply ef_seq | (apply ef_mv; exact rfl; exact rfl) | (apply ef_bin; exact rfl; exact rfl; exact rfl; (exact cmp_f rfl (by simp only [cmpP]; omega))) | (apply ef_ldp; exact rfl; exact rfl; exact rfl; exact rfl; (exact rfl); (exact rd_5 rfl rfl rfl rfl rfl)) | (apply ef_ext; exact rfl; exact rfl; exact rfl) | (apply ef_box; exact rfl; exact rfl; exact rfl; exact rfl) | (apply ef_new; exact rfl) | (apply ef_nil0; exact rfl) | (apply ef_st; exact rfl; exact rfl; exact rfl; exact rfl; exact rfl; exact rfl; (exact rfl); exact rfl) | apply ef_nil | apply seqQ.normal | apply ef_ret | apply ef_skip | (apply ef_condf; exact rfl; (exact (rfl : false = false))) | (apply ef_call; exact rfl; ((repeat (apply XVs.cons; exact rfl)); exact XVs.nil); (with_reducible first | exact ho _ | exact hsw _ | exact unless_c _ _ _ _ rfl)))
      rw [HI.out]
      (apply fin_al; (· exact rfl); (· exact rfl); (· exact rfl); (· exact rfl); (· exact rfl); (· simp); (· exact ltL_I 0 (y :: ys)); (· exact rfl); (· exact rfl); (· exact rfl))
theorem PackingOf_c (k : Nat) (a b c : Int) (fl lo : List Int) (hok : OkS a b c fl lo) (h : MHeap) : orA (k + 7) 62 [encS a b c fl lo] h = some (shV h.length (packM (packF ⟨a, b, c, fl, lo⟩)), h ++ sweepN (packF ⟨a, b, c, fl, lo⟩)) := by
  refine callA (k := k + 6) (args' := [encS a b c fl lo]) (frzL_lt (by simp [ltL, MV.lt, ltL_I])) rfl (PackingOf_z k a b c fl lo hok) ?_ ?_
  · cases packF ⟨a, b, c, fl, lo⟩ with
    | none => simp [packM, okV, ok1, MV.lt, MV.pure]
    | some r => simp [packM, okV, ok1_rowL]; simp [ok1, MV.lt, MV.pure]
  · cases packF ⟨a, b, c, fl, lo⟩ with
    | none => rfl
    | some r => exact okH_row _ _

theorem mf_CheckInfill : MT.mf 63 = some ⟨48, [(.cell 4 none), (.cell 5 none)], (.seq (.reg [⟨none, (some 2), (.box 5 (.s 0))⟩, ⟨none, (some 4), (.new (.lit (.int .i64 0)))⟩, ⟨none, (some 5), (.new (.lit (.int .i64 0)))⟩]) (.seq (.reg [⟨none, (some 13), (.ld (some 5) (.s 2))⟩, ⟨none, (some 14), (.call 131 [(.s 13)])⟩, ⟨none, (some 12), (.mv (.s 14))⟩, ⟨none, (some 15), (.ext (.s 12) 0)⟩, ⟨none, (some 16), (.ext (.s 12) 1)⟩, ⟨none, (some 6), (.new (.agg [(.lit (.int .i64 0)), (.lit (.int .i64 0)), (.lit (.int .i64 0)), (.lit (.slice none 0 0)), (.lit (.slice none 0 0))]))⟩, ⟨none, none, (.st 5 (.s 6) (.s 15))⟩, ⟨none, (some 7), (.mv (.s 16))⟩]) (.seq (.seq (.reg [⟨none, (some 17), (.mv (.s 7))⟩, ⟨none, (some 18), (.bin .neq (.s 17) (.c (.lit (.int .i64 0))))⟩]) (.cond (.s 18) (.seq (.reg [⟨none, (some 19), (.mv (.s 7))⟩, ⟨none, none, (.st 1 (.s 4) (.c (.lit (.int .i64 0))))⟩, ⟨none, none, (.st 1 (.s 5) (.s 19))⟩]) .ret) .skip)) (.seq (.reg [⟨none, (some 8), (.mv (.c (.lit (.int .i64 (-1)))))⟩]) (.seq (.seq (.reg [⟨none, (some 20), (.mv (.s 1))⟩, ⟨none, (some 21), (.len (.s 20))⟩, ⟨none, (some 22), (.mv (.c (.lit (.int .i64 0))))⟩]) (.block 0 (.loop [22, 21, 20, 2, 8, 4, 5, 6, 1] (.seq (.reg [⟨none, (some 23), (.bin .lss (.s 22) (.s 21))⟩]) (.seq (.cond (.s 23) .skip (.exit 0)) (.seq (.block 1 (.seq (.reg [⟨none, (some 24), (.mv (.s 22))⟩, ⟨none, (some 25), (.ia 1 (.s 20) (.s 22))⟩, ⟨none, (some 26), (.ld none (.s 25))⟩, ⟨none, (some 9), (.mv (.s 24))⟩, ⟨none, (some 10), (.mv (.s 26))⟩]) (.seq (.seq (.reg [⟨none, (some 27), (.fa 4 (.s 2))⟩, ⟨none, (some 28), (.ld none (.s 27))⟩, ⟨none, (some 29), (.mv (.s 10))⟩, ⟨none, (some 30), (.call 134 [(.s 28), (.s 29)])⟩, ⟨none, (some 31), (.call 93 [(.s 30), (.c (.lit (.int .i64 6)))])⟩, ⟨none, (some 32), (.mv (.s 10))⟩, ⟨none, (some 33), (.mv (.s 8))⟩, ⟨none, (some 34), (.bin .gtr (.s 32) (.s 33))⟩, ⟨none, (some 35), (.call 93 [(.s 34), (.c (.lit (.int .i64 9)))])⟩, ⟨none, (some 36), (.bsl (.lit (.int .i64 0)) 1 2 [(0, (.s 31)), (1, (.s 35))])⟩, ⟨none, (some 37), (.call 92 [(.s 36)])⟩, ⟨none, (some 11), (.mv (.s 37))⟩]) (.seq (.reg [⟨none, (some 38), (.mv (.s 11))⟩, ⟨none, (some 39), (.bin .neq (.s 38) (.c (.lit (.int .i64 0))))⟩]) (.cond (.s 39) (.seq (.reg [⟨none, (some 40), (.mv (.s 9))⟩, ⟨none, (some 41), (.mv (.s 11))⟩, ⟨none, none, (.st 1 (.s 4) (.s 40))⟩, ⟨none, none, (.st 1 (.s 5) (.s 41))⟩]) .ret) .skip))) (.reg [⟨none, (some 42), (.mv (.s 10))⟩, ⟨none, (some 8), (.mv (.s 42))⟩])))) (.reg [⟨none, (some 43), (.bin .add (.s 22) (.c (.lit (.int .i64 1))))⟩, ⟨none, (some 22), (.mv (.s 43))⟩]))))))) (.seq (.seq (.reg [⟨none, (some 44), (.ld (some 5) (.s 6))⟩, ⟨none, (some 45), (.mv (.s 1))⟩, ⟨none, (some 46), (.call 135 [(.s 44), (.s 45)])⟩]) (.block 2 (.rf [4, 5] (.s 46) [47] .skip (.block 3 (.seq (.reg [⟨none, none, (.st 1 (.s 4) (.c (.lit (.int .i64 0))))⟩, ⟨none, none, (.st 1 (.s 5) (.c (.lit (.int .i64 14))))⟩]) .ret))))) (.seq (.reg [⟨none, none, (.st 1 (.s 4) (.c (.lit (.int .i64 0))))⟩, ⟨none, none, (.st 1 (.s 5) (.c (.lit (.int .i64 0))))⟩]) .ret)))))))⟩ := by kernel_rfl
/-- The memory in CheckInfill. -/
abbrev chkB (a b c : Int) (fl lo : List Int) : MHeap := [⟨0, false, 5, [encS a b c fl lo]⟩, ⟨0, false, 1, [I64 0]⟩, ⟨0, false, 1, [I64 0]⟩, ⟨0, false, 5, [encS a b c fl lo]⟩]
set_option maxHeartbeats 4000000 in
theorem CheckInfill_z (k : Nat) (a b c : Int) (fl lo l : List Int) (hok : OkS a b c fl lo) (hn : l.length ≤ 100000) :
    runZ MT (orA (k + 6)) (itA (k + 6)) 1000000 63 [encS a b c fl lo, .sl (l.map I64)] [] = some (.tup [I64 (infE ⟨a, b, c, fl, lo⟩ l).1, I64 (infE ⟨a, b, c, fl, lo⟩ l).2], []) := by
  obtain ⟨ha, hb, hc, hab, hf, hl, -, -, -, -, hall⟩ := hok
  have hc' : 0 ≤ c ∧ c ≤ 1000 := by omega
  have ho := fun h => openStrip_c k a b c fl lo h (by omega) (by omega)
  rw [hall] at ho
  have hwc := fun h => windows_c (k + 5) a b c fl lo l h (.sl l)
  have hit := fun h => windows1_it (k + 1) a b c fl lo l h (.sl l) ha hb hc' (by omega) hn
  have HI := Lib.hid (show infE ⟨a, b, c, fl, lo⟩ l = if (lnsE lo (-1) 0 l).2 = 0 then (0, if (wins ⟨a, b, c, fl, lo⟩ l).isEmpty then 0 else 14) else lnsE lo (-1) 0 l from rfl)
  generalize hws : wins ⟨a, b, c, fl, lo⟩ l = ws at hit HI
  clear hws
  have hsl : (MV.sl (l.map I64)).slen = some l.length := by simp [MV.slen]
  refine runZ_of mf_CheckInfill (by simp) ?_
  simp only [argsL]
  repeat (first | apply ef_seq | (apply ef_mv; exact rfl; exact rfl) | (apply ef_bin; exact rfl; exact rfl; exact rfl; (exact cmp_f rfl (by simp only [cmpP]; omega))) | (apply ef_len; exact rfl; exact rfl; (assumption)) | (apply ef_ldp; exact rfl; exact rfl; exact rfl; exact rfl; (exact rfl); (exact rd_5 rfl rfl rfl rfl rfl)) | (apply ef_ext; exact rfl; exact rfl; exact rfl) | (apply ef_box; exact rfl; exact rfl; exact rfl; exact rfl) | (apply ef_new; exact rfl) | (apply ef_st; exact rfl; exact rfl; exact rfl; exact rfl; exact rfl; exact rfl; (exact rfl); exact rfl) | apply ef_nil | apply seqQ.normal | apply ef_block | apply ef_skip | (apply ef_condf; exact rfl; (exact (rfl : false = false))) | (apply ef_call; exact rfl; ((repeat (apply XVs.cons; exact rfl)); exact XVs.nil); (with_reducible exact ho _)))
  refine ef_loopf (α := Nat × Int) (fun s => s.1 ≤ l.length ∧ lnsE lo (-1) 0 l = lnsE lo s.2 s.1 (l.drop s.1)) (fun s => [(22, I64 (s.1 : Int)), (8, I64 s.2)]) [(21, _), (20, _), (2, _), (4, _), (5, _), (6, _), (1, _)] (fun _ => chkB a b c fl lo) (fun s => l.length - s.1) (0, -1) [22, 8] (fun _ => rfl) (by ((repeat (refine Hold.cons (by exact rfl) ?_)); exact Hold.nil)) (by ((repeat (refine Hold.cons (by exact rfl) ?_)); exact Hold.nil)) rfl rfl ⟨by simp, rfl⟩ (by simp; omega) ?_
  rintro ⟨i, last⟩ ⟨hi, hz⟩
  simp only at hi hz ⊢
  by_cases hlt : i < l.length
  · have e1 := at_map I64 l i hlt
    have HD := Lib.hid (drop_at l i hlt)
    have HZ := Lib.hid hz
    clear hz
    generalize l[i] = n at e1 HD
    obtain ⟨e, he⟩ : ∃ e, lnE lo last n = e := ⟨_, rfl⟩
    have HE := Lib.hid he
    unfold lnE at he
    have hcn := fun h => ContainsI_c (k + 4) lo n h (v := .sl (lo.map I64)) (by omega) (frz_sl (ltL_I 0 lo)) (.sl lo) rfl
    by_cases h0 : e = 0
    · subst h0
      repeat (first | apply ef_seq | (apply ef_mv; exact rfl; exact rfl) | (apply ef_bin; exact rfl; exact rfl; exact rfl; (first | exact cmp_t rfl (by first | exact rfl | (simp only [cmpP]; omega)) | exact cmp_f rfl (by simp only [cmpP]; omega) | ((with_reducible refine bin_add (wrap_of ?_ ?_)) <;> omega) | exact rfl)) | (apply ef_ldr; exact rfl; exact rfl; (exact rfl)) | (apply ef_ldp; exact rfl; exact rfl; exact rfl; exact rfl; (exact rfl); (exact rfl)) | (apply ef_ias; exact rfl; exact rfl; exact rfl; (omega); assumption; exact rfl) | (apply ef_fap; exact rfl; exact rfl) | (apply ef_bsl; exact rfl; (repeat (apply XVs.cons; exact rfl)); exact XVs.nil; exact rfl) | apply ef_nil | apply seqQ.normal | apply blockQ.normal | apply ef_block | apply ef_skip | (apply ef_condt; exact rfl; (exact (rfl : true = true))) | (apply ef_condf; exact rfl; (exact (rfl : false = false))) | (apply ef_call; exact rfl; ((repeat (apply XVs.cons; exact rfl)); exact XVs.nil); (with_reducible first | exact unless_c _ _ _ _ rfl | exact hcn _)) | (apply ef_call; exact rfl; ((repeat (apply XVs.cons; exact rfl)); exact XVs.nil); (with_reducible apply first2_c); exact rfl; exact rfl; exact rfl; (assumption)))
      (refine loopQ.normal _ _ ⟨(i + 1, n), ⟨hlt, by rw [HZ.out, HD.out]; simp only [lnsE, HE.out, if_true]⟩, (by first | (simp only; omega) | omega), ⟨by ((repeat (refine Hold.cons (by exact rfl) ?_)); exact Hold.nil), by ((repeat (refine Hold.cons (by exact rfl) ?_)); exact Hold.nil)⟩, .inr ⟨by ((repeat (refine hdl_cons rfl (by first | rfl | (simp [MV.lt, ltL, ltL_I])) ?_)); exact hdl_nil), by first | rfl | (simp [hltL, ltL, MV.lt, ltL, ltL_I])⟩, by first | exact rfl | (simp only [List.map_append, List.map_set]; exact rfl)⟩)
    · repeat (first | apply ef_seq | (apply ef_mv; exact rfl; exact rfl) | (apply ef_bin; exact rfl; exact rfl; exact rfl; (first | exact cmp_t rfl (by first | exact rfl | (simp only [cmpP]; omega)) | exact rfl)) | (apply ef_ldr; exact rfl; exact rfl; (exact rfl)) | (apply ef_ldp; exact rfl; exact rfl; exact rfl; exact rfl; (exact rfl); (exact rfl)) | (apply ef_ias; exact rfl; exact rfl; exact rfl; (omega); assumption; exact rfl) | (apply ef_fap; exact rfl; exact rfl) | (apply ef_bsl; exact rfl; (repeat (apply XVs.cons; exact rfl)); exact XVs.nil; exact rfl) | (apply ef_st; exact rfl; exact rfl; exact rfl; exact rfl; exact rfl; exact rfl; (exact rfl); exact rfl) | apply ef_nil | apply seqQ.normal | apply loopQ.ret | apply ef_ret | apply seqQ.ret | apply blockQ.ret | apply ef_block | apply ef_skip | (apply ef_condt; exact rfl; (exact (rfl : true = true))) | (apply ef_call; exact rfl; ((repeat (apply XVs.cons; exact rfl)); exact XVs.nil); (with_reducible first | exact unless_c _ _ _ _ rfl | exact hcn _)) | (apply ef_call; exact rfl; ((repeat (apply XVs.cons; exact rfl)); exact XVs.nil); (with_reducible apply first2_c); exact rfl; exact rfl; exact rfl; (assumption)))
      rw [show infE ⟨a, b, c, fl, lo⟩ l = ((i : Int), e) by rw [HI.out, HZ.out, HD.out]; simp only [lnsE, HE.out, if_neg h0]]
      (apply fin_cells0; (· exact rfl); (· exact rfl); (· exact rfl); (· exact rfl); (· exact rfl); (· exact rfl); (· exact rfl); (· exact rfl); (· exact rfl); (· exact rfl))
  · have HL := Lib.hid (show infE ⟨a, b, c, fl, lo⟩ l = (0, if ws.isEmpty then 0 else 14) by rw [HI.out, hz, List.drop_eq_nil_of_le (by omega)]; simp [lnsE])
    clear hz HI
    repeat (first | apply ef_seq | (apply ef_mv; exact rfl; exact rfl) | (apply ef_bin; exact rfl; exact rfl; exact rfl; (exact cmp_f rfl (by simp only [cmpP]; omega))) | (apply ef_ldp; exact rfl; exact rfl; exact rfl; exact rfl; (exact rfl); (exact rd_5 rfl rfl rfl rfl rfl)) | apply ef_nil | apply seqQ.normal | apply loopQ.exit | apply ef_exit | apply seqQ.exit | apply blockQ.here | apply ef_block | (apply ef_condf; exact rfl; (exact (rfl : false = false))) | (apply ef_call; exact rfl; ((repeat (apply XVs.cons; exact rfl)); exact XVs.nil); (with_reducible exact hwc _)))
    refine ef_rf (α := Unit) (ids := []) (fun i _ => i = 0) [(4, .ptr 1 0 0 0), (5, .ptr 2 0 0 0)] (fun _ => chkB a b c fl lo) (fun _ => chkB a b c fl lo) () (by exact rfl) (hit _) (by simp [winsY]) (idsL_lt0 (by simp [ltL, MV.lt, ltL_I])) (by ((repeat (refine Hold.cons (by exact rfl) ?_)); exact Hold.nil)) rfl rfl rfl rfl rfl ?_ ?_ ?_
    · intro i _ _
      exact .all (Nat.le_refl _)
    · rintro i _ x hx hi
      subst hi
      obtain ⟨w, hw, rfl⟩ : ∃ w, ws[0]? = some w ∧ x = [I64 w] := by
        simp only [winsY, List.getElem?_map, Option.map_eq_some_iff] at hx
        obtain ⟨w, h1, h2⟩ := hx
        exact ⟨w, h1, h2.symm⟩
      have hne : ws.isEmpty = false := by
        cases ws with
        | nil => cases hw
        | cons w ws => rfl
      have HL2 := Lib.hid (show infE ⟨a, b, c, fl, lo⟩ l = (0, 14) by rw [HL.out, hne]; rfl)
      clear hx hw hne HL
      simp only [putA]
      repeat (first | apply ef_skip)
      apply preQ.normal
      repeat (first | apply ef_seq | (apply ef_st; exact rfl; exact rfl; exact rfl; exact rfl; exact rfl; exact rfl; (exact rfl); exact rfl) | apply ef_nil | apply seqQ.normal | apply ef_ret | apply blockQ.ret | apply ef_block)
      apply rfQ.ret
      repeat (first | apply seqQ.ret | apply blockQ.ret)
      rw [HL2.out]
      (apply fin_cells0; (· exact rfl); (· exact rfl); (· exact rfl); (· exact rfl); (· exact rfl); (· exact rfl); (· exact rfl); (· exact rfl); (· exact rfl); (· exact rfl))
    · intro _ hi
      have hne : ws.isEmpty = true := by
        cases ws with
        | nil => rfl
        | cons w ws => simp [winsY] at hi
      have HL2 := Lib.hid (show infE ⟨a, b, c, fl, lo⟩ l = (0, 0) by rw [HL.out, hne]; rfl)
      clear hi hne HL
      repeat (first | apply ef_seq | (apply ef_st; exact rfl; exact rfl; exact rfl; exact rfl; exact rfl; exact rfl; (exact rfl); exact rfl) | apply ef_nil | apply seqQ.normal | apply ef_ret | apply blockQ.normal)
      rw [HL2.out]
      (apply fin_cells0; (· exact rfl); (· exact rfl); (· exact rfl); (· exact rfl); (· exact rfl); (· exact rfl); (· exact rfl); (· exact rfl); (· exact rfl); (· exact rfl))
theorem CheckInfill_ez (k : Nat) (a b c e : Int) (fl lo l : List Int) (hf : fl.length ≤ 100000) (hl : lo.length ≤ 100000) (he : (stripE a b c fl lo).2 = e) (h0 : e ≠ 0) :
    runZ MT (orA (k + 6)) (itA (k + 6)) 1000000 63 [encS a b c fl lo, .sl (l.map I64)] [] = some (.tup [I64 0, I64 e], []) := by
  have ho := fun h => openStrip_c k a b c fl lo h hf hl
  rw [he] at ho
  refine runZ_of mf_CheckInfill (by simp) ?_
  simp only [argsL]
  repeat (first | apply ef_seq | (apply ef_mv; exact rfl; exact rfl) | (apply ef_bin; exact rfl; exact rfl; exact rfl; (exact cmp_t rfl (by first | exact rfl | (simp only [cmpP]; omega)))) | (apply ef_ldp; exact rfl; exact rfl; exact rfl; exact rfl; (exact rfl); (exact rd_5 rfl rfl rfl rfl rfl)) | (apply ef_ext; exact rfl; exact rfl; exact rfl) | (apply ef_box; exact rfl; exact rfl; exact rfl; exact rfl) | (apply ef_new; exact rfl) | (apply ef_st; exact rfl; exact rfl; exact rfl; exact rfl; exact rfl; exact rfl; (exact rfl); exact rfl) | apply ef_nil | apply seqQ.normal | apply ef_ret | apply seqQ.ret | (apply ef_condt; exact rfl; (exact (rfl : true = true))) | (apply ef_call; exact rfl; ((repeat (apply XVs.cons; exact rfl)); exact XVs.nil); (with_reducible exact ho _)))
  (apply fin_cells0; (· exact rfl); (· exact rfl); (· exact rfl); (· exact rfl); (· exact rfl); (· exact rfl); (· exact rfl); (· exact rfl); (· exact rfl); (· exact rfl))
theorem call2 {k f : Nat} {u v w : MV} {x y : Int} {h : MHeap} (hu : u.lt 0 = true) (hv : frz 0 [] h 8 v = some w) (hT : tA f [u, w] [] = none) (hz : runZ MT (orA k) (itA k) 1000000 f [u, w] [] = some (.tup [I64 x, I64 y], [])) : orA (k + 1) f [u, v] h = some (.tup [I64 x, I64 y], h) := by
  have := callA (k := k) (args := [u, v]) (args' := [u, w]) (h := h) (by rw [List.mapM_cons, frz_lt hu]; simp [List.mapM_cons, hv]) hT hz (by simp [okV, ok1, MV.lt, MV.pure]) rfl
  simpa [shV, sh1] using this
theorem CheckInfill_c (k : Nat) (a b c : Int) (fl lo l : List Int) (hok : OkS a b c fl lo) (hn : l.length ≤ 100000) (h : MHeap) {v : MV} (hv : frz 0 [] h 8 v = some (.sl (l.map I64))) :
    orA (k + 7) 63 [encS a b c fl lo, v] h = some (.tup [I64 (infE ⟨a, b, c, fl, lo⟩ l).1, I64 (infE ⟨a, b, c, fl, lo⟩ l).2], h) :=
  call2 (encS_lt a b c fl lo) hv rfl (CheckInfill_z k a b c fl lo l hok hn)
theorem CheckInfill_e (k : Nat) (a b c e : Int) (fl lo l : List Int) (hf : fl.length ≤ 100000) (hl : lo.length ≤ 100000) (he : (stripE a b c fl lo).2 = e) (h0 : e ≠ 0) (h : MHeap) {v : MV} (hv : frz 0 [] h 8 v = some (.sl (l.map I64))) :
    orA (k + 7) 63 [encS a b c fl lo, v] h = some (.tup [I64 0, I64 e], h) :=
  call2 (encS_lt a b c fl lo) hv rfl (CheckInfill_ez k a b c e fl lo l hf hl he h0)
end Go.Proofs.Ytgjpdjihjphbdaa
