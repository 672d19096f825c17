/- Contracts: clones; the infill and the packing of a strip. -/
import Derived.Test.YtgjpdjihjphbdaaSp4
namespace Go.Proofs.Ytgjpdjihjphbdaa
open Go.RowKit

/-- A function's result, with the caller's memory. -/
def FinH (H : MHeap) (rs : List MRes) (m : MV) (news : MHeap) (x : MX2) (A : Sl) (h : MHeap) : Prop := outX x = true ∧ ∃ vs vs', ResVs A h rs vs ∧ (impIds H.length vs).Nodup ∧ expL H.length (impIds H.length vs) h vs H.length = some (vs', news) ∧ oneOf vs' = m
theorem runZ_ofH {O : Oracle} {I : Iter} {N n : Nat} {M : Tab} {f : Nat} {rs : List MRes} {b : MC} {args : List MV} {m : MV} {H news : MHeap} (hmf : M.mf f = some ⟨n, rs, b⟩) (hn : args.length ≤ n)
    (hE : Ef O I N n (fun id => decide (id < H.length)) b (argsL 0 args) H (FinH H rs m news)) : runZ M O I N f args H = some (m, H ++ news) := by
  obtain ⟨x, s', h', k1, A', k2, hx, vs, vs', r1, r2, r3, r4⟩ := hE.run (args ++ List.replicate (n - args.length) (.lit undef)) ⟨by simp; omega, fun t v ht => by
    obtain ⟨_, h1⟩ := look_args _ _ _ _ ht
    rw [Nat.sub_zero] at h1
    have hl := (List.getElem?_eq_some_iff.1 h1).1
    rw [List.getD_eq_getElem?_getD, List.getElem?_append_left hl, h1]
    rfl⟩
  unfold runZ
  rw [hmf]
  unfold runF
  dsimp only
  rw [k1]
  have hx' : x = .ret ∨ x = .normal := by cases x <;> simp [outX] at hx <;> simp
  dsimp only
  rw [if_pos hx', ResVs.ok k2 r1]
  simp only [r2, if_true, r3, r4]
section
variable {O : Oracle} {I : Iter} {N n : Nat} {lk : Nat → Bool} {A : Sl} {h : MHeap} {Q : MX2 → Sl → MHeap → Prop} {t : Nat} {os : List GO}
theorem ef_eqns (ht : Nat.blt t n = true) {neg : Bool} {x : MX} {e : MV} {es : List MV} (hx : XV A x (.sl (e :: es))) (hE : Ef O I N n lk (.reg os) ((t, .lit (.bool neg)) :: A) h Q) : Ef O I N n lk (.reg (⟨none, some t, .eqn neg x⟩ :: os)) A h Q :=
  ef_op (fun S HS => by simp only [evO, HS.x hx]) ht hE
end
theorem mf_CloneI : MT.mf 133 = some ⟨8, [(.tmp 2)], (.seq (.reg [⟨none, (some 2), (.nil0 1)⟩]) (.seq (.seq (.reg [⟨none, (some 3), (.mv (.s 0))⟩, ⟨none, (some 4), (.eqn false (.s 3))⟩]) (.cond (.s 4) (.seq (.reg [⟨none, (some 2), (.nil0 1)⟩]) .ret) .skip)) (.seq (.reg [⟨none, (some 5), (.bsl (.lit (.int .i64 0)) 1 0 [])⟩, ⟨none, (some 6), (.mv (.s 0))⟩, ⟨none, (some 7), (.app 1 (.s 5) (.s 6))⟩, ⟨none, (some 2), (.mv (.s 7))⟩]) .ret)))⟩ := by kernel_rfl
theorem CloneI_z (k : Nat) (x : Int) (xs : List Int) (hx : xs.length < 1000000) : runZ MT (orA k) (itA k) 1000000 133 [.sl ((x :: xs).map I64)] [] = some (.arr 0 0 (xs.length + 1) 0, [⟨0, false, 1, (x :: xs).map I64⟩]) := by
  have hs : ((x :: xs).map I64).all (MV.sOk 1) = true := by
    rw [List.all_eq_true]
    intro m hm
    obtain ⟨a, _, rfl⟩ := List.mem_map.1 hm
    rfl
  refine runZ_of mf_CloneI (by simp) ?_
  simp only [argsL]
  repeat (first | apply ef_seq | (apply ef_mv; exact rfl; exact rfl) | (apply ef_nil0; exact rfl) | apply ef_nil | apply seqQ.normal)
  (apply ef_eqns; exact rfl; exact rfl)
  repeat (first | apply ef_seq | (apply ef_mv; exact rfl; exact rfl) | (apply ef_bsl; exact rfl; (repeat (apply XVs.cons; exact rfl)); exact XVs.nil; exact rfl) | apply ef_nil | apply seqQ.normal | apply ef_skip | (apply ef_condf; exact rfl; (exact (rfl : false = false))))
  (apply ef_app; (· exact rfl); (· exact rfl); (· exact rfl); (· exact rfl); (· exact rfl); (· exact rfl); (· exact rfl); (· exact rfl); (· (simp; omega)); (· exact hs); (· exact rfl))
  repeat (first | (apply ef_mv; exact rfl; exact rfl) | apply ef_nil | apply seqQ.normal | apply ef_ret)
  (apply fin_arr; (· exact rfl); (· exact rfl); (· exact rfl); (· exact rfl); (· simp); (· (exact ltL_I 0 (x :: xs))); (· (simp; rw [List.take_of_length_le (by simp)])); (· exact rfl); (· exact rfl); (· (simp)))
theorem CloneI_none (k : Nat) : tabZ MT tA (orA k) (itA k) 1000000 133 [.sl []] = none := by kernel_rfl
theorem CloneI_nil (k id g : Nat) (H : MHeap) (ho : H[id]? = some ⟨g, true, 1, []⟩) : runZ MT (orA k) (itA k) 1000000 133 [.arr id 0 0 g] H = some (.arr H.length 0 0 0, H ++ [⟨0, true, 1, []⟩]) := by
  have hlt := (List.getElem?_eq_some_iff.1 ho).1
  refine runZ_ofH mf_CloneI (by simp) ?_
  simp only [argsL]
  repeat (first | apply ef_seq | (apply ef_mv; exact rfl; exact rfl) | (apply ef_nil0; exact rfl) | apply ef_nil | apply seqQ.normal)
  (apply ef_eqna; (· exact rfl); (· exact rfl); (· rw [List.getElem?_append_left hlt]; exact ho); (· rfl); (· simp))
  repeat (first | apply ef_seq | (apply ef_nil0; exact rfl) | apply ef_nil | apply seqQ.normal | apply ef_ret | apply seqQ.ret | (apply ef_condt; exact rfl; (exact (rfl : true = true))))
  refine ⟨rfl, [.arr (H ++ [(⟨0, true, 1, []⟩ : MObj)]).length 0 0 0], [.arr H.length 0 0 0], ⟨_, [], rfl, rfl, rfl⟩, by simp [impIds], ?_, rfl⟩
  simp [expL, impIds, ltL]
/-- A clone of a slice of the call's own. -/
theorem CloneI_c (k id g : Nat) (xs : List Int) (H : MHeap) {nl : Bool} (hx : xs.length ≤ 1000000) (ho : H[id]? = some ⟨g, nl, 1, xs.map I64⟩) (hn : xs = [] → nl = true) : orA (k + 1) 133 [.arr id 0 xs.length g] H = some (.arr H.length 0 xs.length 0, H ++ [⟨0, xs.isEmpty, 1, xs.map I64⟩]) := by
  cases xs with
  | nil =>
    rw [hn rfl] at ho
    have hf : [MV.arr id 0 0 g].mapM (frz 0 [] H 8) = some [.sl []] := by
      simp [List.mapM_cons, frz, MV.lt, ho, ltL]
    show orZ MT tA noI 1000000 (k + 1) _ _ _ = _
    simp only [orZ, frzCall]
    rw [show ([MV.arr id 0 ([] : List Int).length g].mapM (frz 0 [] H 8)) = some [.sl []] from hf]
    have h1 := CloneI_none k
    unfold orA itA at h1
    simp only [h1]
    exact CloneI_nil k id g H ho
  | cons x xs =>
    have hf : [MV.arr id 0 (xs.length + 1) g].mapM (frz 0 [] H 8) = some [.sl ((x :: xs).map I64)] := by
      rw [List.mapM_cons, frz_arr ho rfl (by simp) (ltL_I 0 (x :: xs)) (by simp; rw [List.take_of_length_le (by simp)])]; rfl
    have := callA (k := k) (args := [.arr id 0 (xs.length + 1) g]) (args' := [.sl ((x :: xs).map I64)]) (h := H) hf rfl (CloneI_z k x xs (by simp at hx; omega)) rfl (by simp [okH, ltL_I, pureL_I, ltL, pureL, MV.lt, MV.pure])
    simpa [shV, sh1] using this

theorem sweep_c (k : Nat) (a b c af : Int) (fl lo l : List Int) (h : MHeap) {v sv : MV} (hv : frz 0 [] h 8 v = some sv) (hs : SlI sv l) (ha : 0 ≤ a ∧ a ≤ 1000) (hb : 0 ≤ b ∧ b ≤ 1000) (hc : 0 ≤ c ∧ c ≤ 1000) (hf : fl.length ≤ 100000) (hll : l.length ≤ 100000) (hl : lo.length ≤ 100000) :
    orA (k + 6) 132 [encS a b c fl lo, v, I64 af] h = some (shV h.length (sweepM (sweepF c af lo (-1) (wins ⟨a, b, c, fl, lo⟩ l))), h ++ sweepN (sweepF c af lo (-1) (wins ⟨a, b, c, fl, lo⟩ l))) := by
  refine callA (k := k + 5) (args' := [encS a b c fl lo, sv, I64 af]) ?_ rfl (sweep_z k a b c af fl lo l hs ha hb hc hf hll hl) ?_ ?_
  · rw [List.mapM_cons, frz_lt (encS_lt a b c fl lo)]; simp [List.mapM_cons, hv]; simp [frz, MV.lt]
  · cases sweepF c af lo (-1) (wins ⟨a, b, c, fl, lo⟩ l) with
    | none => simp [sweepM, okV, ok1, MV.lt, MV.pure]
    | some r => simp [sweepM, okV, ok1_rowL]; simp [ok1, MV.lt, MV.pure]
  · cases sweepF c af lo (-1) (wins ⟨a, b, c, fl, lo⟩ l) with
    | none => rfl
    | some r => exact okH_row _ _
theorem slen_row (n : Nat) (r : List Int) : (sh1 n (rowL r)).slen = some r.length := by cases r <;> simp [rowL, sh1, MV.slen]

/-- What InfillOf hands back, for a valid strip. -/
def infillM : Option (List Int) → MV
  | some l => .tup [.arr 0 0 l.length 0, I64 0]
  | none => .tup [.arr 0 0 0 0, I64 12]
def infillN : Option (List Int) → MHeap
  | some l => [⟨0, l.isEmpty, 1, l.map I64⟩]
  | none => [⟨0, true, 1, []⟩]
theorem mf_InfillOf : MT.mf 61 = some ⟨67, [(.tmp 2), (.tmp 3)], (.seq (.reg [⟨none, (some 1), (.box 5 (.s 0))⟩, ⟨none, (some 2), (.nil0 1)⟩, ⟨none, (some 3), (.mv (.c (.lit (.int .i64 0))))⟩]) (.seq (.reg [⟨none, (some 15), (.ld (some 5) (.s 1))⟩, ⟨none, (some 16), (.call 131 [(.s 15)])⟩, ⟨none, (some 14), (.mv (.s 16))⟩, ⟨none, (some 17), (.ext (.s 14) 0)⟩, ⟨none, (some 18), (.ext (.s 14) 1)⟩, ⟨none, (some 4), (.new (.agg [(.lit (.int .i64 0)), (.lit (.int .i64 0)), (.lit (.int .i64 0)), (.lit (.slice none 0 0)), (.lit (.slice none 0 0))]))⟩, ⟨none, none, (.st 5 (.s 4) (.s 17))⟩, ⟨none, (some 5), (.mv (.s 18))⟩]) (.seq (.seq (.reg [⟨none, (some 19), (.mv (.s 5))⟩, ⟨none, (some 20), (.bin .neq (.s 19) (.c (.lit (.int .i64 0))))⟩]) (.cond (.s 20) (.seq (.reg [⟨none, (some 21), (.mv (.s 5))⟩, ⟨none, (some 2), (.nil0 1)⟩, ⟨none, (some 3), (.mv (.s 21))⟩]) .ret) .skip)) (.seq (.reg [⟨none, (some 23), (.ld (some 5) (.s 4))⟩, ⟨none, (some 24), (.call 132 [(.s 23), (.c (.lit (.slice none 0 0))), (.c (.lit (.int .i64 (-1))))])⟩, ⟨none, (some 22), (.mv (.s 24))⟩, ⟨none, (some 25), (.ext (.s 22) 0)⟩, ⟨none, (some 26), (.ext (.s 22) 1)⟩, ⟨none, (some 6), (.mv (.s 25))⟩, ⟨none, (some 7), (.mv (.s 26))⟩]) (.seq (.seq (.reg [⟨none, (some 27), (.mv (.s 7))⟩, ⟨none, (some 28), (.un .not (.s 27))⟩]) (.cond (.s 28) (.seq (.reg [⟨none, (some 2), (.nil0 1)⟩, ⟨none, (some 3), (.mv (.c (.lit (.int .i64 12))))⟩]) .ret) .skip)) (.seq (.reg [⟨none, (some 8), (.nil0 1)⟩]) (.seq (.seq (.reg [⟨none, (some 29), (.fa 4 (.s 1))⟩, ⟨none, (some 30), (.ld none (.s 29))⟩, ⟨none, (some 31), (.len (.s 30))⟩, ⟨none, (some 32), (.mv (.c (.lit (.int .i64 0))))⟩]) (.block 0 (.loop [32, 31, 30, 8, 6, 4] (.seq (.reg [⟨none, (some 33), (.bin .lss (.s 32) (.s 31))⟩]) (.seq (.cond (.s 33) .skip (.exit 0)) (.seq (.block 1 (.seq (.reg [⟨none, (some 34), (.ia 1 (.s 30) (.s 32))⟩, ⟨none, (some 35), (.ld none (.s 34))⟩, ⟨none, (some 10), (.mv (.s 35))⟩]) (.seq (.seq (.reg [⟨none, (some 36), (.mv (.s 8))⟩, ⟨none, (some 37), (.len (.s 36))⟩, ⟨none, (some 38), (.mv (.s 6))⟩, ⟨none, (some 39), (.len (.s 38))⟩, ⟨none, (some 40), (.bin .eql (.s 37) (.s 39))⟩]) (.cond (.s 40) (.exit 0) .skip)) (.seq (.reg [⟨none, (some 41), (.mv (.s 8))⟩, ⟨none, (some 42), (.call 133 [(.s 41)])⟩, ⟨none, (some 43), (.mv (.s 10))⟩, ⟨none, (some 44), (.bsl (.lit (.int .i64 0)) 1 1 [(0, (.s 43))])⟩, ⟨none, (some 45), (.app 1 (.s 42) (.s 44))⟩, ⟨none, (some 11), (.mv (.s 45))⟩]) (.seq (.reg [⟨none, (some 47), (.ld (some 5) (.s 4))⟩, ⟨none, (some 48), (.mv (.s 11))⟩, ⟨none, (some 49), (.mv (.s 10))⟩, ⟨none, (some 50), (.call 132 [(.s 47), (.s 48), (.s 49)])⟩, ⟨none, (some 46), (.mv (.s 50))⟩, ⟨none, (some 51), (.ext (.s 46) 0)⟩, ⟨none, (some 52), (.ext (.s 46) 1)⟩, ⟨none, (some 12), (.mv (.s 51))⟩, ⟨none, (some 13), (.mv (.s 52))⟩]) (.seq (.reg [⟨none, (some 53), (.mv (.s 13))⟩, ⟨none, (some 54), (.mv (.s 53))⟩, ⟨(some (54, true)), (some 55), (.mv (.s 11))⟩, ⟨(some (54, true)), (some 56), (.len (.s 55))⟩, ⟨(some (54, true)), (some 57), (.mv (.s 12))⟩, ⟨(some (54, true)), (some 58), (.len (.s 57))⟩, ⟨(some (54, true)), (some 59), (.bin .add (.s 56) (.s 58))⟩, ⟨(some (54, true)), (some 60), (.mv (.s 6))⟩, ⟨(some (54, true)), (some 61), (.len (.s 60))⟩, ⟨(some (54, true)), (some 62), (.bin .leq (.s 59) (.s 61))⟩, ⟨none, (some 63), (.pick (.s 54) (.s 62) (.c (.lit (.bool false))))⟩]) (.cond (.s 63) (.reg [⟨none, (some 64), (.mv (.s 11))⟩, ⟨none, (some 8), (.mv (.s 64))⟩]) .skip))))))) (.reg [⟨none, (some 65), (.bin .add (.s 32) (.c (.lit (.int .i64 1))))⟩, ⟨none, (some 32), (.mv (.s 65))⟩]))))))) (.seq (.reg [⟨none, (some 66), (.mv (.s 8))⟩, ⟨none, (some 2), (.mv (.s 66))⟩, ⟨none, (some 3), (.mv (.c (.lit (.int .i64 0))))⟩]) .ret))))))))⟩ := by kernel_rfl
theorem infF_len {s : Stp} {m : Nat} : ∀ (ns out : List Int), (infF s m ns out).length ≤ out.length + ns.length := by
  intro ns
  induction ns with
  | nil => intro out; simp [infF]
  | cons n ns ih =>
    intro out
    simp only [infF]
    have h1 := ih out
    have h2 := ih (out ++ [n])
    simp only [List.length_append, List.length_cons, List.length_nil] at h1 h2 ⊢
    split
    · omega
    · split
      · split <;> omega
      · omega
theorem at_mid (H : MHeap) (c b : MObj) : ((H ++ [c]) ++ [b])[H.length]? = some c := by simp
theorem set_clone (H : MHeap) (c b : MObj) (xs : List Int) (n : Int) (es : List MV) (he : es = (xs ++ [n]).map I64) : ((H ++ [c]) ++ [b]).set H.length ⟨0 + 1, false, 1, es⟩ = H ++ [⟨1, false, 1, (xs ++ [n]).map I64⟩, b] := by
  subst he
  simp [List.set_append]
theorem headSlot {keep : List Nat} {m : Nat} {A : Sl} {h h1 : MHeap} (t : Nat) (v : MV) (ht : t ∈ keep) (hv : look A t = some v) (hl : v.lt m = false) (e : h = h1) : HeadIs keep m A h h1 := by subst e; exact .slot t v ht hv hl
/-- The memory ahead of InfillOf's rounds. -/
def infB (a b c : Int) (fl lo all : List Int) : MHeap := [⟨0, false, 5, [encS a b c fl lo]⟩, ⟨0, true, 1, []⟩, ⟨0, false, 5, [encS a b c fl lo]⟩, ⟨0, false, 1, all.map I64⟩, ⟨0, true, 1, []⟩]
set_option maxHeartbeats 4000000 in
theorem InfillOf_z (k : Nat) (a b c : Int) (fl lo : List Int) (hok : OkS a b c fl lo) : runZ MT (orA (k + 6)) (itA (k + 6)) 1000000 61 [encS a b c fl lo] [] = some (infillM (infillF ⟨a, b, c, fl, lo⟩), infillN (infillF ⟨a, b, c, fl, lo⟩)) := by
  obtain ⟨ha, hb, hc, hab, hf, hl, -, -, -, -, hall⟩ := hok
  have hc' : 0 ≤ c ∧ c ≤ 1000 := by omega
  have ho := fun h => openStrip_c k a b c fl lo h (by omega) (by omega)
  rw [hall] at ho
  have hsw := fun h => sweep_c k a b c (-1) fl lo [] h (v := .lit (.slice none 0 0)) (sv := .lit (.slice none 0 0)) rfl .nil ha hb hc' (by omega) (by simp) (by omega)
  have HI := Lib.hid (show infillF ⟨a, b, c, fl, lo⟩ = (sweepF c (-1) lo (-1) (wins ⟨a, b, c, fl, lo⟩ [])).map fun all => infF ⟨a, b, c, fl, lo⟩ all.length lo [] from rfl)
  refine runZ_of mf_InfillOf (by simp) ?_
  simp only [argsL]
  have hl1 : (MV.sl (lo.map I64)).slen = some lo.length := by simp [MV.slen]
  cases hr : sweepF c (-1) lo (-1) (wins ⟨a, b, c, fl, lo⟩ []) with
  | none =>
    rw [hr] at hsw HI
    simp only [sweepM, sweepN, shV, sh1, List.map_cons, List.map_nil, List.append_nil] at hsw
    repeat (first | apply ef_seq | (apply ef_mv; exact rfl; exact rfl) | (apply ef_bin; exact rfl; exact rfl; exact rfl; (exact cmp_f rfl (by simp only [cmpP]; omega))) | (apply ef_ldp; exact rfl; exact rfl; exact rfl; exact rfl; (exact rfl); (exact rd_5 rfl rfl rfl rfl rfl)) | (apply ef_notF; exact rfl; exact rfl) | (apply ef_ext; exact rfl; exact rfl; exact rfl) | (apply ef_box; exact rfl; exact rfl; exact rfl; exact rfl) | (apply ef_new; exact rfl) | (apply ef_nil0; exact rfl) | (apply ef_st; exact rfl; exact rfl; exact rfl; exact rfl; exact rfl; exact rfl; (exact rfl); exact rfl) | apply ef_nil | apply seqQ.normal | apply ef_ret | apply seqQ.ret | apply ef_skip | (apply ef_condt; exact rfl; (exact (rfl : true = true))) | (apply ef_condf; exact rfl; (exact (rfl : false = false))) | (apply ef_call; exact rfl; ((repeat (apply XVs.cons; exact rfl)); exact XVs.nil); (with_reducible first | exact ho _ | exact hsw _)))
    rw [HI.out]
    (apply fin_al; (· exact rfl); (· exact rfl); (· exact rfl); (· exact rfl); (· exact rfl); (· exact rfl); (· exact rfl); (· exact rfl); (· exact rfl); (· exact rfl))
  | some all =>
    rw [hr] at hsw HI
    simp only [Option.map_some] at HI
    simp only [sweepM, sweepN, shV, List.map_cons, List.map_nil] at hsw
    have hsl := fun n => slen_row n all
    cases all with
    | nil =>
      simp only [rowL, rowH, sh1, List.append_nil] at hsw
      repeat (first | apply ef_seq | (apply ef_mv; exact rfl; exact rfl) | (apply ef_bin; exact rfl; exact rfl; exact rfl; (exact cmp_f rfl (by simp only [cmpP]; omega))) | (apply ef_len; exact rfl; exact rfl; (assumption)) | (apply ef_ldp; exact rfl; exact rfl; exact rfl; exact rfl; (exact rfl); (first | exact rd_5 rfl rfl rfl rfl rfl | exact rfl)) | (apply ef_fap; exact rfl; exact rfl) | (apply ef_notT; exact rfl; exact rfl) | (apply ef_ext; exact rfl; exact rfl; exact rfl) | (apply ef_box; exact rfl; exact rfl; exact rfl; exact rfl) | (apply ef_new; exact rfl) | (apply ef_nil0; exact rfl) | (apply ef_st; exact rfl; exact rfl; exact rfl; exact rfl; exact rfl; exact rfl; (exact rfl); exact rfl) | apply ef_nil | apply seqQ.normal | apply ef_block | apply ef_skip | (apply ef_condf; exact rfl; (exact (rfl : false = false))) | (apply ef_call; exact rfl; ((repeat (apply XVs.cons; exact rfl)); exact XVs.nil); (with_reducible first | exact ho _ | exact hsw _)))
      rw [HI.out]
      by_cases hlo : lo = []
      · subst hlo
        refine ef_loopf (α := Unit) (fun _ => True) (fun _ => []) [(32, _), (31, _), (8, _)] (fun _ => _) (fun _ => 0) () [] (fun _ => rfl) (by ((repeat (refine Hold.cons (by exact rfl) ?_)); exact Hold.nil)) (by ((repeat (refine Hold.cons (by exact rfl) ?_)); exact Hold.nil)) rfl rfl trivial (by omega) ?_
        intro _ _
        repeat (first | apply ef_seq | (apply ef_mv; exact rfl; exact rfl) | (apply ef_bin; exact rfl; exact rfl; exact rfl; (exact rfl)) | apply ef_nil | apply seqQ.normal | apply loopQ.exit | apply ef_ret | apply ef_exit | apply seqQ.exit | apply blockQ.here | (apply ef_condf; exact rfl; (exact (rfl : false = false))))
        (apply fin_al; (· exact rfl); (· exact rfl); (· exact rfl); (· exact rfl); (· exact rfl); (· exact rfl); (· exact rfl); (· exact rfl); (· exact rfl); (· exact rfl))
      · obtain ⟨n, ns, rfl⟩ := List.exists_cons_of_ne_nil hlo
        refine ef_loopf (α := Unit) (fun _ => True) (fun _ => []) [(32, _), (31, _), (30, _), (8, _), (6, _)] (fun _ => _) (fun _ => 0) () [] (fun _ => rfl) (by ((repeat (refine Hold.cons (by exact rfl) ?_)); exact Hold.nil)) (by ((repeat (refine Hold.cons (by exact rfl) ?_)); exact Hold.nil)) rfl rfl trivial (by omega) ?_
        intro _ _
        simp only [List.map_cons, List.length_cons] at *
        have e1 : (I64 n :: ns.map I64)[(0 : Int).toNat]? = some (I64 n) := rfl
        repeat (first | apply ef_seq | (apply ef_mv; exact rfl; exact rfl) | (apply ef_bin; exact rfl; exact rfl; exact rfl; (exact cmp_t rfl (by first | exact rfl | (simp only [cmpP]; omega)))) | (apply ef_len; exact rfl; exact rfl; (exact rfl)) | (apply ef_ldr; exact rfl; exact rfl; (exact rfl)) | (apply ef_ias; exact rfl; exact rfl; exact rfl; (omega); assumption; exact rfl) | apply ef_nil | apply seqQ.normal | apply loopQ.exit | apply ef_ret | apply ef_exit | apply seqQ.exit | apply blockQ.here | (apply blockQ_there; exact rfl) | apply ef_block | apply ef_skip | (apply ef_condt; exact rfl; (exact (rfl : true = true))))
        simp only [infF, List.length_nil, if_true]
        (apply fin_al; (· exact rfl); (· exact rfl); (· exact rfl); (· exact rfl); (· exact rfl); (· exact rfl); (· exact rfl); (· exact rfl); (· exact rfl); (· exact rfl))
    | cons y ys =>
      have hin := Lib.hid (rfl : infF ⟨a, b, c, fl, lo⟩ (y :: ys).length lo [] = infF ⟨a, b, c, fl, lo⟩ (y :: ys).length lo [])
      simp only [rowL, rowH, sh1] at hsw
      repeat (first | apply ef_seq | (apply ef_mv; exact rfl; exact rfl) | (apply ef_bin; exact rfl; exact rfl; exact rfl; (exact cmp_f rfl (by simp only [cmpP]; omega))) | (apply ef_len; exact rfl; exact rfl; (assumption)) | (apply ef_ldp; exact rfl; exact rfl; exact rfl; exact rfl; (exact rfl); (first | exact rd_5 rfl rfl rfl rfl rfl | exact rfl)) | (apply ef_fap; exact rfl; exact rfl) | (apply ef_notT; exact rfl; exact rfl) | (apply ef_ext; exact rfl; exact rfl; exact rfl) | (apply ef_box; exact rfl; exact rfl; exact rfl; exact rfl) | (apply ef_new; exact rfl) | (apply ef_nil0; exact rfl) | (apply ef_st; exact rfl; exact rfl; exact rfl; exact rfl; exact rfl; exact rfl; (exact rfl); exact rfl) | apply ef_nil | apply seqQ.normal | apply ef_block | apply ef_skip | (apply ef_condf; exact rfl; (exact (rfl : false = false))) | (apply ef_call; exact rfl; ((repeat (apply XVs.cons; exact rfl)); exact XVs.nil); (with_reducible first | exact ho _ | exact hsw _)))
      rw [HI.out]
      clear hsw HI
      have hys : (y :: ys).length ≤ 1000 := by
        have h1 := sweepF_len hr
        have h2 := wins_len ⟨a, b, c, fl, lo⟩ []
        simp only at h2
        omega
      simp only [List.length_cons] at hys
      clear hr hsl
      refine ef_loopg (α := Nat × List Int × Nat × Nat × MHeap)
        (fun s => s.1 ≤ lo.length ∧ infF ⟨a, b, c, fl, lo⟩ (y :: ys).length lo [] = infF ⟨a, b, c, fl, lo⟩ (y :: ys).length (lo.drop s.1) s.2.1 ∧ s.2.1.length ≤ s.1 ∧ (infB a b c fl lo (y :: ys) ++ s.2.2.2.2)[s.2.2.1]? = some ⟨s.2.2.2.1, s.2.1.isEmpty, 1, s.2.1.map I64⟩ ∧ ((s.2.1 = [] ∧ s.2.2.1 = 4 ∧ s.2.2.2.1 = 0 ∧ s.2.2.2.2 = []) ∨ (s.2.1 ≠ [] ∧ 5 ≤ s.2.2.1)))
        (fun s => [(32, I64 (s.1 : Int)), (8, .arr s.2.2.1 0 s.2.1.length s.2.2.2.1)]) [(31, _), (30, _), (6, _), (4, _)] (fun s => infB a b c fl lo (y :: ys) ++ s.2.2.2.2) (fun s => lo.length - s.1) (0, [], 4, 0, []) [32, 8] (fun _ => rfl) (by ((repeat (refine Hold.cons (by exact rfl) ?_)); exact Hold.nil)) (by ((repeat (refine Hold.cons (by exact rfl) ?_)); exact Hold.nil)) rfl rfl rfl ⟨by simp, rfl, by simp, rfl, .inl ⟨rfl, rfl, rfl, rfl⟩⟩ (by simp; omega) ?_
      rintro ⟨i, out, id, g, G⟩ ⟨hi, hz, hol, hobj, hd⟩
      simp only at hi hz hol hobj hd ⊢
      have HZ := Lib.hid hz
      clear hz
      by_cases hlt : i < lo.length
      · have e1 := at_map I64 lo i hlt
        have HD := Lib.hid (drop_at lo i hlt)
        generalize lo[i] = n at e1 HD
        by_cases hm : out.length = ys.length + 1
        · repeat (first | apply ef_seq | (apply ef_mv; exact rfl; exact rfl) | (apply ef_bin; exact rfl; exact rfl; exact rfl; (exact cmp_t rfl (by first | exact rfl | (simp only [cmpP]; omega)))) | (apply ef_len; exact rfl; exact rfl; (exact rfl)) | (apply ef_ldr; exact rfl; exact rfl; (exact rfl)) | (apply ef_ias; exact rfl; exact rfl; exact rfl; (omega); assumption; exact rfl) | apply ef_nil | apply seqQ.normal | apply loopQ.exit | apply ef_ret | apply ef_exit | apply seqQ.exit | apply blockQ.here | (apply blockQ_there; exact rfl) | apply ef_block | apply ef_skip | (apply ef_condt; exact rfl; (exact (rfl : true = true))))
          rw [HZ.out, HD.out]
          rw [show infF ⟨a, b, c, fl, lo⟩ (y :: ys).length (n :: lo.drop (i + 1)) out = out by simp [infF, hm]]
          (apply fin_al; (· exact rfl); (· exact rfl); (· exact rfl); (· exact hobj); (· exact rfl); (· simp); (· exact ltL_I 0 out); (· exact rfl); (· exact rfl); (· exact rfl))
        · have hcl := CloneI_c (k + 5) id g out (infB a b c fl lo (y :: ys) ++ G) (by omega) hobj (fun e => by rw [e]; rfl)
          obtain ⟨r, hr⟩ : ∃ r, sweepF c n lo (-1) (wins ⟨a, b, c, fl, lo⟩ (out ++ [n])) = r := ⟨_, rfl⟩
          have hsw := fun h v (hv : frz 0 [] h 8 v = some (.sl ((out ++ [n]).map I64))) => sweep_c k a b c n fl lo (out ++ [n]) h hv (.sl (out ++ [n])) ha hb hc' (by omega) (by simp; omega) (by omega)
          rw [hr] at hsw
          have HR := Lib.hid hr
          clear hr
          repeat (first | apply ef_seq | (apply ef_mv; exact rfl; exact rfl) | (apply ef_bin; exact rfl; exact rfl; exact rfl; (first | exact cmp_t rfl (by first | exact rfl | (simp only [cmpP]; omega)) | exact cmp_f rfl (by simp only [cmpP]; omega))) | (apply ef_len; exact rfl; exact rfl; (exact rfl)) | (apply ef_ldr; exact rfl; exact rfl; (exact rfl)) | (apply ef_ias; exact rfl; exact rfl; exact rfl; (omega); assumption; exact rfl) | apply ef_nil | apply seqQ.normal | apply ef_block | apply ef_skip | (apply ef_condt; exact rfl; (exact (rfl : true = true))) | (apply ef_condf; exact rfl; (exact (rfl : false = false))))
          (apply ef_call; (· exact rfl); (· ((repeat (apply XVs.cons; exact rfl)); exact XVs.nil)); · exact hcl)
          repeat (first | (apply ef_mv; exact rfl; exact rfl) | (apply ef_bsl; exact rfl; (repeat (apply XVs.cons; exact rfl)); exact XVs.nil; exact rfl))
          (apply ef_app; (· exact rfl); (· exact rfl); (· exact rfl); (· exact elems_end rfl rfl rfl rfl); (· exact at_mid _ _ _); (· exact rfl); (· simp); (· exact rfl); (· simp; omega); (· rfl); (· rfl))
          rw [set_clone _ _ _ out n _ (by simp)]
          rw [show out.length + (I64 n :: List.replicate 0 (MV.lit (Value.int IntKind.i64 0))).length = out.length + 1 from rfl]
          repeat (first | apply ef_seq | (apply ef_mv; exact rfl; exact rfl) | (apply ef_ldp; exact rfl; exact rfl; exact rfl; exact rfl; (exact rfl); (exact rd_5 rfl rfl rfl rfl rfl)) | apply ef_nil | apply seqQ.normal)
          have hfz : frz 0 [] (infB a b c fl lo (y :: ys) ++ G ++ [⟨1, false, 1, (out ++ [n]).map I64⟩, ⟨0, false, 1, [I64 n]⟩]) 8 (.arr (infB a b c fl lo (y :: ys) ++ G).length 0 (out.length + 1) 1) = some (.sl ((out ++ [n]).map I64)) :=
            frz_arr (o := ⟨1, false, 1, (out ++ [n]).map I64⟩) (by simp) rfl (by simp) (ltL_I 0 _) (by rw [List.drop_zero, List.take_of_length_le (by simp)])
          have hcall := hsw _ _ hfz
          have hH5 : 5 ≤ (infB a b c fl lo (y :: ys) ++ G).length := by simp [infB]
          have hlt2 : MV.lt 5 (.arr (infB a b c fl lo (y :: ys) ++ G).length 0 (out.length + 1) 1) = false := by simp only [MV.lt, decide_eq_false_iff_not]; omega
          have hidlt : 5 ≤ id → MV.lt 5 (.arr id 0 out.length g) = false := fun h => by simp only [MV.lt, decide_eq_false_iff_not]; omega
          have hob2 : ∀ X, (infB a b c fl lo (y :: ys) ++ (G ++ X))[id]? = some ⟨g, out.isEmpty, 1, out.map I64⟩ := fun X => by
            rw [← List.append_assoc, List.getElem?_append_left (List.getElem?_eq_some_iff.1 hobj).1]; exact hobj
          (apply ef_call; (· exact rfl); (· ((repeat (apply XVs.cons; exact rfl)); exact XVs.nil)); · exact hcall)
          cases r with
          | none =>
            simp only [sweepM, sweepN, shV, sh1, List.map_cons, List.map_nil, List.append_nil]
            have HN := Lib.hid (show infF ⟨a, b, c, fl, lo⟩ (y :: ys).length (n :: lo.drop (i + 1)) out = infF ⟨a, b, c, fl, lo⟩ (y :: ys).length (lo.drop (i + 1)) out by simp [infF, hm, HR.out])
            repeat (first | apply ef_seq | (apply ef_mv; exact rfl; exact rfl) | (apply ef_bin; exact rfl; exact rfl; exact rfl; (((with_reducible refine bin_add (wrap_of ?_ ?_)) <;> omega))) | (apply ef_gn; exact rfl; (exact (rfl : false = false)); exact rfl) | (apply ef_pick; exact rfl; exact rfl; exact rfl) | (apply ef_ext; exact rfl; exact rfl; exact rfl) | apply ef_nil | apply seqQ.normal | apply blockQ.normal | apply ef_skip | (apply ef_condf; exact rfl; (exact (rfl : false = false))))
            rcases hd with ⟨rfl, rfl, rfl, rfl⟩ | ⟨hne, hid⟩
            · refine loopQ.normal _ _ ⟨(i + 1, [], 4, 0, []), ⟨hlt, by rw [HZ.out, HD.out, HN.out], by simp, rfl, .inl ⟨rfl, rfl, rfl, rfl⟩⟩, (by simp only; omega), ⟨by ((repeat (refine Hold.cons (by exact rfl) ?_)); exact Hold.nil), by ((repeat (refine Hold.cons (by exact rfl) ?_)); exact Hold.nil)⟩, ?_⟩
              exact HeadIs.cut (by ((repeat (refine hdl_cons rfl (by first | rfl | (simp [MV.lt, ltL_I])) ?_)); exact hdl_nil)) (by simp [infB, hltL, ltL, MV.lt, ltL_I])
            · refine loopQ.normal _ _ ⟨(i + 1, out, id, g, G ++ [⟨1, false, 1, (out ++ [n]).map I64⟩, ⟨0, false, 1, [I64 n]⟩]), ⟨hlt, by rw [HZ.out, HD.out, HN.out], by simp only; omega, hob2 _, .inr ⟨hne, hid⟩⟩, (by simp only; omega), ⟨by ((repeat (refine Hold.cons (by exact rfl) ?_)); exact Hold.nil), by ((repeat (refine Hold.cons (by exact rfl) ?_)); exact Hold.nil)⟩, ?_⟩
              exact headSlot 8 _ (by decide) rfl (hidlt hid) (by simp)
          | some r =>
            have hlr := fun n => slen_row n r
            have hrl : r.length ≤ 1000 := by
              have h1 := sweepF_len HR.out
              have h2 := wins_len ⟨a, b, c, fl, lo⟩ (out ++ [n])
              simp only at h2
              omega
            simp only [sweepM, sweepN, shV, List.map_cons, List.map_nil]
            by_cases hle : out.length + 1 + r.length ≤ ys.length + 1
            · have HN := Lib.hid (show infF ⟨a, b, c, fl, lo⟩ (y :: ys).length (n :: lo.drop (i + 1)) out = infF ⟨a, b, c, fl, lo⟩ (y :: ys).length (lo.drop (i + 1)) (out ++ [n]) by simp [infF, hm, HR.out, hle])
              repeat (first | apply ef_seq | (apply ef_mv; exact rfl; exact rfl) | (apply ef_gy; exact rfl; (exact (rfl : true = true))) | (apply ef_len; exact rfl; exact rfl; (exact rfl)) | (apply ef_ext; exact rfl; exact rfl; exact rfl) | apply ef_nil | apply seqQ.normal)
              (apply ef_len; exact rfl; exact rfl; exact hlr _)
              repeat (first | (apply ef_mv; exact rfl; exact rfl) | (apply ef_bin; exact rfl; exact rfl; exact rfl; (first | exact cmp_t rfl (by first | exact rfl | (simp only [cmpP]; omega)) | ((with_reducible refine bin_add (wrap_of ?_ ?_)) <;> omega))) | (apply ef_gy; exact rfl; (exact (rfl : true = true))) | (apply ef_pick; exact rfl; exact rfl; exact rfl) | (apply ef_len; exact rfl; exact rfl; (exact rfl)) | apply ef_nil | apply seqQ.normal | apply blockQ.normal | (apply ef_condt; exact rfl; (exact (rfl : true = true))))
              refine loopQ.normal _ _ ⟨(i + 1, out ++ [n], (infB a b c fl lo (y :: ys) ++ G).length, 1, G ++ (([⟨1, false, 1, (out ++ [n]).map I64⟩, ⟨0, false, 1, [I64 n]⟩] : MHeap) ++ rowH r)), ⟨hlt, by rw [HZ.out, HD.out, HN.out], by simp; omega, by simp, .inr ⟨by simp, hH5⟩⟩, (by simp only; omega), ⟨by simp only [List.length_append, List.length_cons, List.length_nil]; ((repeat (refine Hold.cons (by exact rfl) ?_)); exact Hold.nil), by ((repeat (refine Hold.cons (by exact rfl) ?_)); exact Hold.nil)⟩, ?_⟩
              exact headSlot 8 _ (by decide) rfl hlt2 (by simp)
            · have HN := Lib.hid (show infF ⟨a, b, c, fl, lo⟩ (y :: ys).length (n :: lo.drop (i + 1)) out = infF ⟨a, b, c, fl, lo⟩ (y :: ys).length (lo.drop (i + 1)) out by simp [infF, hm, HR.out, hle])
              repeat (first | apply ef_seq | (apply ef_mv; exact rfl; exact rfl) | (apply ef_gy; exact rfl; (exact (rfl : true = true))) | (apply ef_len; exact rfl; exact rfl; (exact rfl)) | (apply ef_ext; exact rfl; exact rfl; exact rfl) | apply ef_nil | apply seqQ.normal)
              (apply ef_len; exact rfl; exact rfl; exact hlr _)
              repeat (first | (apply ef_mv; exact rfl; exact rfl) | (apply ef_bin; exact rfl; exact rfl; exact rfl; (first | exact cmp_f rfl (by simp only [cmpP]; omega) | ((with_reducible refine bin_add (wrap_of ?_ ?_)) <;> omega))) | (apply ef_gy; exact rfl; (exact (rfl : true = true))) | (apply ef_pick; exact rfl; exact rfl; exact rfl) | (apply ef_len; exact rfl; exact rfl; (exact rfl)) | apply ef_nil | apply seqQ.normal | apply blockQ.normal | apply ef_skip | (apply ef_condf; exact rfl; (exact (rfl : false = false))))
              rcases hd with ⟨rfl, rfl, rfl, rfl⟩ | ⟨hne, hid⟩
              · refine loopQ.normal _ _ ⟨(i + 1, [], 4, 0, []), ⟨hlt, by rw [HZ.out, HD.out, HN.out], by simp, rfl, .inl ⟨rfl, rfl, rfl, rfl⟩⟩, (by simp only; omega), ⟨by ((repeat (refine Hold.cons (by exact rfl) ?_)); exact Hold.nil), by ((repeat (refine Hold.cons (by exact rfl) ?_)); exact Hold.nil)⟩, ?_⟩
                exact HeadIs.cut (by ((repeat (refine hdl_cons rfl (by first | rfl | (simp [MV.lt, ltL_I])) ?_)); exact hdl_nil)) (by simp [infB, hltL, ltL, MV.lt, ltL_I])
              · refine loopQ.normal _ _ ⟨(i + 1, out, id, g, G ++ (([⟨1, false, 1, (out ++ [n]).map I64⟩, ⟨0, false, 1, [I64 n]⟩] : MHeap) ++ rowH r)), ⟨hlt, by rw [HZ.out, HD.out, HN.out], by simp only; omega, hob2 _, .inr ⟨hne, hid⟩⟩, (by simp only; omega), ⟨by ((repeat (refine Hold.cons (by exact rfl) ?_)); exact Hold.nil), by ((repeat (refine Hold.cons (by exact rfl) ?_)); exact Hold.nil)⟩, ?_⟩
                exact headSlot 8 _ (by decide) rfl (hidlt hid) (by simp)
      · repeat (first | apply ef_seq | (apply ef_mv; exact rfl; exact rfl) | (apply ef_bin; exact rfl; exact rfl; exact rfl; (exact cmp_f rfl (by simp only [cmpP]; omega))) | apply ef_nil | apply seqQ.normal | apply loopQ.exit | apply ef_ret | apply ef_exit | apply seqQ.exit | apply blockQ.here | (apply ef_condf; exact rfl; (exact (rfl : false = false))))
        rw [HZ.out, List.drop_eq_nil_of_le (by omega)]
        (apply fin_al; (· exact rfl); (· exact rfl); (· exact rfl); (· exact hobj); (· exact rfl); (· simp [infF]); (· exact ltL_I 0 _); (· exact rfl); (· exact rfl); (· exact rfl))
end Go.Proofs.Ytgjpdjihjphbdaa
