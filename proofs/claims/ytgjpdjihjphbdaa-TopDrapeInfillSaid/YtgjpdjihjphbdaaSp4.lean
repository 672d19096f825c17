/- Contracts: the sweep of a strip. -/
import Derived.Test.YtgjpdjihjphbdaaSp3
namespace Go.Proofs.Ytgjpdjihjphbdaa
open Go.RowKit

/-- What 'out' is while a sweep runs, and its memory; G is what is no longer looked at. -/
def outV : List Int → MV
  | [] => .lit (.slice none 0 0)
  | _ :: r => .arr 7 0 (r.length + 1) r.length
def outH : List Int → MHeap → MHeap
  | [], _ => []
  | w :: r, G => ⟨0, false, 1, [I64 w]⟩ :: ⟨r.length, false, 1, (w :: r).map I64⟩ :: G
def swpH (sv : MV) (af : Int) (out : List Int) (t : Int) (G : MHeap) : MHeap := ⟨0, false, 5, [sv]⟩ :: ⟨0, false, 1, [I64 af]⟩ :: ⟨0, false, 1, [.lit (.slice none 0 0)]⟩ :: ⟨0, false, 1, [Bo false]⟩ :: ⟨0, false, 1, [outV out]⟩ :: ⟨0, false, 1, [I64 t]⟩ :: outH out G
theorem elems_end {h : MHeap} {o : MObj} {k n : Nat} {es : List MV} (hn : n = h.length) (hg : o.g = 0) (hk : o.es.length = k) (he : o.es = es) : (MV.arr n 0 k 0).elems (h ++ [o]) = some es := by
  subst hn he hk
  simp [MV.elems, hg]
theorem outH_app (w : Int) (r : List Int) (x : Int) (G : MHeap) : outH ((w :: r) ++ [x]) G = ⟨0, false, 1, [I64 w]⟩ :: ⟨r.length + 1, false, 1, (w :: r).map I64 ++ [I64 x]⟩ :: G := by simp [outH]
theorem outV_app (w : Int) (r : List Int) (x : Int) : outV ((w :: r) ++ [x]) = .arr 7 0 (r.length + 1 + 1) (r.length + 1) := by simp [outV]

theorem sweepF_len {gap after : Int} {lo : List Int} : ∀ {ws : List Int} {t : Int} {r : List Int}, sweepF gap after lo t ws = some r → r.length ≤ ws.length := fun h => (sweep_sub h).length_le
theorem wins_len (s : Stp) (l : List Int) : (wins s l).length ≤ (s.up - s.gap - s.fr).toNat := by
  unfold wins
  refine Nat.le_trans (List.length_filter_le _ _) ?_
  rw [rngI_len]; exact Nat.le_refl _
/-- A row of the call's own, or nil. -/
def rowL : List Int → MV
  | [] => .lit (.slice none 0 0)
  | z :: zs => .arr 0 0 (zs.length + 1) 0
theorem ok1_rowL (p : Bool) (zs : List Int) : ok1 p (rowL zs) = true := by
  cases zs with
  | nil => cases p <;> rfl
  | cons z zs => rfl
/-- What a sweep hands back. -/
def sweepM : Option (List Int) → MV
  | some out => .tup [rowL out, Bo true]
  | none => .tup [.lit (.slice none 0 0), Bo false]
def sweepN : Option (List Int) → MHeap
  | some out => rowH out
  | none => []
theorem mf_sweep : MT.mf 132 = some ⟨57, [(.cell 6 none), (.cell 7 none)], (.seq (.reg [⟨none, (some 3), (.box 5 (.s 0))⟩, ⟨none, (some 5), (.box 1 (.s 2))⟩, ⟨none, (some 6), (.new (.lit (.slice none 0 0)))⟩, ⟨none, (some 7), (.new (.lit (.bool false)))⟩]) (.seq (.reg [⟨none, (some 8), (.new (.lit (.slice none 0 0)))⟩]) (.seq (.reg [⟨none, (some 9), (.new (.lit (.int .i64 0)))⟩, ⟨none, none, (.st 1 (.s 9) (.c (.lit (.int .i64 (-1)))))⟩]) (.seq (.seq (.reg [⟨none, (some 13), (.ld (some 5) (.s 3))⟩, ⟨none, (some 14), (.mv (.s 1))⟩, ⟨none, (some 15), (.call 135 [(.s 13), (.s 14)])⟩]) (.block 0 (.rf [9, 3, 5, 6, 7, 8] (.s 15) [16] (.reg [⟨none, (some 10), (.mv (.s 16))⟩]) (.block 1 (.seq (.seq (.reg [⟨none, (some 17), (.ld none (.s 9))⟩, ⟨none, (some 18), (.mv (.s 10))⟩, ⟨none, (some 19), (.bin .add (.s 18) (.c (.lit (.int .i64 1))))⟩, ⟨none, (some 20), (.mv (.s 10))⟩, ⟨none, (some 21), (.fa 0 (.s 3))⟩, ⟨none, (some 22), (.fa 2 (.s 21))⟩, ⟨none, (some 23), (.ld none (.s 22))⟩, ⟨none, (some 24), (.bin .add (.s 20) (.s 23))⟩, ⟨none, (some 25), (.call 129 [(.s 17), (.s 19), (.s 24)])⟩]) (.cond (.s 25) (.exit 1) .skip)) (.seq (.reg [⟨none, none, (.st 1 (.s 9) (.c (.lit (.int .i64 (-1)))))⟩]) (.seq (.seq (.reg [⟨none, (some 26), (.fa 0 (.s 3))⟩, ⟨none, (some 27), (.fa 4 (.s 26))⟩, ⟨none, (some 28), (.ld none (.s 27))⟩, ⟨none, (some 29), (.len (.s 28))⟩, ⟨none, (some 30), (.mv (.c (.lit (.int .i64 0))))⟩]) (.block 2 (.loop [30, 29, 28, 5, 10, 3, 9, 6, 7, 8] (.seq (.reg [⟨none, (some 31), (.bin .lss (.s 30) (.s 29))⟩]) (.seq (.cond (.s 31) .skip (.exit 2)) (.seq (.block 3 (.seq (.reg [⟨none, (some 32), (.ia 1 (.s 28) (.s 30))⟩, ⟨none, (some 33), (.ld none (.s 32))⟩, ⟨none, (some 12), (.mv (.s 33))⟩]) (.seq (.reg [⟨none, (some 34), (.mv (.s 12))⟩, ⟨none, (some 35), (.ld none (.s 5))⟩, ⟨none, (some 36), (.bin .gtr (.s 34) (.s 35))⟩, ⟨none, (some 37), (.mv (.s 36))⟩, ⟨(some (37, true)), (some 38), (.mv (.s 12))⟩, ⟨(some (37, true)), (some 39), (.mv (.s 10))⟩, ⟨(some (37, true)), (some 40), (.bin .add (.s 39) (.c (.lit (.int .i64 1))))⟩, ⟨(some (37, true)), (some 41), (.mv (.s 10))⟩, ⟨(some (37, true)), (some 42), (.fa 0 (.s 3))⟩, ⟨(some (37, true)), (some 43), (.fa 2 (.s 42))⟩, ⟨(some (37, true)), (some 44), (.ld none (.s 43))⟩, ⟨(some (37, true)), (some 45), (.bin .add (.s 41) (.s 44))⟩, ⟨(some (37, true)), (some 46), (.call 129 [(.s 38), (.s 40), (.s 45)])⟩, ⟨none, (some 47), (.pick (.s 37) (.s 46) (.c (.lit (.bool false))))⟩]) (.cond (.s 47) (.reg [⟨none, (some 48), (.mv (.s 12))⟩, ⟨none, none, (.st 1 (.s 9) (.s 48))⟩]) .skip)))) (.reg [⟨none, (some 49), (.bin .add (.s 30) (.c (.lit (.int .i64 1))))⟩, ⟨none, (some 30), (.mv (.s 49))⟩]))))))) (.seq (.seq (.reg [⟨none, (some 50), (.ld none (.s 9))⟩, ⟨none, (some 51), (.bin .lss (.s 50) (.c (.lit (.int .i64 0))))⟩]) (.cond (.s 51) (.seq (.reg [⟨none, none, (.st 1 (.s 6) (.c (.lit (.slice none 0 0))))⟩, ⟨none, none, (.st 1 (.s 7) (.c (.lit (.bool false))))⟩]) .ret) .skip)) (.reg [⟨none, (some 52), (.ld none (.s 8))⟩, ⟨none, (some 53), (.mv (.s 10))⟩, ⟨none, (some 54), (.bsl (.lit (.int .i64 0)) 1 1 [(0, (.s 53))])⟩, ⟨none, (some 55), (.app 1 (.s 52) (.s 54))⟩, ⟨none, none, (.st 1 (.s 8) (.s 55))⟩]))))))))) (.seq (.reg [⟨none, (some 56), (.ld none (.s 8))⟩, ⟨none, none, (.st 1 (.s 6) (.s 56))⟩, ⟨none, none, (.st 1 (.s 7) (.c (.lit (.bool true))))⟩]) .ret)))))⟩ := by kernel_rfl
set_option maxHeartbeats 4000000 in
theorem sweep_z (k : Nat) (a b c af : Int) (fl lo l : List Int) {sv : MV} (hs : SlI sv l) (ha : 0 ≤ a ∧ a ≤ 1000) (hb : 0 ≤ b ∧ b ≤ 1000) (hc : 0 ≤ c ∧ c ≤ 1000) (hf : fl.length ≤ 100000) (hll : l.length ≤ 100000) (hl : lo.length ≤ 100000) :
    runZ MT (orA (k + 5)) (itA (k + 5)) 1000000 132 [encS a b c fl lo, sv, I64 af] [] = some (sweepM (sweepF c af lo (-1) (wins ⟨a, b, c, fl, lo⟩ l)), sweepN (sweepF c af lo (-1) (wins ⟨a, b, c, fl, lo⟩ l))) := by
  have hl1 : (MV.sl (lo.map I64)).slen = some lo.length := by simp [MV.slen]
  have hwl := wins_len ⟨a, b, c, fl, lo⟩ l
  have hmem : ∀ w ∈ wins ⟨a, b, c, fl, lo⟩ l, 0 ≤ w ∧ w ≤ 1000 := fun w hw => by have := (wins_mem.1 hw).1; simp only at this; omega
  have hit := fun h => windows1_it k a b c fl lo l h hs ha hb hc hf hll
  have hwc := fun h => windows_c (k + 4) a b c fl lo l h hs
  obtain ⟨c1, c2⟩ := hc
  generalize wins ⟨a, b, c, fl, lo⟩ l = ws at *
  simp only at hwl
  refine runZ_of mf_sweep (by simp) ?_
  simp only [argsL]
  repeat (first | apply ef_seq | (apply ef_mv; exact rfl; exact rfl) | (apply ef_ldp; exact rfl; exact rfl; exact rfl; exact rfl; (exact rfl); (exact rd_5 rfl rfl rfl rfl rfl)) | (apply ef_box; exact rfl; exact rfl; exact rfl; exact rfl) | (apply ef_new; exact rfl) | (apply ef_st; exact rfl; exact rfl; exact rfl; exact rfl; exact rfl; exact rfl; (exact rfl); exact rfl) | apply ef_nil | apply seqQ.normal | apply ef_block | (apply ef_call; exact rfl; ((repeat (apply XVs.cons; exact rfl)); exact XVs.nil); (with_reducible exact hwc _)))
  refine ef_rf (α := Int × List Int × MHeap) (ids := []) (fun i s => sweepF c af lo (-1) ws = (sweepF c af lo s.1 (ws.drop i)).map (s.2.1 ++ ·) ∧ s.2.1.length ≤ i) [(9, .ptr 5 0 0 0), (3, .ptr 0 0 0 0), (5, .ptr 1 0 0 0), (6, .ptr 2 0 0 0), (7, .ptr 3 0 0 0), (8, .ptr 4 0 0 0)]
    (fun s => swpH (encS a b c fl lo) af s.2.1 s.1 s.2.2) (fun s => swpH (encS a b c fl lo) af s.2.1 s.1 s.2.2) (-1, [], []) (by exact rfl) (hit _) (by simp [winsY]) (idsL_lt0 (by simp [ltL, MV.lt, ltL_I, hs.lt])) (by ((repeat (refine Hold.cons (by exact rfl) ?_)); exact Hold.nil)) rfl rfl rfl ⟨by cases hh : sweepF c af lo (-1) ws <;> simp [hh], by simp⟩ rfl ?_ ?_ ?_
  · rintro i ⟨t, out, G⟩ _
    cases out with
    | nil => exact .all (by simp [swpH, outH])
    | cons w r => exact .cell (by simp [swpH, hltL, ltL, MV.lt, outV, ltL_I])
  · rintro i ⟨t, out, G⟩ x hx ⟨hz, hol⟩
    simp only at hz hol ⊢
    obtain ⟨w, hw, rfl⟩ : ∃ w, ws[i]? = some w ∧ x = [I64 w] := by
      simp only [winsY, List.getElem?_map, Option.map_eq_some_iff] at hx
      obtain ⟨w, h1, h2⟩ := hx
      exact ⟨w, h1, h2.symm⟩
    have hi := (List.getElem?_eq_some_iff.1 hw).1
    have hwi : ws[i] = w := (List.getElem?_eq_some_iff.1 hw).2
    obtain ⟨w1, w2⟩ := hmem w (by rw [← hwi]; exact List.getElem_mem hi)
    have HD := Lib.hid (show ws.drop i = w :: ws.drop (i + 1) by rw [drop_at ws i hi, hwi])
    have HZ := Lib.hid hz
    have hi3 : i ≤ 1000 := by omega
    clear hz hx hw hwi hit hwc hmem hwl
    simp only [putA]
    have hwt := fun t' (ht : inB t (w + 1) (w + c) = t') h => within_c (k + 4) t (w + 1) (w + c) h ht
    obtain ⟨tt, hT⟩ : ∃ tt, inB t (w + 1) (w + c) = tt := ⟨_, rfl⟩
    have hwt := hwt _ hT
    have HT := Lib.hid (show inW c w t = tt from hT)
    clear hT
    simp only [swpH]
    repeat (first | (apply ef_mv; exact rfl; exact rfl) | apply ef_nil)
    apply preQ.normal
    cases tt
    · repeat (first | apply ef_seq | (apply ef_mv; exact rfl; exact rfl) | (apply ef_bin; exact rfl; exact rfl; exact rfl; (((with_reducible refine bin_add (wrap_of ?_ ?_)) <;> omega))) | (apply ef_len; exact rfl; exact rfl; (assumption)) | (apply ef_ldp; exact rfl; exact rfl; exact rfl; exact rfl; (exact rfl); (exact rfl)) | (apply ef_fap; exact rfl; exact rfl) | (apply ef_st; exact rfl; exact rfl; exact rfl; exact rfl; exact rfl; exact rfl; (exact rfl); exact rfl) | apply ef_nil | apply seqQ.normal | apply ef_block | apply ef_skip | (apply ef_condf; exact rfl; (exact (rfl : false = false))) | (apply ef_call; exact rfl; ((repeat (apply XVs.cons; exact rfl)); exact XVs.nil); (with_reducible exact hwt _)))
      have hb0 : -1000000 ≤ w ∧ w + c ≤ 1000000 := by omega
      refine ef_loopf (α := Nat × Int) (fun s => s.1 ≤ lo.length ∧ s.2 = lastIn (cand c af w) (lo.take s.1) (-1)) (fun s => [(30, I64 (s.1 : Int))]) [(29, _), (28, _), (5, _), (10, _), (3, _), (9, _), (6, _), (7, _), (8, _)] (fun s => swpH (encS a b c fl lo) af out s.2 G) (fun s => lo.length - s.1) (0, -1) [30] (fun _ => rfl) (by ((repeat (refine Hold.cons (by exact rfl) ?_)); exact Hold.nil)) (by ((repeat (refine Hold.cons (by exact rfl) ?_)); exact Hold.nil)) rfl rfl ⟨by simp, rfl⟩ (by simp; omega) ?_
      rintro ⟨j, u⟩ ⟨hj, hu⟩
      simp only at hj hu ⊢
      simp only [swpH]
      by_cases hjl : j < lo.length
      · have e1 := at_map I64 lo j hjl
        have HU := Lib.hid (show lastIn (cand c af w) (lo.take (j + 1)) (-1) = if cand c af w lo[j] then lo[j] else u by rw [hu, List.take_add_one, lastIn_app, List.getElem?_eq_getElem hjl]; rfl)
        clear hu
        generalize lo[j] = n at e1 HU
        have hwn := fun t' (ht : inB n (w + 1) (w + c) = t') h => within_c (k + 4) n (w + 1) (w + c) h ht
        by_cases h1 : af < n
        · obtain ⟨tn, hT⟩ : ∃ tn, inB n (w + 1) (w + c) = tn := ⟨_, rfl⟩
          have hwn := hwn _ hT
          have HC := Lib.hid (show cand c af w n = tn by simp only [cand, inW, hT]; simp [h1])
          clear hT
          cases tn
          · repeat (first | apply ef_seq | (apply ef_mv; exact rfl; exact rfl) | (apply ef_bin; exact rfl; exact rfl; exact rfl; (first | exact cmp_t rfl (by first | exact rfl | (simp only [cmpP]; omega)) | ((with_reducible refine bin_add (wrap_of ?_ ?_)) <;> omega))) | (apply ef_gy; exact rfl; (exact (rfl : true = true))) | (apply ef_pick; exact rfl; exact rfl; exact rfl) | (apply ef_ldr; exact rfl; exact rfl; (exact rfl)) | (apply ef_ldp; exact rfl; exact rfl; exact rfl; exact rfl; (exact rfl); (exact rfl)) | (apply ef_ias; exact rfl; exact rfl; exact rfl; (omega); assumption; exact rfl) | (apply ef_fap; exact rfl; exact rfl) | apply ef_nil | apply seqQ.normal | apply blockQ.normal | apply ef_block | apply ef_skip | (apply ef_condt; exact rfl; (exact (rfl : true = true))) | (apply ef_condf; exact rfl; (exact (rfl : false = false))) | (apply ef_call; exact rfl; ((repeat (apply XVs.cons; exact rfl)); exact XVs.nil); (with_reducible exact hwn _)))
            (refine loopQ.normal _ _ ⟨(j + 1, u), ⟨hjl, by rw [HU.out, HC.out]; simp⟩, (by first | (simp only; omega) | omega), ⟨by ((repeat (refine Hold.cons (by exact rfl) ?_)); exact Hold.nil), by ((repeat (refine Hold.cons (by exact rfl) ?_)); exact Hold.nil)⟩, .inl (Nat.le_refl _), (by first | exact List.take_length | exact rfl | exact takeF rfl rfl)⟩)
          · repeat (first | apply ef_seq | (apply ef_mv; exact rfl; exact rfl) | (apply ef_bin; exact rfl; exact rfl; exact rfl; (first | exact cmp_t rfl (by first | exact rfl | (simp only [cmpP]; omega)) | ((with_reducible refine bin_add (wrap_of ?_ ?_)) <;> omega))) | (apply ef_gy; exact rfl; (exact (rfl : true = true))) | (apply ef_pick; exact rfl; exact rfl; exact rfl) | (apply ef_ldr; exact rfl; exact rfl; (exact rfl)) | (apply ef_ldp; exact rfl; exact rfl; exact rfl; exact rfl; (exact rfl); (exact rfl)) | (apply ef_ias; exact rfl; exact rfl; exact rfl; (omega); assumption; exact rfl) | (apply ef_fap; exact rfl; exact rfl) | (apply ef_st; exact rfl; exact rfl; exact rfl; exact rfl; exact rfl; exact rfl; (exact rfl); exact rfl) | apply ef_nil | apply seqQ.normal | apply blockQ.normal | apply ef_block | apply ef_skip | (apply ef_condt; exact rfl; (exact (rfl : true = true))) | (apply ef_call; exact rfl; ((repeat (apply XVs.cons; exact rfl)); exact XVs.nil); (with_reducible exact hwn _)))
            (refine loopQ.normal _ _ ⟨(j + 1, n), ⟨hjl, by rw [HU.out, HC.out]; simp⟩, (by first | (simp only; omega) | omega), ⟨by ((repeat (refine Hold.cons (by exact rfl) ?_)); exact Hold.nil), by ((repeat (refine Hold.cons (by exact rfl) ?_)); exact Hold.nil)⟩, .inl (Nat.le_refl _), (by first | exact List.take_length | exact rfl | exact takeF rfl rfl)⟩)
        · have HC := Lib.hid (show cand c af w n = false by simp [cand, h1])
          repeat (first | apply ef_seq | (apply ef_mv; exact rfl; exact rfl) | (apply ef_bin; exact rfl; exact rfl; exact rfl; (first | exact cmp_t rfl (by first | exact rfl | (simp only [cmpP]; omega)) | exact cmp_f rfl (by simp only [cmpP]; omega) | ((with_reducible refine bin_add (wrap_of ?_ ?_)) <;> omega))) | (apply ef_gn; exact rfl; (exact (rfl : false = false)); exact rfl) | (apply ef_pick; exact rfl; exact rfl; exact rfl) | (apply ef_ldr; exact rfl; exact rfl; (exact rfl)) | (apply ef_ldp; exact rfl; exact rfl; exact rfl; exact rfl; (exact rfl); (exact rfl)) | (apply ef_ias; exact rfl; exact rfl; exact rfl; (omega); assumption; exact rfl) | apply ef_nil | apply seqQ.normal | apply blockQ.normal | apply ef_block | apply ef_skip | (apply ef_condt; exact rfl; (exact (rfl : true = true))) | (apply ef_condf; exact rfl; (exact (rfl : false = false))))
          (refine loopQ.normal _ _ ⟨(j + 1, u), ⟨hjl, by rw [HU.out, HC.out]; simp⟩, (by first | (simp only; omega) | omega), ⟨by ((repeat (refine Hold.cons (by exact rfl) ?_)); exact Hold.nil), by ((repeat (refine Hold.cons (by exact rfl) ?_)); exact Hold.nil)⟩, .inl (Nat.le_refl _), (by first | exact List.take_length | exact rfl | exact takeF rfl rfl)⟩)
      · rw [List.take_of_length_le (by omega)] at hu
        have HU := Lib.hid hu
        clear hu
        by_cases hu0 : u < 0
        · repeat (first | apply ef_seq | (apply ef_bin; exact rfl; exact rfl; exact rfl; (first | exact cmp_t rfl (by first | exact rfl | (simp only [cmpP]; omega)) | exact cmp_f rfl (by simp only [cmpP]; omega))) | (apply ef_ldp; exact rfl; exact rfl; exact rfl; exact rfl; (exact rfl); (exact rfl)) | (apply ef_st; exact rfl; exact rfl; exact rfl; exact rfl; exact rfl; exact rfl; (exact rfl); exact rfl) | apply ef_nil | apply seqQ.normal | apply loopQ.exit | apply ef_ret | apply seqQ.ret | apply ef_exit | apply seqQ.exit | apply blockQ.ret | apply blockQ.here | (apply ef_condt; exact rfl; (exact (rfl : true = true))) | (apply ef_condf; exact rfl; (exact (rfl : false = false))))
          apply rfQ.ret
          repeat (first | apply seqQ.ret | apply blockQ.ret)
          rw [show sweepF c af lo (-1) ws = none by rw [HZ.out, HD.out]; simp only [sweepF, HT.out]; rw [← HU.out]; simp [hu0]]
          (apply fin_cells0; (· exact rfl); (· exact rfl); (· exact rfl); (· exact rfl); (· exact rfl); (· exact rfl); (· exact rfl); (· exact rfl); (· exact rfl); (· exact rfl))
        · have HS := Lib.hid (show sweepF c af lo (-1) ws = (sweepF c af lo u (ws.drop (i + 1))).map ((out ++ [w]) ++ ·) by rw [HZ.out, HD.out]; simp only [sweepF, HT.out]; rw [← HU.out]; simp [hu0]; rfl)
          cases out with
          | nil =>
            simp only [outH, outV]
            repeat (first | apply ef_seq | (apply ef_mv; exact rfl; exact rfl) | (apply ef_bin; exact rfl; exact rfl; exact rfl; (exact cmp_f rfl (by simp only [cmpP]; omega))) | (apply ef_ldp; exact rfl; exact rfl; exact rfl; exact rfl; (exact rfl); (exact rfl)) | (apply ef_bsl; exact rfl; (repeat (apply XVs.cons; exact rfl)); exact XVs.nil; exact rfl) | apply ef_nil | apply seqQ.normal | apply loopQ.exit | apply ef_exit | apply seqQ.exit | apply blockQ.here | apply ef_skip | (apply ef_condf; exact rfl; (exact (rfl : false = false))))
            (apply ef_appn; (· exact rfl); (· exact rfl); (· exact rfl); (· exact elems_end rfl rfl rfl rfl); (· simp); (· rfl))
            repeat (first | (apply ef_st; exact rfl; exact rfl; exact rfl; exact rfl; exact rfl; exact rfl; (exact rfl); exact rfl) | apply ef_nil | apply blockQ.normal)
            apply rfQ.normal
            exact ⟨(u, [w], []), ⟨HS.out, by simp⟩, rfl⟩
          | cons w0 r =>
            simp only [outH, outV]
            simp only [List.length_cons] at hol
            repeat (first | apply ef_seq | (apply ef_mv; exact rfl; exact rfl) | (apply ef_bin; exact rfl; exact rfl; exact rfl; (exact cmp_f rfl (by simp only [cmpP]; omega))) | (apply ef_ldp; exact rfl; exact rfl; exact rfl; exact rfl; (exact rfl); (exact rfl)) | (apply ef_bsl; exact rfl; (repeat (apply XVs.cons; exact rfl)); exact XVs.nil; exact rfl) | apply ef_nil | apply seqQ.normal | apply loopQ.exit | apply ef_exit | apply seqQ.exit | apply blockQ.here | apply ef_skip | (apply ef_condf; exact rfl; (exact (rfl : false = false))))
            (apply ef_app; (· exact rfl); (· exact rfl); (· exact rfl); (· exact elems_end rfl rfl rfl rfl); (· exact rfl); (· exact rfl); (· simp); (· exact rfl); (· simp; omega); (· rfl); (· rfl))
            repeat (first | (apply ef_st; exact rfl; exact rfl; exact rfl; exact rfl; exact rfl; exact rfl; (exact rfl); exact rfl) | apply ef_nil | apply blockQ.normal)
            apply rfQ.normal
            refine ⟨(u, w0 :: (r ++ [w]), G ++ [⟨0, false, 1, [I64 w]⟩]), ⟨HS.out, by simp; omega⟩, ?_⟩
            simp [swpH, outH, outV]
    · repeat (first | apply ef_seq | (apply ef_mv; exact rfl; exact rfl) | (apply ef_bin; exact rfl; exact rfl; exact rfl; (((with_reducible refine bin_add (wrap_of ?_ ?_)) <;> omega))) | (apply ef_ldp; exact rfl; exact rfl; exact rfl; exact rfl; (exact rfl); (exact rfl)) | (apply ef_fap; exact rfl; exact rfl) | apply ef_nil | apply seqQ.normal | apply ef_exit | apply seqQ.exit | apply blockQ.here | apply ef_block | (apply ef_condt; exact rfl; (exact (rfl : true = true))) | (apply ef_call; exact rfl; ((repeat (apply XVs.cons; exact rfl)); exact XVs.nil); (with_reducible exact hwt _)))
      apply rfQ.normal
      exact ⟨(t, out, G), ⟨by rw [HZ.out, HD.out]; simp only [sweepF, HT.out, if_true], by simp only; omega⟩, rfl⟩
  · rintro ⟨t, out, G⟩ ⟨hz, hol⟩
    simp only at hz hol ⊢
    rw [show (winsY ws).length = ws.length by simp [winsY], List.drop_length] at hz
    simp only [sweepF, Option.map_some, List.append_nil] at hz
    rw [hz]
    simp only [swpH]
    clear hz
    cases out with
    | nil =>
      simp only [outH, outV]
      repeat (first | apply ef_seq | (apply ef_ldp; exact rfl; exact rfl; exact rfl; exact rfl; (exact rfl); (exact rfl)) | (apply ef_st; exact rfl; exact rfl; exact rfl; exact rfl; exact rfl; exact rfl; (exact rfl); exact rfl) | apply ef_nil | apply seqQ.normal | apply ef_ret | apply blockQ.normal)
      (apply fin_cells0; (· exact rfl); (· exact rfl); (· exact rfl); (· exact rfl); (· exact rfl); (· exact rfl); (· exact rfl); (· exact rfl); (· exact rfl); (· exact rfl))
    | cons w0 r =>
      simp only [outH, outV]
      repeat (first | apply ef_seq | (apply ef_ldp; exact rfl; exact rfl; exact rfl; exact rfl; (exact rfl); (exact rfl)) | (apply ef_st; exact rfl; exact rfl; exact rfl; exact rfl; exact rfl; exact rfl; (exact rfl); exact rfl) | apply ef_nil | apply seqQ.normal | apply ef_ret | apply blockQ.normal)
      (apply fin_cells; (· exact rfl); (· exact rfl); (· exact rfl); (· exact rfl); (· exact rfl); (· exact rfl); (· exact rfl); (· exact rfl); (· exact rfl); (· simp); (· exact rfl); (· exact rfl); (· simp); (· exact ltL_I 0 (w0 :: r)); (· exact rfl); (· exact rfl); (· exact rfl))
end Go.Proofs.Ytgjpdjihjphbdaa
