/- Contracts of the reference: the infill; which infills and packings are accepted. -/
import Derived.Test.YtgjpdjihjphbdaaSp9
namespace Go.Proofs.Ytgjpdjihjphbdaa
open Go.RowKit

/-- What the reference's Infill hands back. -/
def rinfM : Option (List Int) → MV
  | some l => .tup [.arr 0 0 l.length 0, Bo true]
  | none => .tup [.arr 0 0 0 0, Bo false]
theorem at_end (H : MHeap) (c : MObj) : (H ++ [c])[H.length]? = some c := by simp
theorem set_end (H : MHeap) (c : MObj) (xs : List Int) (n : Int) (es : List MV) (he : es = (xs ++ [n]).map I64) : (H ++ [c]).set H.length ⟨0 + 1, false, 1, es⟩ = H ++ [⟨1, false, 1, (xs ++ [n]).map I64⟩] := by
  subst he
  simp [List.set_append]
abbrev rinB (a b c : Int) (fl lo : List Int) : MHeap := [⟨0, false, 5, [encS a b c fl lo]⟩, ⟨0, true, 1, []⟩, ⟨0, true, 1, []⟩]
theorem mf_rInfill : MT.mf 69 = some ⟨59, [(.tmp 2), (.tmp 3)], (.seq (.reg [⟨none, (some 1), (.box 5 (.s 0))⟩, ⟨none, (some 2), (.nil0 1)⟩, ⟨none, (some 3), (.mv (.c (.lit (.bool false))))⟩]) (.seq (.reg [⟨none, (some 12), (.ld (some 5) (.s 1))⟩, ⟨none, (some 13), (.call 141 [(.s 12), (.c (.lit (.slice none 0 0))), (.c (.lit (.int .i64 0)))])⟩, ⟨none, (some 11), (.mv (.s 13))⟩, ⟨none, (some 14), (.ext (.s 11) 0)⟩, ⟨none, (some 15), (.ext (.s 11) 1)⟩, ⟨none, (some 4), (.mv (.s 14))⟩, ⟨none, (some 5), (.mv (.s 15))⟩]) (.seq (.seq (.reg [⟨none, (some 16), (.mv (.s 5))⟩, ⟨none, (some 17), (.un .not (.s 16))⟩]) (.cond (.s 17) (.seq (.reg [⟨none, (some 2), (.nil0 1)⟩, ⟨none, (some 3), (.mv (.c (.lit (.bool false))))⟩]) .ret) .skip)) (.seq (.reg [⟨none, (some 6), (.nil0 1)⟩]) (.seq (.seq (.reg [⟨none, (some 7), (.mv (.c (.lit (.int .i64 0))))⟩]) (.block 0 (.loop [7, 1, 6, 4] (.seq (.seq (.reg [⟨none, (some 18), (.mv (.s 7))⟩, ⟨none, (some 19), (.fa 4 (.s 1))⟩, ⟨none, (some 20), (.ld none (.s 19))⟩, ⟨none, (some 21), (.len (.s 20))⟩, ⟨none, (some 22), (.bin .lss (.s 18) (.s 21))⟩, ⟨none, (some 23), (.mv (.s 22))⟩, ⟨(some (23, true)), (some 24), (.mv (.s 6))⟩, ⟨(some (23, true)), (some 25), (.len (.s 24))⟩, ⟨(some (23, true)), (some 26), (.mv (.s 4))⟩, ⟨(some (23, true)), (some 27), (.bin .lss (.s 25) (.s 26))⟩, ⟨none, (some 28), (.pick (.s 23) (.s 27) (.c (.lit (.bool false))))⟩]) (.cond (.s 28) .skip (.exit 0))) (.seq (.block 1 (.seq (.reg [⟨none, (some 31), (.mv (.s 6))⟩, ⟨none, (some 32), (.call 64 [(.s 31)])⟩, ⟨none, (some 33), (.fa 4 (.s 1))⟩, ⟨none, (some 34), (.ld none (.s 33))⟩, ⟨none, (some 35), (.mv (.s 7))⟩, ⟨none, (some 36), (.ia 1 (.s 34) (.s 35))⟩, ⟨none, (some 37), (.ld none (.s 36))⟩, ⟨none, (some 38), (.vsl (.lit (.int .i64 0)) 1 1 [(0, (.s 37))])⟩, ⟨none, (some 39), (.app 1 (.s 32) (.s 38))⟩, ⟨none, (some 8), (.mv (.s 39))⟩]) (.seq (.reg [⟨none, (some 41), (.ld (some 5) (.s 1))⟩, ⟨none, (some 42), (.mv (.s 8))⟩, ⟨none, (some 43), (.mv (.s 7))⟩, ⟨none, (some 44), (.bin .add (.s 43) (.c (.lit (.int .i64 1))))⟩, ⟨none, (some 45), (.call 141 [(.s 41), (.s 42), (.s 44)])⟩, ⟨none, (some 40), (.mv (.s 45))⟩, ⟨none, (some 46), (.ext (.s 40) 0)⟩, ⟨none, (some 47), (.ext (.s 40) 1)⟩, ⟨none, (some 9), (.mv (.s 46))⟩, ⟨none, (some 10), (.mv (.s 47))⟩]) (.seq (.reg [⟨none, (some 48), (.mv (.s 10))⟩, ⟨none, (some 49), (.mv (.s 48))⟩, ⟨(some (49, true)), (some 50), (.mv (.s 8))⟩, ⟨(some (49, true)), (some 51), (.len (.s 50))⟩, ⟨(some (49, true)), (some 52), (.mv (.s 9))⟩, ⟨(some (49, true)), (some 53), (.bin .add (.s 51) (.s 52))⟩, ⟨(some (49, true)), (some 54), (.mv (.s 4))⟩, ⟨(some (49, true)), (some 55), (.bin .leq (.s 53) (.s 54))⟩, ⟨none, (some 56), (.pick (.s 49) (.s 55) (.c (.lit (.bool false))))⟩]) (.cond (.s 56) (.reg [⟨none, (some 57), (.mv (.s 8))⟩, ⟨none, (some 6), (.mv (.s 57))⟩]) .skip))))) (.reg [⟨none, (some 29), (.mv (.s 7))⟩, ⟨none, (some 30), (.bin .add (.s 29) (.c (.lit (.int .i64 1))))⟩, ⟨none, (some 7), (.mv (.s 30))⟩])))))) (.seq (.reg [⟨none, (some 58), (.mv (.s 6))⟩, ⟨none, (some 2), (.mv (.s 58))⟩, ⟨none, (some 3), (.mv (.c (.lit (.bool true))))⟩]) .ret))))))⟩ := by kernel_rfl
set_option maxHeartbeats 4000000 in
theorem rInfill_z (k : Nat) (a b c : Int) (fl lo : List Int) (hok : OkS a b c fl lo) : runZ MT (orA (k + 3)) (itA (k + 3)) 1000000 69 [encS a b c fl lo] [] = some (rinfM (infillF ⟨a, b, c, fl, lo⟩), infillN (infillF ⟨a, b, c, fl, lo⟩)) := by
  have hg := hok.good
  obtain ⟨ha, hb, hc, hab, hf, hl, -, -, -, -, hall⟩ := hok
  have hc' : 0 ≤ c ∧ c ≤ 1000 := by omega
  have hfe0 := fun h => rFewest_c k a b c fl lo [] 0 h (v := .lit (.slice none 0 0)) (wv := .lit (.slice none 0 0)) ha hb hc' (by omega) (by omega) (by simp) (by omega) rfl .nil (n := 0) rfl
  have hall0 := few_all (s := ⟨a, b, c, fl, lo⟩) hg ha.1 (by simp only; omega)
  simp only [List.drop_zero] at hfe0
  simp only at hall0
  rw [hall0] at hfe0
  have hsl : (MV.sl (lo.map I64)).slen = some lo.length := by simp [MV.slen]
  refine runZ_of mf_rInfill (by simp) ?_
  simp only [argsL]
  cases hp : packF ⟨a, b, c, fl, lo⟩ with
  | none =>
    rw [hp] at hfe0
    simp only [Option.map_none, fewM] at hfe0
    have HI := Lib.hid (show infillF ⟨a, b, c, fl, lo⟩ = none by simp [infillF, hp])
    repeat (first | apply ef_seq | (apply ef_mv; exact rfl; exact rfl) | (apply ef_ldp; exact rfl; exact rfl; exact rfl; exact rfl; (exact rfl); (exact rd_5 rfl rfl rfl rfl rfl)) | (apply ef_notF; exact rfl; exact rfl) | (apply ef_ext; exact rfl; exact rfl; exact rfl) | (apply ef_box; exact rfl; exact rfl; exact rfl; exact rfl) | (apply ef_nil0; exact rfl) | apply ef_nil | apply seqQ.normal | apply ef_ret | apply seqQ.ret | (apply ef_condt; exact rfl; (exact (rfl : true = true))) | (apply ef_call; exact rfl; ((repeat (apply XVs.cons; exact rfl)); exact XVs.nil); (with_reducible exact hfe0 _)))
    rw [HI.out]
    (apply fin_al; (· exact rfl); (· exact rfl); (· exact rfl); (· exact rfl); (· exact rfl); (· exact rfl); (· exact rfl); (· exact rfl); (· exact rfl); (· exact rfl))
  | some p =>
    rw [hp] at hfe0
    simp only [Option.map_some, fewM] at hfe0
    obtain ⟨m, hm⟩ : ∃ m, p.length = m := ⟨_, rfl⟩
    rw [hm] at hfe0
    have hm1 : m ≤ 1000 := by
      have h1 := sweepF_len (show sweepF c (-1) lo (-1) (wins ⟨a, b, c, fl, lo⟩ []) = some p from hp)
      have h2 := wins_len ⟨a, b, c, fl, lo⟩ []
      simp only at h2
      omega
    have HI := Lib.hid (show infillF ⟨a, b, c, fl, lo⟩ = some (rinfF ⟨a, b, c, fl, lo⟩ m 0 lo []) by
      rw [rinf_inf (s := ⟨a, b, c, fl, lo⟩) hg ha.1 (by simp only; omega) lo 0 [] rfl (by simp)]
      simp [infillF, hp, hm])
    clear hall0 hp hm
    repeat (first | apply ef_seq | (apply ef_mv; exact rfl; exact rfl) | (apply ef_ldp; exact rfl; exact rfl; exact rfl; exact rfl; (exact rfl); (exact rd_5 rfl rfl rfl rfl rfl)) | (apply ef_notT; exact rfl; exact rfl) | (apply ef_ext; exact rfl; exact rfl; exact rfl) | (apply ef_box; exact rfl; exact rfl; exact rfl; exact rfl) | (apply ef_nil0; exact rfl) | apply ef_nil | apply seqQ.normal | apply ef_block | apply ef_skip | (apply ef_condf; exact rfl; (exact (rfl : false = false))) | (apply ef_call; exact rfl; ((repeat (apply XVs.cons; exact rfl)); exact XVs.nil); (with_reducible exact hfe0 _)))
    rw [HI.out]
    clear hfe0 HI
    refine ef_loopg (α := Nat × List Int × Nat × Nat × MHeap)
      (fun s => s.1 ≤ lo.length ∧ rinfF ⟨a, b, c, fl, lo⟩ m 0 lo [] = rinfF ⟨a, b, c, fl, lo⟩ m s.1 (lo.drop s.1) s.2.1 ∧ s.2.1.length ≤ s.1 ∧ (rinB a b c fl lo ++ s.2.2.2.2)[s.2.2.1]? = some ⟨s.2.2.2.1, s.2.1.isEmpty, 1, s.2.1.map I64⟩ ∧ ((s.2.1 = [] ∧ s.2.2.1 = 2 ∧ s.2.2.2.1 = 0 ∧ s.2.2.2.2 = []) ∨ (s.2.1 ≠ [] ∧ 3 ≤ s.2.2.1)))
      (fun s => [(7, I64 (s.1 : Int)), (6, .arr s.2.2.1 0 s.2.1.length s.2.2.2.1)]) [(1, _), (4, _)] (fun s => rinB a b c fl lo ++ s.2.2.2.2) (fun s => lo.length - s.1) (0, [], 2, 0, []) [7, 6] (fun _ => rfl) (by ((repeat (refine Hold.cons (by exact rfl) ?_)); exact Hold.nil)) (by ((repeat (refine Hold.cons (by exact rfl) ?_)); exact Hold.nil)) rfl rfl rfl ⟨by simp, rfl, by simp, rfl, .inl ⟨rfl, rfl, rfl, rfl⟩⟩ (by simp; omega) ?_
    rintro ⟨i, out, id, g, G⟩ ⟨hi, hz, hol, hobj, hd⟩
    simp only at hi hz hol hobj hd ⊢
    have HZ := Lib.hid hz
    clear hz
    by_cases hlt : i < lo.length
    · have e1 := at_map I64 lo i hlt
      have HD := Lib.hid (drop_at lo i hlt)
      generalize lo[i] = n at e1 HD
      by_cases hmo : out.length < m
      · have hfz0 : frz 0 [] (rinB a b c fl lo ++ G) 8 (.arr id 0 out.length g) = some (.sl (out.map I64)) := frz_arr (o := ⟨g, out.isEmpty, 1, out.map I64⟩) hobj rfl (by simp) (ltL_I 0 _) (by rw [List.drop_zero, List.take_of_length_le (by simp)])
        have hcl := bCopyInts_c (k + 2) out (rinB a b c fl lo ++ G) (v := .arr id 0 out.length g) (by omega) hfz0
        obtain ⟨r, hr⟩ : ∃ r, fewF c fl (lo.drop (i + 1)) (out ++ [n]) (rngs ⟨a, b, c, fl, lo⟩) = r := ⟨_, rfl⟩
        have hfe := fun h v nn hn (hv : frz 0 [] h 8 v = some (.sl ((out ++ [n]).map I64))) => rFewest_c k a b c fl lo (out ++ [n]) (i + 1) h (v := v) (n := nn) ha hb hc' (by omega) (by omega) (by simp; omega) (by omega) hv (.sl (out ++ [n])) hn
        rw [hr] at hfe
        have HR := Lib.hid hr
        repeat (first | apply ef_seq | (apply ef_mv; exact rfl; exact rfl) | (apply ef_bin; exact rfl; exact rfl; exact rfl; (exact cmp_t rfl (by first | exact rfl | (simp only [cmpP]; omega)))) | (apply ef_gy; exact rfl; (exact (rfl : true = true))) | (apply ef_pick; exact rfl; exact rfl; exact rfl) | (apply ef_len; exact rfl; exact rfl; (first | assumption | exact rfl)) | (apply ef_ldp; exact rfl; exact rfl; exact rfl; exact rfl; (exact rfl); (exact rfl)) | (apply ef_fap; exact rfl; exact rfl) | apply ef_nil | apply seqQ.normal | apply ef_block | apply ef_skip | (apply ef_condt; exact rfl; (exact (rfl : true = true))))
        (apply ef_call; (· exact rfl); (· ((repeat (apply XVs.cons; exact rfl)); exact XVs.nil)); · exact hcl)
        repeat (first | (apply ef_mv; exact rfl; exact rfl) | (apply ef_ldr; exact rfl; exact rfl; (exact rfl)) | (apply ef_ldp; exact rfl; exact rfl; exact rfl; exact rfl; (exact rfl); (exact rfl)) | (apply ef_ias; exact rfl; exact rfl; exact rfl; (omega); assumption; exact rfl) | (apply ef_fap; exact rfl; exact rfl) | (apply ef_vsl; exact rfl; (repeat (apply XVs.cons; exact rfl)); exact XVs.nil; exact rfl))
        (apply ef_app; (· exact rfl); (· exact rfl); (· exact rfl); (· exact rfl); (· exact at_end _ _); (· exact rfl); (· simp); (· exact rfl); (· simp; omega); (· rfl); (· rfl))
        rw [set_end _ _ out n _ (by simp)]
        rw [show out.length + (I64 n :: List.replicate 0 (MV.lit (Value.int IntKind.i64 0))).length = out.length + 1 from rfl]
        repeat (first | apply ef_seq | (apply ef_mv; exact rfl; exact rfl) | (apply ef_bin; exact rfl; exact rfl; exact rfl; (((with_reducible refine bin_add (wrap_of ?_ ?_)) <;> omega))) | (apply ef_ldp; exact rfl; exact rfl; exact rfl; exact rfl; (exact rfl); (exact rd_5 rfl rfl rfl rfl rfl)) | apply ef_nil | apply seqQ.normal)
        have hfz : frz 0 [] (rinB a b c fl lo ++ G ++ [⟨1, false, 1, (out ++ [n]).map I64⟩]) 8 (.arr (rinB a b c fl lo ++ G).length 0 (out.length + 1) 1) = some (.sl ((out ++ [n]).map I64)) :=
          frz_arr (o := ⟨1, false, 1, (out ++ [n]).map I64⟩) (by simp) rfl (by simp) (ltL_I 0 _) (by rw [List.drop_zero, List.take_of_length_le (by simp)])
        have hcall := hfe _ _ ((i : Int) + 1) (by omega) hfz
        have hH3 : 3 ≤ (rinB a b c fl lo ++ G).length := by simp
        have hlt2 : MV.lt 3 (.arr (rinB a b c fl lo ++ G).length 0 (out.length + 1) 1) = false := by simp only [MV.lt, decide_eq_false_iff_not]; omega
        have hidlt : 3 ≤ id → MV.lt 3 (.arr id 0 out.length g) = false := fun h => by simp only [MV.lt, decide_eq_false_iff_not]; omega
        have hob2 : ∀ X, (rinB a b c fl lo ++ (G ++ X))[id]? = some ⟨g, out.isEmpty, 1, out.map I64⟩ := fun X => by
          rw [← List.append_assoc, List.getElem?_append_left (List.getElem?_eq_some_iff.1 hobj).1]; exact hobj
        (apply ef_call; (· exact rfl); (· ((repeat (apply XVs.cons; exact rfl)); exact XVs.nil)); · exact hcall)
        have same : (rinfF ⟨a, b, c, fl, lo⟩ m i (n :: lo.drop (i + 1)) out = rinfF ⟨a, b, c, fl, lo⟩ m (i + 1) (lo.drop (i + 1)) out) →
            rinfF ⟨a, b, c, fl, lo⟩ m 0 lo [] = rinfF ⟨a, b, c, fl, lo⟩ m (i + 1) (lo.drop (i + 1)) out := fun h => by rw [HZ.out, HD.out, h]
        cases r with
        | none =>
          simp only [fewM]
          have HN := Lib.hid (same (by simp [rinfF, hmo, HR.out]))
          clear same
          repeat (first | apply ef_seq | (apply ef_mv; exact rfl; exact rfl) | (apply ef_bin; exact rfl; exact rfl; exact rfl; (((with_reducible refine bin_add (wrap_of ?_ ?_)) <;> omega))) | (apply ef_gn; exact rfl; (exact (rfl : false = false)); exact rfl) | (apply ef_pick; exact rfl; exact rfl; exact rfl) | (apply ef_ext; exact rfl; exact rfl; exact rfl) | apply ef_nil | apply seqQ.normal | apply blockQ.normal | apply ef_skip | (apply ef_condf; exact rfl; (exact (rfl : false = false))))
          rcases hd with ⟨rfl, rfl, rfl, rfl⟩ | ⟨hne, hid⟩
          · refine loopQ.normal _ _ ⟨(i + 1, [], 2, 0, []), ⟨hlt, HN.out, by simp, rfl, .inl ⟨rfl, rfl, rfl, rfl⟩⟩, (by simp only; omega), ⟨by ((repeat (refine Hold.cons (by exact rfl) ?_)); exact Hold.nil), by ((repeat (refine Hold.cons (by exact rfl) ?_)); exact Hold.nil)⟩, ?_⟩
            exact HeadIs.cut (by ((repeat (refine hdl_cons rfl (by first | rfl | (simp [MV.lt, ltL_I])) ?_)); exact hdl_nil)) (by simp [hltL, ltL, MV.lt, ltL_I])
          · refine loopQ.normal _ _ ⟨(i + 1, out, id, g, G ++ [⟨1, false, 1, (out ++ [n]).map I64⟩]), ⟨hlt, HN.out, by simp only; omega, hob2 _, .inr ⟨hne, hid⟩⟩, (by simp only; omega), ⟨by ((repeat (refine Hold.cons (by exact rfl) ?_)); exact Hold.nil), by ((repeat (refine Hold.cons (by exact rfl) ?_)); exact Hold.nil)⟩, ?_⟩
            exact headSlot 6 _ (by decide) rfl (hidlt hid) (by simp)
        | some r =>
          simp only [fewM]
          by_cases hr0 : r ≤ 100000
          · by_cases hle : out.length + 1 + r ≤ m
            · have HN := Lib.hid (show rinfF ⟨a, b, c, fl, lo⟩ m 0 lo [] = rinfF ⟨a, b, c, fl, lo⟩ m (i + 1) (lo.drop (i + 1)) (out ++ [n]) by rw [HZ.out, HD.out]; simp [rinfF, hmo, HR.out, hle])
              clear same
              repeat (first | apply ef_seq | (apply ef_mv; exact rfl; exact rfl) | (apply ef_bin; exact rfl; exact rfl; exact rfl; (first | exact cmp_t rfl (by first | exact rfl | (simp only [cmpP]; omega)) | ((with_reducible refine bin_add (wrap_of ?_ ?_)) <;> omega))) | (apply ef_gy; exact rfl; (exact (rfl : true = true))) | (apply ef_pick; exact rfl; exact rfl; exact rfl) | (apply ef_len; exact rfl; exact rfl; (exact rfl)) | (apply ef_ext; exact rfl; exact rfl; exact rfl) | apply ef_nil | apply seqQ.normal | apply blockQ.normal | (apply ef_condt; exact rfl; (exact (rfl : true = true))))
              refine loopQ.normal _ _ ⟨(i + 1, out ++ [n], (rinB a b c fl lo ++ G).length, 1, G ++ [⟨1, false, 1, (out ++ [n]).map I64⟩]), ⟨hlt, HN.out, by simp; omega, by simp, .inr ⟨by simp, hH3⟩⟩, (by simp only; omega), ⟨by simp only [List.length_append, List.length_cons, List.length_nil]; ((repeat (refine Hold.cons (by exact rfl) ?_)); exact Hold.nil), by ((repeat (refine Hold.cons (by exact rfl) ?_)); exact Hold.nil)⟩, ?_⟩
              exact headSlot 6 _ (by decide) rfl hlt2 (by simp)
            · have HN := Lib.hid (same (by simp [rinfF, hmo, HR.out, hle]))
              clear same
              repeat (first | apply ef_seq | (apply ef_mv; exact rfl; exact rfl) | (apply ef_bin; exact rfl; exact rfl; exact rfl; (first | exact cmp_f rfl (by simp only [cmpP]; omega) | ((with_reducible refine bin_add (wrap_of ?_ ?_)) <;> omega))) | (apply ef_gy; exact rfl; (exact (rfl : true = true))) | (apply ef_pick; exact rfl; exact rfl; exact rfl) | (apply ef_len; exact rfl; exact rfl; (exact rfl)) | (apply ef_ext; exact rfl; exact rfl; exact rfl) | apply ef_nil | apply seqQ.normal | apply blockQ.normal | apply ef_skip | (apply ef_condf; exact rfl; (exact (rfl : false = false))))
              rcases hd with ⟨rfl, rfl, rfl, rfl⟩ | ⟨hne, hid⟩
              · refine loopQ.normal _ _ ⟨(i + 1, [], 2, 0, []), ⟨hlt, HN.out, by simp, rfl, .inl ⟨rfl, rfl, rfl, rfl⟩⟩, (by simp only; omega), ⟨by ((repeat (refine Hold.cons (by exact rfl) ?_)); exact Hold.nil), by ((repeat (refine Hold.cons (by exact rfl) ?_)); exact Hold.nil)⟩, ?_⟩
                exact HeadIs.cut (by ((repeat (refine hdl_cons rfl (by first | rfl | (simp [MV.lt, ltL_I])) ?_)); exact hdl_nil)) (by simp [hltL, ltL, MV.lt, ltL_I])
              · refine loopQ.normal _ _ ⟨(i + 1, out, id, g, G ++ [⟨1, false, 1, (out ++ [n]).map I64⟩]), ⟨hlt, HN.out, by simp only; omega, hob2 _, .inr ⟨hne, hid⟩⟩, (by simp only; omega), ⟨by ((repeat (refine Hold.cons (by exact rfl) ?_)); exact Hold.nil), by ((repeat (refine Hold.cons (by exact rfl) ?_)); exact Hold.nil)⟩, ?_⟩
                exact headSlot 6 _ (by decide) rfl (hidlt hid) (by simp)
          · exfalso
            have h1 := few_from (s := ⟨a, b, c, fl, lo⟩) hg ha.1 (by simp only; omega) (i := i) hlt (out ++ [n])
            simp only at h1
            rw [hr] at h1
            obtain ⟨q, hq, hq2⟩ := Option.map_eq_some_iff.1 h1.symm
            have h2 := sweepF_len hq
            have h3 := wins_len ⟨a, b, c, fl, lo⟩ (out ++ [n])
            simp only at h3
            omega
      · repeat (first | apply ef_seq | (apply ef_mv; exact rfl; exact rfl) | (apply ef_bin; exact rfl; exact rfl; exact rfl; (first | exact cmp_t rfl (by first | exact rfl | (simp only [cmpP]; omega)) | exact cmp_f rfl (by simp only [cmpP]; omega))) | (apply ef_gy; exact rfl; (exact (rfl : true = true))) | (apply ef_pick; exact rfl; exact rfl; exact rfl) | (apply ef_len; exact rfl; exact rfl; (first | assumption | exact rfl)) | (apply ef_ldp; exact rfl; exact rfl; exact rfl; exact rfl; (exact rfl); (exact rfl)) | (apply ef_fap; exact rfl; exact rfl) | apply ef_nil | apply seqQ.normal | apply loopQ.exit | apply ef_ret | apply ef_exit | apply seqQ.exit | apply blockQ.here | (apply ef_condf; exact rfl; (exact (rfl : false = false))))
        rw [HZ.out, HD.out]
        rw [show rinfF ⟨a, b, c, fl, lo⟩ m i (n :: lo.drop (i + 1)) out = out by simp [rinfF, hmo]]
        (apply fin_al; (· exact rfl); (· exact rfl); (· exact rfl); (· exact hobj); (· exact rfl); (· simp); (· exact ltL_I 0 out); (· exact rfl); (· exact rfl); (· exact rfl))
    · repeat (first | apply ef_seq | (apply ef_mv; exact rfl; exact rfl) | (apply ef_bin; exact rfl; exact rfl; exact rfl; (exact cmp_f rfl (by simp only [cmpP]; omega))) | (apply ef_gn; exact rfl; (exact (rfl : false = false)); exact rfl) | (apply ef_pick; exact rfl; exact rfl; exact rfl) | (apply ef_len; exact rfl; exact rfl; (assumption)) | (apply ef_ldp; exact rfl; exact rfl; exact rfl; exact rfl; (exact rfl); (exact rfl)) | (apply ef_fap; exact rfl; exact rfl) | apply ef_nil | apply seqQ.normal | apply loopQ.exit | apply ef_ret | apply ef_exit | apply seqQ.exit | apply blockQ.here | (apply ef_condf; exact rfl; (exact (rfl : false = false))))
      rw [HZ.out, List.drop_eq_nil_of_le (by omega)]
      (apply fin_al; (· exact rfl); (· exact rfl); (· exact rfl); (· exact hobj); (· exact rfl); (· simp [rinfF]); (· exact ltL_I 0 _); (· exact rfl); (· exact rfl); (· exact rfl))
theorem rInfill_c (k : Nat) (a b c : Int) (fl lo : List Int) (hok : OkS a b c fl lo) (h : MHeap) : orA (k + 4) 69 [encS a b c fl lo] h = some (shV h.length (rinfM (infillF ⟨a, b, c, fl, lo⟩)), h ++ infillN (infillF ⟨a, b, c, fl, lo⟩)) := by
  refine callA (k := k + 3) (args' := [encS a b c fl lo]) (frzL_lt (by simp [ltL, MV.lt, ltL_I])) rfl (rInfill_z k a b c fl lo hok) ?_ ?_
  · cases infillF ⟨a, b, c, fl, lo⟩ <;> simp [rinfM, okV, ok1, MV.lt, MV.pure]
  · cases infillF ⟨a, b, c, fl, lo⟩ <;> simp [infillN, okH, ltL_I, pureL_I, ltL, pureL]
end Go.Proofs.Ytgjpdjihjphbdaa
