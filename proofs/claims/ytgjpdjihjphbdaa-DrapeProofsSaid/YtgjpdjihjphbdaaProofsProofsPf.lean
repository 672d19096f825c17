/- Open values of tasks. -/
import Derived.Test.YtgjpdjihjphbdaaProofsProofsPe
/- The law of proofs: the walk. -/
namespace Go.Proofs.Ytgjpdjihjphbdaa
open Go.RowKit
set_option linter.unusedVariables false

def fewS (s : List (List Int)) : Bool := decide (s.length ≤ 14) && s.all fun r => decide (r.length ≤ 14)
theorem fewS_bd {s : List (List Int)} (h : fewS s = true) : s.length ≤ 14 ∧ (∀ r ∈ s, r.length ≤ 14) ∧ s.flatten.length ≤ 100000 := by
  simp only [fewS, Bool.and_eq_true, decide_eq_true_eq, List.all_eq_true] at h
  refine ⟨h.1, h.2, ?_⟩
  have key : ∀ l : List (List Int), (∀ r ∈ l, r.length ≤ 14) → l.flatten.length ≤ 14 * l.length := by
    intro l
    induction l with
    | nil => intro _; simp
    | cons a l ih =>
      intro hl
      have h1 := hl a List.mem_cons_self
      have h2 := ih fun r hr => hl r (List.mem_cons_of_mem _ hr)
      rw [List.flatten_cons, List.length_append, List.length_cons]
      omega
  have := key s h.2
  omega
abbrev encG (s : List (List Int)) : MV := .agg [.sl (s.map encW), .lit (.slice none 0 0), .lit (.slice none 0 0), I64 0, I64 0]
theorem mf_FewS : MT.mf 33 = some ⟨34, [(.tmp 2)], (.seq (.reg [⟨none, (some 1), (.box 5 (.s 0))⟩, ⟨none, (some 2), (.mv (.c (.lit (.bool false))))⟩]) (.seq (.seq (.reg [⟨none, (some 4), (.fa 0 (.s 1))⟩, ⟨none, (some 5), (.ld none (.s 4))⟩, ⟨none, (some 6), (.len (.s 5))⟩, ⟨none, (some 7), (.bin .gtr (.s 6) (.c (.lit (.int .i64 14))))⟩, ⟨none, (some 8), (.mv (.s 7))⟩, ⟨(some (8, false)), (some 9), (.fa 1 (.s 1))⟩, ⟨(some (8, false)), (some 10), (.ld none (.s 9))⟩, ⟨(some (8, false)), (some 11), (.len (.s 10))⟩, ⟨(some (8, false)), (some 12), (.bin .gtr (.s 11) (.c (.lit (.int .i64 14))))⟩, ⟨none, (some 13), (.pick (.s 8) (.c (.lit (.bool true))) (.s 12))⟩, ⟨none, (some 14), (.mv (.s 13))⟩, ⟨(some (14, false)), (some 15), (.fa 2 (.s 1))⟩, ⟨(some (14, false)), (some 16), (.ld none (.s 15))⟩, ⟨(some (14, false)), (some 17), (.len (.s 16))⟩, ⟨(some (14, false)), (some 18), (.bin .gtr (.s 17) (.c (.lit (.int .i64 14))))⟩, ⟨none, (some 19), (.pick (.s 14) (.c (.lit (.bool true))) (.s 18))⟩]) (.cond (.s 19) (.seq (.reg [⟨none, (some 2), (.mv (.c (.lit (.bool false))))⟩]) .ret) .skip)) (.seq (.seq (.reg [⟨none, (some 3), (.mv (.c (.lit (.int .i64 0))))⟩]) (.block 0 (.loop [3, 1] (.seq (.seq (.reg [⟨none, (some 20), (.mv (.s 3))⟩, ⟨none, (some 21), (.fa 0 (.s 1))⟩, ⟨none, (some 22), (.ld none (.s 21))⟩, ⟨none, (some 23), (.len (.s 22))⟩, ⟨none, (some 24), (.bin .lss (.s 20) (.s 23))⟩]) (.cond (.s 24) .skip (.exit 0))) (.seq (.block 1 (.seq (.reg [⟨none, (some 27), (.fa 0 (.s 1))⟩, ⟨none, (some 28), (.ld none (.s 27))⟩, ⟨none, (some 29), (.mv (.s 3))⟩, ⟨none, (some 30), (.ia 1 (.s 28) (.s 29))⟩, ⟨none, (some 31), (.ld none (.s 30))⟩, ⟨none, (some 32), (.len (.s 31))⟩, ⟨none, (some 33), (.bin .gtr (.s 32) (.c (.lit (.int .i64 14))))⟩]) (.cond (.s 33) (.seq (.reg [⟨none, (some 2), (.mv (.c (.lit (.bool false))))⟩]) .ret) .skip))) (.reg [⟨none, (some 25), (.mv (.s 3))⟩, ⟨none, (some 26), (.bin .add (.s 25) (.c (.lit (.int .i64 1))))⟩, ⟨none, (some 3), (.mv (.s 26))⟩])))))) (.seq (.reg [⟨none, (some 2), (.mv (.c (.lit (.bool true))))⟩]) .ret))))⟩ := by kernel_rfl
theorem FewS_c (k : Nat) (s : List (List Int)) (m1 : s.length ≤ 9223372036854775807) (m4 : ∀ r ∈ s, r.length ≤ 9223372036854775807) (h : MHeap) {b : Bool} (hf : fewS s = b) : orA (k + 1) 33 [encG s] h = some (Bo b, h) := by
  refine callL (args' := [encG s]) (frzL_lt (by simp [ltL, MV.lt, ltL_I, ltL_W])) rfl (runZ_of mf_FewS (by simp) ?_)
  simp only [argsL]
  have hs1 : (MV.sl (s.map encW)).slen = some s.length := by simp [MV.slen]
  unfold fewS at hf
  by_cases q1 : s.length ≤ 14
  · simp only [q1, decide_true, Bool.true_and] at hf
    repeat (first | apply ef_seq | (apply ef_mv; exact rfl; exact rfl) | (apply ef_bin; exact rfl; exact rfl; exact rfl; (exact cmp_f rfl (by simp only [cmpP]; omega))) | (apply ef_gy; exact rfl; (exact (rfl : false = false))) | (apply ef_pick; exact rfl; exact rfl; exact rfl) | (apply ef_len; exact rfl; exact rfl; (first | assumption | exact rfl)) | (apply ef_ldp; exact rfl; exact rfl; (exact rfl); exact rfl; (exact rfl); (exact rfl)) | (apply ef_fap; exact rfl; exact rfl) | (apply ef_box; exact rfl; exact rfl; exact rfl; exact rfl) | apply ef_nil | apply seqQ.normal | apply ef_block | apply ef_skip | (apply ef_condf; exact rfl; (exact (rfl : false = false))))
    refine ef_loopf (α := Nat) (fun i => i ≤ s.length ∧ (s.all fun r => decide (r.length ≤ 14)) = ((s.drop i).all fun r => decide (r.length ≤ 14))) (fun i => [(3, I64 (i : Int))]) [(1, _)] (fun _ => _) (fun i => s.length - i) 0 [3] (fun _ => rfl) (by ((repeat (refine Hold.cons (by exact rfl) ?_)); exact Hold.nil)) (by ((repeat (refine Hold.cons (by exact rfl) ?_)); exact Hold.nil)) rfl rfl ⟨by simp, rfl⟩ (by simp; omega) ?_
    rintro i ⟨hi, hz⟩
    try simp only at hi hz ⊢
    by_cases hlt : i < s.length
    · have e1 := at_map encW s i hlt
      have HD := Lib.hid (drop_at s i hlt)
      have HZ := Lib.hid hz
      have hrl := m4 _ (List.getElem_mem hlt)
      clear hz
      generalize s[i] = r at e1 HD hrl
      have hsr : (encW r).slen = some r.length := by simp [MV.slen]
      by_cases q4 : r.length ≤ 14
      · repeat (first | apply ef_seq | (apply ef_mv; exact rfl; exact rfl) | (apply ef_bin; exact rfl; exact rfl; exact rfl; (first | exact cmp_t rfl (by first | exact rfl | (simp only [cmpP]; omega)) | exact cmp_f rfl (by simp only [cmpP]; omega) | ((with_reducible refine bin_add (wrap_of ?_ ?_)) <;> omega))) | (apply ef_len; exact rfl; exact rfl; (assumption)) | (apply ef_ldr; exact rfl; exact rfl; (exact rfl)) | (apply ef_ldp; exact rfl; exact rfl; (exact rfl); exact rfl; (exact rfl); (exact rfl)) | (apply ef_ias; exact rfl; exact rfl; exact rfl; (omega); assumption; exact rfl) | (apply ef_fap; exact rfl; exact rfl) | apply ef_nil | apply seqQ.normal | apply blockQ.normal | apply ef_block | apply ef_skip | (apply ef_condt; exact rfl; (exact (rfl : true = true))) | (apply ef_condf; exact rfl; (exact (rfl : false = false))))
        (refine loopQ.normal _ _ ⟨i + 1, ⟨hlt, by rw [HZ.out, HD.out]; simp [q4]⟩, (by first | (simp only; omega) | omega), ⟨by ((repeat (refine Hold.cons (by exact rfl) ?_)); exact Hold.nil), by ((repeat (refine Hold.cons (by exact rfl) ?_)); exact Hold.nil)⟩, .inl (Nat.le_refl _), (by first | exact List.take_length | exact rfl | exact takeF rfl rfl)⟩)
      · repeat (first | apply ef_seq | (apply ef_mv; exact rfl; exact rfl) | (apply ef_bin; exact rfl; exact rfl; exact rfl; (exact cmp_t rfl (by first | exact rfl | (simp only [cmpP]; omega)))) | (apply ef_len; exact rfl; exact rfl; (assumption)) | (apply ef_ldr; exact rfl; exact rfl; (exact rfl)) | (apply ef_ldp; exact rfl; exact rfl; (exact rfl); exact rfl; (exact rfl); (exact rfl)) | (apply ef_ias; exact rfl; exact rfl; exact rfl; (omega); assumption; exact rfl) | (apply ef_fap; exact rfl; exact rfl) | apply ef_nil | apply seqQ.normal | apply loopQ.ret | apply ef_ret | apply seqQ.ret | apply blockQ.ret | apply ef_block | apply ef_skip | (apply ef_condt; exact rfl; (exact (rfl : true = true))))
        (refine fin1 rfl (by exact rfl) rfl ?_)
        rw [← hf, HZ.out, HD.out]; simp [q4]
    · repeat (first | apply ef_seq | (apply ef_mv; exact rfl; exact rfl) | (apply ef_bin; exact rfl; exact rfl; exact rfl; (exact cmp_f rfl (by simp only [cmpP]; omega))) | (apply ef_len; exact rfl; exact rfl; (assumption)) | (apply ef_ldp; exact rfl; exact rfl; (exact rfl); exact rfl; (exact rfl); (exact rfl)) | (apply ef_fap; exact rfl; exact rfl) | apply ef_nil | apply seqQ.normal | apply loopQ.exit | apply ef_ret | apply ef_exit | apply seqQ.exit | apply blockQ.here | (apply ef_condf; exact rfl; (exact (rfl : false = false))))
      (refine fin1 rfl (by exact rfl) rfl ?_)
      rw [← hf, hz, List.drop_eq_nil_of_le (by omega)]; rfl
  · simp only [q1, decide_false, Bool.false_and] at hf
    repeat (first | apply ef_seq | (apply ef_mv; exact rfl; exact rfl) | (apply ef_bin; exact rfl; exact rfl; exact rfl; (exact cmp_t rfl (by first | exact rfl | (simp only [cmpP]; omega)))) | (apply ef_gn; exact rfl; (exact (rfl : true = true)); exact rfl) | (apply ef_pick; exact rfl; exact rfl; exact rfl) | (apply ef_len; exact rfl; exact rfl; (assumption)) | (apply ef_ldp; exact rfl; exact rfl; (exact rfl); exact rfl; (exact rfl); (exact rfl)) | (apply ef_fap; exact rfl; exact rfl) | (apply ef_box; exact rfl; exact rfl; exact rfl; exact rfl) | apply ef_nil | apply seqQ.normal | apply ef_ret | apply seqQ.ret | (apply ef_condt; exact rfl; (exact (rfl : true = true))))
    (refine fin1 rfl (by exact rfl) rfl ?_)
    rw [← hf]
theorem mf_DrapeProofs : MT.mf 10 = some ⟨55, [(.tmp 4)], (.seq (.reg [⟨none, (some 2), (.box 5 (.s 0))⟩, ⟨none, (some 4), (.mv (.c (.lit (.bool false))))⟩]) (.seq (.seq (.reg [⟨none, (some 10), (.call 15 [])⟩, ⟨none, (some 11), (.un .not (.s 10))⟩]) (.cond (.s 11) (.seq (.reg [⟨none, (some 4), (.mv (.c (.lit (.bool false))))⟩]) .ret) .skip)) (.seq (.seq (.reg [⟨none, (some 12), (.ld (some 5) (.s 2))⟩, ⟨none, (some 13), (.call 33 [(.s 12)])⟩, ⟨none, (some 14), (.un .not (.s 13))⟩, ⟨none, (some 15), (.mv (.s 14))⟩, ⟨(some (15, false)), (some 16), (.mv (.s 1))⟩, ⟨(some (15, false)), (some 17), (.build [(.lit (.slice none 0 0)), (.lit (.slice none 0 0)), (.lit (.slice none 0 0)), (.lit (.int .i64 0)), (.lit (.int .i64 0))] [(0, (1, (.s 16)))])⟩, ⟨(some (15, false)), (some 18), (.call 33 [(.s 17)])⟩, ⟨(some (15, false)), (some 19), (.un .not (.s 18))⟩, ⟨none, (some 20), (.pick (.s 15) (.c (.lit (.bool true))) (.s 19))⟩]) (.cond (.s 20) (.seq (.reg [⟨none, (some 4), (.mv (.c (.lit (.bool true))))⟩]) .ret) .skip)) (.seq (.reg [⟨none, (some 22), (.ld (some 5) (.s 2))⟩, ⟨none, (some 23), (.call 35 [(.s 22)])⟩, ⟨none, (some 24), (.mv (.s 1))⟩, ⟨none, (some 25), (.call 73 [(.s 24)])⟩, ⟨none, (some 26), (.call 72 [(.s 23), (.s 25)])⟩, ⟨none, (some 21), (.mv (.s 26))⟩, ⟨none, (some 27), (.ext (.s 21) 0)⟩, ⟨none, (some 28), (.ext (.s 21) 1)⟩, ⟨none, (some 5), (.new (.agg [(.lit (.int .i64 0)), (.lit (.int .i64 0))]))⟩, ⟨none, none, (.st 2 (.s 5) (.s 27))⟩, ⟨none, (some 6), (.mv (.s 28))⟩]) (.seq (.seq (.reg [⟨none, (some 29), (.ld (some 5) (.s 2))⟩, ⟨none, (some 30), (.call 46 [(.s 29)])⟩, ⟨none, (some 7), (.mv (.s 30))⟩]) (.seq (.reg [⟨none, (some 31), (.mv (.s 7))⟩, ⟨none, (some 32), (.bin .neq (.s 31) (.c (.lit (.int .i64 0))))⟩]) (.cond (.s 32) (.seq (.reg [⟨none, (some 33), (.mv (.s 6))⟩, ⟨none, (some 34), (.mv (.s 7))⟩, ⟨none, (some 35), (.bin .eql (.s 33) (.s 34))⟩, ⟨none, (some 36), (.mv (.s 35))⟩, ⟨(some (36, true)), (some 37), (.ld (some 2) (.s 5))⟩, ⟨(some (36, true)), (some 38), (.build [(.lit (.int .i64 0)), (.lit (.int .i64 0))] [])⟩, ⟨(some (36, true)), (some 39), (.eqa 2 false (.s 37) (.s 38))⟩, ⟨none, (some 40), (.pick (.s 36) (.s 39) (.c (.lit (.bool false))))⟩, ⟨none, (some 4), (.mv (.s 40))⟩]) .ret) .skip))) (.seq (.reg [⟨none, (some 42), (.ld (some 5) (.s 2))⟩, ⟨none, (some 43), (.mv (.s 1))⟩, ⟨none, (some 44), (.call 74 [(.s 42), (.s 43)])⟩, ⟨none, (some 41), (.mv (.s 44))⟩, ⟨none, (some 45), (.ext (.s 41) 0)⟩, ⟨none, (some 46), (.ext (.s 41) 1)⟩, ⟨none, (some 8), (.new (.agg [(.lit (.int .i64 0)), (.lit (.int .i64 0))]))⟩, ⟨none, none, (.st 2 (.s 8) (.s 45))⟩, ⟨none, (some 9), (.mv (.s 46))⟩]) (.seq (.reg [⟨none, (some 47), (.mv (.s 6))⟩, ⟨none, (some 48), (.mv (.s 9))⟩, ⟨none, (some 49), (.bin .eql (.s 47) (.s 48))⟩, ⟨none, (some 50), (.mv (.s 49))⟩, ⟨(some (50, true)), (some 51), (.ld (some 2) (.s 5))⟩, ⟨(some (50, true)), (some 52), (.ld (some 2) (.s 8))⟩, ⟨(some (50, true)), (some 53), (.eqa 2 false (.s 51) (.s 52))⟩, ⟨none, (some 54), (.pick (.s 50) (.s 53) (.c (.lit (.bool false))))⟩, ⟨none, (some 4), (.mv (.s 54))⟩]) .ret)))))))⟩ := by kernel_rfl
set_option maxHeartbeats 4000000 in
theorem DrapeProofs_z (t : Tk) (s : List (List Int)) (m1 : t.ter.length ≤ 9223372036854775807) (m2 : t.rows.length ≤ 9223372036854775807) (m3 : t.ties.length ≤ 9223372036854775807) (m4 : ∀ r ∈ t.ter, r.length ≤ 9223372036854775807) (m5 : s.length ≤ 9223372036854775807) (m6 : ∀ r ∈ s, r.length ≤ 9223372036854775807) :
    runZ MT (orA 12) (itA 12) 4000000 10 [encT t, .sl (s.map encW)] [] = some (Bo true, []) := by
  refine runZ_of mf_DrapeProofs (by simp) ?_
  simp only [argsL]
  cases hf : fewT t
  · have hfw := fun h => Few_c 11 t m1 m2 m3 m4 h hf
    repeat (first | apply ef_seq | (apply ef_mv; exact rfl; exact rfl) | (apply ef_gn; exact rfl; (exact (rfl : true = true)); exact rfl) | (apply ef_pick; exact rfl; exact rfl; exact rfl) | (apply ef_ldp; exact rfl; exact rfl; (exact rfl); exact rfl; (exact rfl); (exact rd_5 rfl rfl rfl rfl rfl)) | (apply ef_notT; exact rfl; exact rfl) | (apply ef_notF; exact rfl; exact rfl) | (apply ef_box; exact rfl; exact rfl; exact rfl; exact rfl) | apply ef_nil | apply seqQ.normal | apply ef_ret | apply seqQ.ret | apply ef_skip | (apply ef_condt; exact rfl; (exact (rfl : true = true))) | (apply ef_condf; exact rfl; (exact (rfl : false = false))) | (apply ef_call; exact rfl; ((repeat (apply XVs.cons; exact rfl)); exact XVs.nil); (with_reducible first | exact awake_c _ | exact hfw _)))
    (refine fin1 rfl (by exact rfl) rfl ?_)
    rfl
  · have hfw := fun h => Few_c 11 t m1 m2 m3 m4 h hf
    cases hg : fewS s
    · have hfs := fun h => FewS_c 11 s m5 m6 h hg
      repeat (first | apply ef_seq | (apply ef_mv; exact rfl; exact rfl) | (apply ef_gy; exact rfl; (exact (rfl : false = false))) | (apply ef_ldp; exact rfl; exact rfl; (exact rfl); exact rfl; (exact rfl); (exact rd_5 rfl rfl rfl rfl rfl)) | (apply ef_notT; exact rfl; exact rfl) | (apply ef_box; exact rfl; exact rfl; exact rfl; exact rfl) | (apply ef_build; exact rfl; (repeat (apply XVs.cons; exact rfl)); exact XVs.nil; exact rfl; exact rfl) | apply ef_nil | apply seqQ.normal | apply ef_skip | (apply ef_condf; exact rfl; (exact (rfl : false = false))) | (apply ef_call; exact rfl; ((repeat (apply XVs.cons; exact rfl)); exact XVs.nil); (with_reducible first | exact awake_c _ | exact hfw _)))
      (apply ef_call; (· exact rfl); (· ((repeat (apply XVs.cons; exact rfl)); exact XVs.nil)); · exact hfs _)
      repeat (first | apply ef_seq | (apply ef_mv; exact rfl; exact rfl) | (apply ef_gy; exact rfl; (exact (rfl : false = false))) | (apply ef_pick; exact rfl; exact rfl; exact rfl) | (apply ef_notF; exact rfl; exact rfl) | apply ef_nil | apply seqQ.normal | apply ef_ret | apply seqQ.ret | (apply ef_condt; exact rfl; (exact (rfl : true = true))))
      (refine fin1 rfl (by exact rfl) rfl ?_)
      rfl
    · have hfs := fun h => FewS_c 11 s m5 m6 h hg
      obtain ⟨bd, -⟩ := fewT_bd hf
      obtain ⟨s1, s2, s3⟩ := fewS_bd hg
      have hcp := fun h => CopyTask_c 9 t bd h
      have hcl := fun h => CopyLists_c 10 s h (by omega) (fun r hr => by have := s2 r hr; omega)
      have hte := fun h => TaskErr_c 8 t bd h
      obtain ⟨hR1, -⟩ := taskF_rel t
      have hfz := (fz_arr (h := [⟨0, false, 5, [encT t]⟩] ++ [⟨0, nlN s.length, 1, s.map encW⟩]) (id := 1) (k := s.length) rfl rfl (by simp) (ltL_W 0 s) rfl).now
      clear m1 m2 m3 m4 m5 m6 hf hg
      by_cases h0 : (taskF id t).2 = 0
      · have hck := Bx.mk (CheckLowest_ok 4 bd h0 s (by omega) s3 _ hfz)
        have ok := (task_ok h0).1
        have hrl := fun h => rCheckLowest_c 8 t ok bd s (by omega) (fun r hr => by have := s2 r hr; omega) h
        rw [hR1, h0] at hte
        generalize clE t s = c at hck hrl
        obtain ⟨c1, c2, c3⟩ := c
        simp only [clM] at *
        clear hfz hR1
        repeat (first | apply ef_seq | (apply ef_mv; exact rfl; exact rfl) | (apply ef_gy; exact rfl; (exact (rfl : false = false))) | (apply ef_ldp; exact rfl; exact rfl; (exact rfl); exact rfl; (exact rfl); (exact rd_5 rfl rfl rfl rfl rfl)) | (apply ef_notT; exact rfl; exact rfl) | (apply ef_box; exact rfl; exact rfl; exact rfl; exact rfl) | (apply ef_build; exact rfl; (repeat (apply XVs.cons; exact rfl)); exact XVs.nil; exact rfl; exact rfl) | apply ef_nil | apply seqQ.normal | apply ef_skip | (apply ef_condf; exact rfl; (exact (rfl : false = false))) | (apply ef_call; exact rfl; ((repeat (apply XVs.cons; exact rfl)); exact XVs.nil); (with_reducible first | exact awake_c _ | exact hfw _)))
        (apply ef_call; (· exact rfl); (· ((repeat (apply XVs.cons; exact rfl)); exact XVs.nil)); · exact hfs _)
        repeat (first | apply ef_seq | (apply ef_mv; exact rfl; exact rfl) | (apply ef_gy; exact rfl; (exact (rfl : false = false))) | (apply ef_pick; exact rfl; exact rfl; exact rfl) | (apply ef_ldp; exact rfl; exact rfl; (exact rfl); exact rfl; (exact rfl); (exact rd_5 rfl rfl rfl rfl rfl)) | (apply ef_notT; exact rfl; exact rfl) | apply ef_nil | apply seqQ.normal | apply ef_skip | (apply ef_condf; exact rfl; (exact (rfl : false = false))) | (apply ef_call; exact rfl; ((repeat (apply XVs.cons; exact rfl)); exact XVs.nil); (with_reducible first | exact hcp _ | exact hcl _)))
        (apply ef_call; (· exact rfl); (· ((repeat (apply XVs.cons; exact rfl)); exact XVs.nil)); · exact hck.out)
        repeat (first | apply ef_seq | (apply ef_mv; exact rfl; exact rfl) | (apply ef_bin; exact rfl; exact rfl; exact rfl; (first | exact cmp_t rfl (by first | exact rfl | (simp only [cmpP]; omega)) | exact cmp_f rfl (by simp only [cmpP]; omega))) | (apply ef_gy; exact rfl; (exact (rfl : true = true))) | (apply ef_pick; exact rfl; exact rfl; exact rfl) | (apply ef_ldp; exact rfl; exact rfl; (exact rfl); exact rfl; (exact rfl); (first | exact rd_2 rfl rfl | exact rd_5 rfl rfl rfl rfl rfl)) | (apply ef_ext; exact rfl; exact rfl; exact rfl) | (apply ef_newst; exact rfl; exact rfl; exact rfl; exact rfl; exact rfl) | (apply ef_eqa; exact rfl; exact rfl; exact rfl; exact rfl; exact rfl; exact rfl) | apply ef_nil | apply seqQ.normal | apply ef_ret | apply ef_skip | (apply ef_condf; exact rfl; (exact (rfl : false = false))) | (apply ef_call; exact rfl; ((repeat (apply XVs.cons; exact rfl)); exact XVs.nil); (with_reducible first | exact hte _ | exact hrl _)))
        (refine fin1 rfl (by exact rfl) rfl ?_)
        simp [negIf]
      · have hck := Bx.mk (CheckLowest_bad 4 bd h0 s _ hfz)
        rw [hR1] at hte
        generalize (taskF id t).2 = e at *
        simp only [clM] at *
        clear hfz hR1
        repeat (first | apply ef_seq | (apply ef_mv; exact rfl; exact rfl) | (apply ef_gy; exact rfl; (exact (rfl : false = false))) | (apply ef_ldp; exact rfl; exact rfl; (exact rfl); exact rfl; (exact rfl); (exact rd_5 rfl rfl rfl rfl rfl)) | (apply ef_notT; exact rfl; exact rfl) | (apply ef_box; exact rfl; exact rfl; exact rfl; exact rfl) | (apply ef_build; exact rfl; (repeat (apply XVs.cons; exact rfl)); exact XVs.nil; exact rfl; exact rfl) | apply ef_nil | apply seqQ.normal | apply ef_skip | (apply ef_condf; exact rfl; (exact (rfl : false = false))) | (apply ef_call; exact rfl; ((repeat (apply XVs.cons; exact rfl)); exact XVs.nil); (with_reducible first | exact awake_c _ | exact hfw _)))
        (apply ef_call; (· exact rfl); (· ((repeat (apply XVs.cons; exact rfl)); exact XVs.nil)); · exact hfs _)
        repeat (first | apply ef_seq | (apply ef_mv; exact rfl; exact rfl) | (apply ef_gy; exact rfl; (exact (rfl : false = false))) | (apply ef_pick; exact rfl; exact rfl; exact rfl) | (apply ef_ldp; exact rfl; exact rfl; (exact rfl); exact rfl; (exact rfl); (exact rd_5 rfl rfl rfl rfl rfl)) | (apply ef_notT; exact rfl; exact rfl) | apply ef_nil | apply seqQ.normal | apply ef_skip | (apply ef_condf; exact rfl; (exact (rfl : false = false))) | (apply ef_call; exact rfl; ((repeat (apply XVs.cons; exact rfl)); exact XVs.nil); (with_reducible first | exact hcp _ | exact hcl _)))
        (apply ef_call; (· exact rfl); (· ((repeat (apply XVs.cons; exact rfl)); exact XVs.nil)); · exact hck.out)
        repeat (first | apply ef_seq | (apply ef_mv; exact rfl; exact rfl) | (apply ef_bin; exact rfl; exact rfl; exact rfl; (exact cmp_t rfl (by first | exact rfl | (simp only [cmpP]; omega)))) | (apply ef_gy; exact rfl; (exact (rfl : true = true))) | (apply ef_pick; exact rfl; exact rfl; exact rfl) | (apply ef_ldp; exact rfl; exact rfl; (exact rfl); exact rfl; (exact rfl); (first | exact rd_2 rfl rfl | exact rd_5 rfl rfl rfl rfl rfl)) | (apply ef_ext; exact rfl; exact rfl; exact rfl) | (apply ef_newst; exact rfl; exact rfl; exact rfl; exact rfl; exact rfl) | (apply ef_build; exact rfl; (repeat (apply XVs.cons; exact rfl)); exact XVs.nil; exact rfl; exact rfl) | (apply ef_eqa; exact rfl; exact rfl; exact rfl; exact rfl; exact rfl; exact rfl) | apply ef_nil | apply seqQ.normal | apply ef_ret | apply seqQ.ret | (apply ef_condt; exact rfl; (exact (rfl : true = true))) | (apply ef_call; exact rfl; ((repeat (apply XVs.cons; exact rfl)); exact XVs.nil); (with_reducible exact hte _)))
        (refine fin1 rfl (by exact rfl) rfl ?_)
        rfl
end Go.Proofs.Ytgjpdjihjphbdaa

/- Open values of tasks. -/
namespace Go.Proofs.Ytgjpdjihjphbdaa
open Go.ChangeShapes Go.WideShapes Go.ChangeAt Go.RowKit

def taskSh : Sh := .agg [.slice (.slice (.int .i64)), .slice (.int .i64), .slice (.int .i64), .int .i64, .int .i64]
theorem fits_lists {m : MV} (h : Fits (.slice (.slice (.int .i64))) m) : ∃ g : List (List Int), m = .sl (g.map encW) ∧ g.length ≤ maxLen ∧ ∀ r ∈ g, r.length ≤ maxLen := by
  rw [Fits] at h
  obtain ⟨es, rfl, hl, he⟩ := h
  induction es with
  | nil => exact ⟨[], rfl, by simp, fun n hn => by cases hn⟩
  | cons e es ih =>
    obtain ⟨r, rfl, hr, _⟩ := fits_ints (he e List.mem_cons_self)
    obtain ⟨g, h1, h2, h3⟩ := ih (by simp at hl; omega) fun e h => he e (List.mem_cons_of_mem _ h)
    have e1 : es = g.map encW := by simpa using h1
    subst e1
    refine ⟨r :: g, rfl, by simpa using hl, fun k hk => ?_⟩
    rcases List.mem_cons.1 hk with rfl | hk
    · exact hr
    · exact h3 k hk
theorem fits_task {m : MV} (h : Fits taskSh m) : ∃ t : Tk, m = encT t ∧ t.ter.length ≤ 9223372036854775807 ∧ t.rows.length ≤ 9223372036854775807 ∧ t.ties.length ≤ 9223372036854775807 ∧ ∀ r ∈ t.ter, r.length ≤ 9223372036854775807 := by
  obtain ⟨ms, h', rfl⟩ := fits_agg h
  obtain ⟨m1, r1, rfl, h1, h⟩ := fitsL_cons h'
  obtain ⟨m2, r2, rfl, h2, h⟩ := fitsL_cons h
  obtain ⟨m3, r3, rfl, h3, h⟩ := fitsL_cons h
  obtain ⟨m4, r4, rfl, h4, h⟩ := fitsL_cons h
  obtain ⟨m5, r5, rfl, h5, h⟩ := fitsL_cons h
  obtain rfl := fitsL_nil h
  obtain ⟨g, rfl, hg, hr⟩ := fits_lists h1
  obtain ⟨rs, rfl, hrs, _⟩ := fits_ints h2
  obtain ⟨ts, rfl, hts, _⟩ := fits_ints h3
  obtain ⟨a, rfl, _⟩ := fits_int h4
  obtain ⟨b, rfl, _⟩ := fits_int h5
  exact ⟨⟨g, rs, ts, a, b⟩, rfl, Nat.le_trans hg maxLen_le, Nat.le_trans hrs maxLen_le, Nat.le_trans hts maxLen_le, fun r h => Nat.le_trans (hr r h) maxLen_le⟩
end Go.Proofs.Ytgjpdjihjphbdaa
