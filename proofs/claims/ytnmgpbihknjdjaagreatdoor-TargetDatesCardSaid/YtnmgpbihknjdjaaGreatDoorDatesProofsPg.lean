/- The row of TargetDates. -/
import Derived.Test.YtnmgpbihknjdjaaGreatDoorCards
import Derived.Test.YtnmgpbihknjdjaaGreatDoorTie
import Derived.LaidMore
import Derived.LaidOnce
import Derived.SevenTiedAt
import Derived.Stop.Joined
import Derived.Test.YtnmgpbihknjdjaaGreatDoorProg
import Derived.Test.YtnmgpbihknjdjaaGreatDoorChecked
import Derived.Test.YtnmgpbihknjdjaaGreatDoorRows
import Derived.Test.YtnmgpbihknjdjaaGreatDoorDatesProofsPf
set_option linter.unusedVariables false
set_option linter.unusedSimpArgs false
/- TargetDates: the walk. -/
namespace Go.Proofs.YtnmgpbihknjdjaaGreatDoor
open Go.RowKit
set_option linter.unusedVariables false
theorem mf_lawDt : MT.mf 7 = some ⟨130, [(.tmp 6)], (.seq (.reg [gO 6 (.mv cF)]) (.seq (.seq (.reg [gO 17 (.call 15 []), gO 18 (.un .not (.s 17))]) (.cond (.s 18) (.seq (.reg [gO 6 (.mv cF)]) .ret) .skip)) (.seq (.seq (.reg [gO 19 (.mv (.s 0)), gO 20 (.call 45 [.s 19]), gO 21 (.un .not (.s 20))]) (.cond (.s 21) (.seq (.reg [gO 6 (.mv cT)]) .ret) .skip)) (.seq (.reg [gO 23 (.mv (.s 0)), gO 24 (.call 47 [.s 23]), gO 25 (.call 46 [.s 24]), gO 22 (.mv (.s 25)), gO 26 (.ext (.s 22) 0), gO 27 (.ext (.s 22) 1), gO 7 (.mv (.s 26)), gO 8 (.mv (.s 27))]) (.seq (.reg [gO 29 (.mv (.s 0)), gO 30 (.call 47 [.s 29]), gO 31 (.mv (.s 1)), gO 32 (.call 48 [.s 30, .s 31]), gO 28 (.mv (.s 32)), gO 33 (.ext (.s 28) 0), gO 34 (.ext (.s 28) 1), gO 9 (.mv (.s 33)), gO 10 (.mv (.s 34))]) (.seq (.reg [gO 36 (.mv (.s 0)), gO 37 (.call 47 [.s 36]), gO 38 (.mv (.s 1)), gO 39 (.mv (.s 2)), gO 40 (.call 49 [.s 37, .s 38, .s 39]), gO 35 (.mv (.s 40)), gO 41 (.ext (.s 35) 0), gO 42 (.ext (.s 35) 1), gO 11 (.mv (.s 41)), gO 12 (.mv (.s 42))]) (.seq (.reg [gO 44 (.mv (.s 0)), gO 45 (.call 50 [.s 44]), gO 43 (.mv (.s 45)), gO 46 (.ext (.s 43) 0), gO 47 (.ext (.s 43) 1), gO 13 (.mv (.s 46)), gO 14 (.mv (.s 47))]) (.seq (.seq (.reg [gO 48 (.mv (.s 8)), gO 49 (.mv (.s 14)), gO 50 (.bin .neq (.s 48) (.s 49)), gO 51 (.mv (.s 50)), ⟨some (51, false), some 52, .mv (.s 7)⟩, ⟨some (51, false), some 53, .mv (.s 13)⟩, ⟨some (51, false), some 54, .bin .neq (.s 52) (.s 53)⟩, gO 55 (.pick (.s 51) cT (.s 54))]) (.cond (.s 55) (.seq (.reg [gO 6 (.mv cF)]) .ret) .skip)) (.seq (.seq (.reg [gO 56 (.mv (.s 0)), gO 57 (.mv (.s 1)), gO 58 (.call 51 [.s 56, .s 57]), gO 14 (.mv (.s 58))]) (.seq (.reg [gO 59 (.mv (.s 14)), gO 60 (.bin .neq (.s 59) (cI 0))]) (.cond (.s 60) (.seq (.reg [gO 61 (.mv (.s 10)), gO 62 (.mv (.s 14)), gO 63 (.bin .eql (.s 61) (.s 62)), gO 64 (.mv (.s 63)), ⟨some (64, true), some 65, .mv (.s 12)⟩, ⟨some (64, true), some 66, .mv (.s 14)⟩, ⟨some (64, true), some 67, .bin .eql (.s 65) (.s 66)⟩, gO 68 (.pick (.s 64) (.s 67) cF), gO 69 (.mv (.s 68)), ⟨some (69, true), some 70, .mv (.s 9)⟩, ⟨some (69, true), some 71, .len (.s 70)⟩, ⟨some (69, true), some 72, .bin .eql (.s 71) (cI 0)⟩, gO 73 (.pick (.s 69) (.s 72) cF), gO 74 (.mv (.s 73)), ⟨some (74, true), some 75, .mv (.s 11)⟩, ⟨some (74, true), some 76, .bin .eql (.s 75) (cI 0)⟩, gO 77 (.pick (.s 74) (.s 76) cF), gO 6 (.mv (.s 77))]) .ret) .skip))) (.seq (.seq (.reg [gO 78 (.mv (.s 10)), gO 79 (.bin .neq (.s 78) (cI 0)), gO 80 (.mv (.s 79)), ⟨some (80, false), some 81, .mv (.s 9)⟩, ⟨some (80, false), some 82, .mv (.s 0)⟩, ⟨some (80, false), some 83, .mv (.s 1)⟩, ⟨some (80, false), some 84, .call 52 [.s 82, .s 83]⟩, ⟨some (80, false), some 85, .call 24 [.s 81, .s 84]⟩, ⟨some (80, false), some 86, .un .not (.s 85)⟩, gO 87 (.pick (.s 80) cT (.s 86))]) (.cond (.s 87) (.seq (.reg [gO 6 (.mv cF)]) .ret) .skip)) (.seq (.seq (.reg [gO 88 (.mv (.s 2)), gO 89 (.call 53 [.s 88, (cI 1), (cI 365)]), gO 90 (.un .not (.s 89))]) (.cond (.s 90) (.seq (.reg [gO 91 (.mv (.s 12)), gO 92 (.bin .eql (.s 91) (cI 2)), gO 93 (.mv (.s 92)), ⟨some (93, true), some 94, .mv (.s 11)⟩, ⟨some (93, true), some 95, .bin .eql (.s 94) (cI 0)⟩, gO 96 (.pick (.s 93) (.s 95) cF), gO 6 (.mv (.s 96))]) .ret) .skip)) (.seq (.reg [gO 98 (.mv (.s 0)), gO 99 (.mv (.s 1)), gO 100 (.mv (.s 2)), gO 101 (.call 54 [.s 98, .s 99, .s 100]), gO 97 (.mv (.s 101)), gO 102 (.ext (.s 97) 0), gO 103 (.ext (.s 97) 1), gO 15 (.mv (.s 102)), gO 16 (.mv (.s 103))]) (.seq (.seq (.reg [gO 104 (.mv (.s 16)), gO 105 (.un .not (.s 104))]) (.cond (.s 105) (.seq (.reg [gO 106 (.mv (.s 12)), gO 107 (.bin .eql (.s 106) (cI 12)), gO 108 (.mv (.s 107)), ⟨some (108, true), some 109, .mv (.s 11)⟩, ⟨some (108, true), some 110, .bin .eql (.s 109) (cI 0)⟩, gO 111 (.pick (.s 108) (.s 110) cF), gO 6 (.mv (.s 111))]) .ret) .skip)) (.seq (.seq (.reg [gO 112 (.mv (.s 12)), gO 113 (.bin .neq (.s 112) (cI 0)), gO 114 (.mv (.s 113)), ⟨some (114, false), some 115, .mv (.s 11)⟩, ⟨some (114, false), some 116, .mv (.s 15)⟩, ⟨some (114, false), some 117, .bin .neq (.s 115) (.s 116)⟩, gO 118 (.pick (.s 114) cT (.s 117))]) (.cond (.s 118) (.seq (.reg [gO 6 (.mv cF)]) .ret) .skip)) (.seq (.reg [gO 119 (.mv (.s 11)), gO 120 (.mv (.s 1)), gO 121 (.bin .eql (.s 119) (.s 120)), gO 122 (.mv (.s 121)), ⟨some (122, false), some 123, .mv (.s 0)⟩, ⟨some (122, false), some 124, .mv (.s 11)⟩, ⟨some (122, false), some 125, .bin .sub (.s 124) (cI 1)⟩, ⟨some (122, false), some 126, .call 52 [.s 123, .s 125]⟩, ⟨some (122, false), some 127, .len (.s 126)⟩, ⟨some (122, false), some 128, .bin .gtr (.s 127) (cI 0)⟩, gO 129 (.pick (.s 122) cT (.s 128)), gO 6 (.mv (.s 129))]) .ret)))))))))))))))⟩ := by kernel_rfl
theorem few_ok {l : List Cd} (h : fewD l = true) : l.length ≤ 14 ∧ ∀ z ∈ l, z.o.size ≤ 20 := by
 unfold fewD at h
 rw [Bool.and_eq_true, decide_eq_true_eq, List.all_eq_true] at h
 exact ⟨h.1, fun z hz => by simpa using h.2 z hz⟩
theorem earPQ {l : List Cd} {frm days : Int} (hf : 0 ≤ frm) (hd : 1 ≤ days ∧ days ≤ 365) : earP l frm days = if (earQ l frm days).2 then ((earQ l frm days).1, 0) else (0, 12) := by
 have h := foD_same (p := closD l) (days := days) (frm := frm) hd.1 hd.2 (fun d hd' => closD_year l (by omega)) (n := (365 + days).toNat) (by omega)
 unfold earP earQ
 rw [h]
 cases foD (closD l) days 730 frm 0 <;> rfl
theorem earQ_ok {l : List Cd} {frm days : Int} (hd : 1 ≤ days) (h : (earQ l frm days).2 = true) : frm ≤ (earQ l frm days).1 ∧ (earQ l frm days).1 ≤ frm + 730 ∧ ((earQ l frm days).1 = frm ∨ 0 < (onD ((earQ l frm days).1 - 1) 0 l).length) := by
 unfold earQ at *
 cases hf : foD (closD l) days 730 frm 0 with
 | none => rw [hf] at h; cases h
 | some b =>
  simp only
  have hi : InvD (closD l) days frm frm 0 := ⟨by omega, by omega, by omega, fun j a b => by omega, .inl (by omega)⟩
  obtain ⟨a1, a2, a3, a4⟩ := foD_some hd 730 frm 0 hi hf
  have := a1.lo
  refine ⟨by omega, by omega, ?_⟩
  rcases a4 with h | h
  ·exact .inl h
  ·exact .inr ((onD_pos l (b - 1)).1 h)
set_option maxHeartbeats 4000000 in
theorem TargetDates_z (l : List Cd) (d n : Int) (hlen : (l.length : Int) ≤ 9223372036854775807) (hsz : ∀ z ∈ l, (z.o.size : Int) ≤ 9223372036854775807) :
  runZ MT (orA 14) (itA 14) 4000000 7 [.sl (l.map encCd), I64 d, I64 n] [] = some (Bo true, []) := by
 refine runZ_of mf_lawDt (by simp) ?_
 simp only [argsL]
 cases hfew : fewD l
 ·repeat (first | first | apply ef_seq | (apply ef_mv; exact rfl; exact rfl) | (apply ef_bin; (iterate 3 exact rfl); (first | exact cmp_t rfl (by first | exact rfl | (simp only [cmpP]; omega)) | exact cmp_f rfl (by simp only [cmpP]; omega) | ((with_reducible refine bin_sub (wrap_of ?_ ?_)) <;> omega) | with_reducible exact bin_sub (by assumption) | exact rfl)) | (apply ef_gy; exact rfl; (first | exact (rfl : true = true) | exact (rfl : false = false) | exact (rfl : true = !false) | exact (rfl : false = !true) | assumption | exact decide_eq_true (by omega) | exact decide_eq_false (by omega))) | (apply ef_gn; exact rfl; (first | exact (rfl : true = true) | exact (rfl : false = false) | exact (rfl : true = !false) | exact (rfl : false = !true) | assumption | exact decide_eq_true (by omega) | exact decide_eq_false (by omega)); exact rfl) | (apply ef_gu; exact rfl; exact rfl) | (apply ef_pick; (iterate 3 exact rfl)) | (apply ef_pickb; (iterate 4 exact rfl)) | (apply ef_len; exact rfl; exact rfl; (first | assumption | exact rfl)) | (apply ef_notT; exact rfl; exact rfl) | (apply ef_notF; exact rfl; exact rfl) | (apply ef_not; (iterate 3 exact rfl)) | (apply ef_ext; (iterate 3 exact rfl)) | apply ef_nil | apply seqQ.normal | apply ef_ret | apply seqQ.ret | apply ef_skip | (apply ef_condt; exact rfl; (first | exact (rfl : true = true) | assumption | exact decide_eq_true (by omega))) | (apply ef_condf; exact rfl; (first | exact (rfl : false = false) | assumption | exact decide_eq_false (by omega))) | (apply ef_call; exact rfl; ((repeat (apply XVs.cons; exact rfl)); exact XVs.nil); (with_reducible first | exact awake_c _ | exact fewClosed_c 13 l _ hlen hsz hfew)))
  (refine fin1 rfl (by exact rfl) rfl ?_)
  rfl
 obtain ⟨hx, hn⟩ := few_ok hfew
 have hn' : ∀ z ∈ l, z.o.size ≤ 1000 := fun z hz => by have := hn z hz; omega
 have aw := fun h => awake_c h
 have fw := fun h => fewClosed_c 13 l h hlen hsz hfew
 have cp := fun h => CopyCal_c 13 l h (by omega)
 have fz : ∀ (M : MHeap) (T : MHeap), frz 0 [] (M ++ [⟨0, false, 3, l.map encCd⟩] ++ T) 8 (.arr M.length 0 l.length 0) = some (.sl (l.map encCd)) := fun M T => by
  refine frz_row (o := ⟨0, false, 3, l.map encCd⟩) ?_ rfl (by simp) (ltL_Cd 0 l) rfl
  rw [List.append_assoc, List.getElem?_append_right (Nat.le_refl _)]; simp
 have fz0 : ∀ (M : MHeap), frz 0 [] (M ++ [⟨0, false, 3, l.map encCd⟩]) 8 (.arr M.length 0 l.length 0) = some (.sl (l.map encCd)) := fun M => by
  have := fz M []
  rwa [List.append_nil] at this
 have fs : ∀ h, frz 0 [] h 8 (.sl (l.map encCd)) = some (.sl (l.map encCd)) := fun h => frz_sl (ltL_Cd 0 l)
 have r1 := fun h => rCheckCal_c 12 l h (by omega) hn' (fs h)
 have c1 := fun M => CheckCal_c 8 l (M ++ [⟨0, false, 3, l.map encCd⟩]) (by omega) hn' (fz0 M)
 have r2 := fun h => rDateErr_c 10 l d h (by omega) hn' (fs h) rfl
 generalize calD l = cd at c1 r1
 by_cases hde : datE l d = 0
 ·have hde2 := hde
  unfold datE at hde
  obtain ⟨_, hde⟩ := firstE_nil hde
  obtain ⟨hd, _⟩ := firstE_nil hde
  rw [unl_zero (by decide), inB_iff] at hd
  have c2 := fun M => ClosedOn_c 6 l d (M ++ [⟨0, false, 3, l.map encCd⟩]) (by omega) hn' (fz0 M) hde2
  have r3 := fun h => rClosed_c 12 l d h (by omega) (fs h)
  have hle := onD_le d l 0
  have hL := ltL_I 0 (onD d 0 l)
  have r4 := fun y h => rClosed_c 12 l y h (by omega) (fs h)
  rw [hde2] at r2
  cases hw : inB n 1 365
  ·have he : earE l d n = 2 := by unfold earE; rw [hde2, hw]; rfl
   have c3 := fun M => EarF_bad 5 l d n 2 (M ++ [⟨0, false, 3, l.map encCd⟩]) (by omega) hn' (fz0 M) he (by decide)
   have w1 := fun h => Within_c 13 n 1 365 h hw
   generalize onD d 0 l = L at *
   repeat (first | first | apply ef_seq | (apply ef_mv; exact rfl; exact rfl) | (apply ef_bin; (iterate 3 exact rfl); (first | exact cmp_t rfl (by first | exact rfl | (simp only [cmpP]; omega)) | exact cmp_f rfl (by simp only [cmpP]; omega) | ((with_reducible refine bin_sub (wrap_of ?_ ?_)) <;> omega) | with_reducible exact bin_sub (by assumption) | exact rfl)) | (apply ef_gy; exact rfl; (first | exact (rfl : true = true) | exact (rfl : false = false) | exact (rfl : true = !false) | exact (rfl : false = !true) | assumption | exact decide_eq_true (by omega) | exact decide_eq_false (by omega))) | (apply ef_gn; exact rfl; (first | exact (rfl : true = true) | exact (rfl : false = false) | exact (rfl : true = !false) | exact (rfl : false = !true) | assumption | exact decide_eq_true (by omega) | exact decide_eq_false (by omega)); exact rfl) | (apply ef_gu; exact rfl; exact rfl) | (apply ef_pick; (iterate 3 exact rfl)) | (apply ef_pickb; (iterate 4 exact rfl)) | (apply ef_len; exact rfl; exact rfl; (first | assumption | exact rfl)) | (apply ef_notT; exact rfl; exact rfl) | (apply ef_notF; exact rfl; exact rfl) | (apply ef_not; (iterate 3 exact rfl)) | (apply ef_ext; (iterate 3 exact rfl)) | apply ef_nil | apply seqQ.normal | apply ef_ret | apply seqQ.ret | apply ef_skip | (apply ef_condt; exact rfl; (first | exact (rfl : true = true) | assumption | exact decide_eq_true (by omega))) | (apply ef_condf; exact rfl; (first | exact (rfl : false = false) | assumption | exact decide_eq_false (by omega))) | (apply ef_call; exact rfl; ((repeat (apply XVs.cons; exact rfl)); exact XVs.nil); (with_reducible first | exact aw _ | exact fw _ | exact cp _ | exact c1 _ | exact c2 _ | exact c3 _ | exact r1 _ | exact r2 _ | exact r3 _)))
   (apply ef_call; (· exact rfl); (· ((repeat (apply XVs.cons; exact rfl)); exact XVs.nil)); · exact bInts_c 13 L L _ (by omega) (frz_row (o := ⟨0, decide (L.length = 0), 1, L.map I64⟩) rfl rfl (by simp) hL rfl) (frz_row (o := ⟨0, decide (L.length = 0), 1, L.map I64⟩) rfl rfl (by simp) hL rfl) (beq_self_eq_true L))
   repeat (first | first | apply ef_seq | (apply ef_mv; exact rfl; exact rfl) | (apply ef_bin; (iterate 3 exact rfl); (first | exact cmp_t rfl (by first | exact rfl | (simp only [cmpP]; omega)) | exact cmp_f rfl (by simp only [cmpP]; omega) | ((with_reducible refine bin_sub (wrap_of ?_ ?_)) <;> omega) | with_reducible exact bin_sub (by assumption) | exact rfl)) | (apply ef_gy; exact rfl; (first | exact (rfl : true = true) | exact (rfl : false = false) | exact (rfl : true = !false) | exact (rfl : false = !true) | assumption | exact decide_eq_true (by omega) | exact decide_eq_false (by omega))) | (apply ef_gn; exact rfl; (first | exact (rfl : true = true) | exact (rfl : false = false) | exact (rfl : true = !false) | exact (rfl : false = !true) | assumption | exact decide_eq_true (by omega) | exact decide_eq_false (by omega)); exact rfl) | (apply ef_gu; exact rfl; exact rfl) | (apply ef_pick; (iterate 3 exact rfl)) | (apply ef_pickb; (iterate 4 exact rfl)) | (apply ef_len; exact rfl; exact rfl; (first | assumption | exact rfl)) | (apply ef_notT; exact rfl; exact rfl) | (apply ef_notF; exact rfl; exact rfl) | (apply ef_not; (iterate 3 exact rfl)) | (apply ef_ext; (iterate 3 exact rfl)) | apply ef_nil | apply seqQ.normal | apply ef_ret | apply seqQ.ret | apply ef_skip | (apply ef_condt; exact rfl; (first | exact (rfl : true = true) | assumption | exact decide_eq_true (by omega))) | (apply ef_condf; exact rfl; (first | exact (rfl : false = false) | assumption | exact decide_eq_false (by omega))) | (apply ef_call; exact rfl; ((repeat (apply XVs.cons; exact rfl)); exact XVs.nil); (with_reducible first | exact w1 _)))
   (refine fin1 rfl (by exact rfl) rfl ?_)
   rfl
  ·have he : earE l d n = 0 := by unfold earE; rw [hde2, hw]; rfl
   have hn2 := inB_iff.1 hw
   have c3 := fun M => EarF_c 5 l d n (M ++ [⟨0, false, 3, l.map encCd⟩]) (by omega) hn' (fz0 M) he hd hn2
   have r5 := fun h => rEar_c 11 l d n h (by omega) (fs h) hd hn2
   have w1 := fun h => Within_c 13 n 1 365 h hw
   have hpq := earPQ (l := l) (frm := d) (days := n) hd.1 hn2
   have hok := earQ_ok (l := l) (frm := d) (days := n) hn2.1
   generalize earP l d n = P at *
   generalize earQ l d n = Q at *
   obtain ⟨q, t⟩ := Q
   simp only at hpq hok r5
   cases t
   ·have hpq : P = (0, 12) := hpq
    subst hpq
    generalize onD d 0 l = L at *
    repeat (first | first | apply ef_seq | (apply ef_mv; exact rfl; exact rfl) | (apply ef_bin; (iterate 3 exact rfl); (first | exact cmp_t rfl (by first | exact rfl | (simp only [cmpP]; omega)) | exact cmp_f rfl (by simp only [cmpP]; omega) | ((with_reducible refine bin_sub (wrap_of ?_ ?_)) <;> omega) | with_reducible exact bin_sub (by assumption) | exact rfl)) | (apply ef_gy; exact rfl; (first | exact (rfl : true = true) | exact (rfl : false = false) | exact (rfl : true = !false) | exact (rfl : false = !true) | assumption | exact decide_eq_true (by omega) | exact decide_eq_false (by omega))) | (apply ef_gn; exact rfl; (first | exact (rfl : true = true) | exact (rfl : false = false) | exact (rfl : true = !false) | exact (rfl : false = !true) | assumption | exact decide_eq_true (by omega) | exact decide_eq_false (by omega)); exact rfl) | (apply ef_gu; exact rfl; exact rfl) | (apply ef_pick; (iterate 3 exact rfl)) | (apply ef_pickb; (iterate 4 exact rfl)) | (apply ef_len; exact rfl; exact rfl; (first | assumption | exact rfl)) | (apply ef_notT; exact rfl; exact rfl) | (apply ef_notF; exact rfl; exact rfl) | (apply ef_not; (iterate 3 exact rfl)) | (apply ef_ext; (iterate 3 exact rfl)) | apply ef_nil | apply seqQ.normal | apply ef_ret | apply seqQ.ret | apply ef_skip | (apply ef_condt; exact rfl; (first | exact (rfl : true = true) | assumption | exact decide_eq_true (by omega))) | (apply ef_condf; exact rfl; (first | exact (rfl : false = false) | assumption | exact decide_eq_false (by omega))) | (apply ef_call; exact rfl; ((repeat (apply XVs.cons; exact rfl)); exact XVs.nil); (with_reducible first | exact aw _ | exact fw _ | exact cp _ | exact c1 _ | exact c2 _ | exact c3 _ | exact r1 _ | exact r2 _ | exact r3 _)))
    (apply ef_call; (· exact rfl); (· ((repeat (apply XVs.cons; exact rfl)); exact XVs.nil)); · exact bInts_c 13 L L _ (by omega) (frz_row (o := ⟨0, decide (L.length = 0), 1, L.map I64⟩) rfl rfl (by simp) hL rfl) (frz_row (o := ⟨0, decide (L.length = 0), 1, L.map I64⟩) rfl rfl (by simp) hL rfl) (beq_self_eq_true L))
    repeat (first | first | apply ef_seq | (apply ef_mv; exact rfl; exact rfl) | (apply ef_bin; (iterate 3 exact rfl); (first | exact cmp_t rfl (by first | exact rfl | (simp only [cmpP]; omega)) | exact cmp_f rfl (by simp only [cmpP]; omega) | ((with_reducible refine bin_sub (wrap_of ?_ ?_)) <;> omega) | with_reducible exact bin_sub (by assumption) | exact rfl)) | (apply ef_gy; exact rfl; (first | exact (rfl : true = true) | exact (rfl : false = false) | exact (rfl : true = !false) | exact (rfl : false = !true) | assumption | exact decide_eq_true (by omega) | exact decide_eq_false (by omega))) | (apply ef_gn; exact rfl; (first | exact (rfl : true = true) | exact (rfl : false = false) | exact (rfl : true = !false) | exact (rfl : false = !true) | assumption | exact decide_eq_true (by omega) | exact decide_eq_false (by omega)); exact rfl) | (apply ef_gu; exact rfl; exact rfl) | (apply ef_pick; (iterate 3 exact rfl)) | (apply ef_pickb; (iterate 4 exact rfl)) | (apply ef_len; exact rfl; exact rfl; (first | assumption | exact rfl)) | (apply ef_notT; exact rfl; exact rfl) | (apply ef_notF; exact rfl; exact rfl) | (apply ef_not; (iterate 3 exact rfl)) | (apply ef_ext; (iterate 3 exact rfl)) | apply ef_nil | apply seqQ.normal | apply ef_ret | apply seqQ.ret | apply ef_skip | (apply ef_condt; exact rfl; (first | exact (rfl : true = true) | assumption | exact decide_eq_true (by omega))) | (apply ef_condf; exact rfl; (first | exact (rfl : false = false) | assumption | exact decide_eq_false (by omega))) | (apply ef_call; exact rfl; ((repeat (apply XVs.cons; exact rfl)); exact XVs.nil); (with_reducible first | exact w1 _ | exact r5 _)))
    (refine fin1 rfl (by exact rfl) rfl ?_)
    rfl
   ·have hpq : P = (q, 0) := hpq
    subst hpq
    obtain ⟨g1, g2, g3⟩ := hok rfl
    by_cases hq : q = d
    ·generalize onD d 0 l = L at *
     repeat (first | first | apply ef_seq | (apply ef_mv; exact rfl; exact rfl) | (apply ef_bin; (iterate 3 exact rfl); (first | exact cmp_t rfl (by first | exact rfl | (simp only [cmpP]; omega)) | exact cmp_f rfl (by simp only [cmpP]; omega) | ((with_reducible refine bin_sub (wrap_of ?_ ?_)) <;> omega) | with_reducible exact bin_sub (by assumption) | exact rfl)) | (apply ef_gy; exact rfl; (first | exact (rfl : true = true) | exact (rfl : false = false) | exact (rfl : true = !false) | exact (rfl : false = !true) | assumption | exact decide_eq_true (by omega) | exact decide_eq_false (by omega))) | (apply ef_gn; exact rfl; (first | exact (rfl : true = true) | exact (rfl : false = false) | exact (rfl : true = !false) | exact (rfl : false = !true) | assumption | exact decide_eq_true (by omega) | exact decide_eq_false (by omega)); exact rfl) | (apply ef_gu; exact rfl; exact rfl) | (apply ef_pick; (iterate 3 exact rfl)) | (apply ef_pickb; (iterate 4 exact rfl)) | (apply ef_len; exact rfl; exact rfl; (first | assumption | exact rfl)) | (apply ef_notT; exact rfl; exact rfl) | (apply ef_notF; exact rfl; exact rfl) | (apply ef_not; (iterate 3 exact rfl)) | (apply ef_ext; (iterate 3 exact rfl)) | apply ef_nil | apply seqQ.normal | apply ef_ret | apply seqQ.ret | apply ef_skip | (apply ef_condt; exact rfl; (first | exact (rfl : true = true) | assumption | exact decide_eq_true (by omega))) | (apply ef_condf; exact rfl; (first | exact (rfl : false = false) | assumption | exact decide_eq_false (by omega))) | (apply ef_call; exact rfl; ((repeat (apply XVs.cons; exact rfl)); exact XVs.nil); (with_reducible first | exact aw _ | exact fw _ | exact cp _ | exact c1 _ | exact c2 _ | exact c3 _ | exact r1 _ | exact r2 _ | exact r3 _)))
     (apply ef_call; (· exact rfl); (· ((repeat (apply XVs.cons; exact rfl)); exact XVs.nil)); · exact bInts_c 13 L L _ (by omega) (frz_row (o := ⟨0, decide (L.length = 0), 1, L.map I64⟩) rfl rfl (by simp) hL rfl) (frz_row (o := ⟨0, decide (L.length = 0), 1, L.map I64⟩) rfl rfl (by simp) hL rfl) (beq_self_eq_true L))
     repeat (first | first | apply ef_seq | (apply ef_mv; exact rfl; exact rfl) | (apply ef_bin; (iterate 3 exact rfl); (first | exact cmp_t rfl (by first | exact rfl | (simp only [cmpP]; omega)) | exact cmp_f rfl (by simp only [cmpP]; omega) | ((with_reducible refine bin_sub (wrap_of ?_ ?_)) <;> omega) | with_reducible exact bin_sub (by assumption) | exact rfl)) | (apply ef_gy; exact rfl; (first | exact (rfl : true = true) | exact (rfl : false = false) | exact (rfl : true = !false) | exact (rfl : false = !true) | assumption | exact decide_eq_true (by omega) | exact decide_eq_false (by omega))) | (apply ef_gn; exact rfl; (first | exact (rfl : true = true) | exact (rfl : false = false) | exact (rfl : true = !false) | exact (rfl : false = !true) | assumption | exact decide_eq_true (by omega) | exact decide_eq_false (by omega)); exact rfl) | (apply ef_gu; exact rfl; exact rfl) | (apply ef_pick; (iterate 3 exact rfl)) | (apply ef_pickb; (iterate 4 exact rfl)) | (apply ef_len; exact rfl; exact rfl; (first | assumption | exact rfl)) | (apply ef_notT; exact rfl; exact rfl) | (apply ef_notF; exact rfl; exact rfl) | (apply ef_not; (iterate 3 exact rfl)) | (apply ef_ext; (iterate 3 exact rfl)) | apply ef_nil | apply seqQ.normal | apply ef_ret | apply seqQ.ret | apply ef_skip | (apply ef_condt; exact rfl; (first | exact (rfl : true = true) | assumption | exact decide_eq_true (by omega))) | (apply ef_condf; exact rfl; (first | exact (rfl : false = false) | assumption | exact decide_eq_false (by omega))) | (apply ef_call; exact rfl; ((repeat (apply XVs.cons; exact rfl)); exact XVs.nil); (with_reducible first | exact w1 _ | exact r5 _)))
     (refine fin1 rfl (by exact rfl) rfl ?_)
     rfl
    ·replace g3 : 0 < (onD (q - 1) 0 l).length := g3.resolve_left hq
     have r6 := r4 (q - 1)
     generalize onD (q - 1) 0 l = L2 at *
     generalize onD d 0 l = L at *
     repeat (first | first | apply ef_seq | (apply ef_mv; exact rfl; exact rfl) | (apply ef_bin; (iterate 3 exact rfl); (first | exact cmp_t rfl (by first | exact rfl | (simp only [cmpP]; omega)) | exact cmp_f rfl (by simp only [cmpP]; omega) | ((with_reducible refine bin_sub (wrap_of ?_ ?_)) <;> omega) | with_reducible exact bin_sub (by assumption) | exact rfl)) | (apply ef_gy; exact rfl; (first | exact (rfl : true = true) | exact (rfl : false = false) | exact (rfl : true = !false) | exact (rfl : false = !true) | assumption | exact decide_eq_true (by omega) | exact decide_eq_false (by omega))) | (apply ef_gn; exact rfl; (first | exact (rfl : true = true) | exact (rfl : false = false) | exact (rfl : true = !false) | exact (rfl : false = !true) | assumption | exact decide_eq_true (by omega) | exact decide_eq_false (by omega)); exact rfl) | (apply ef_gu; exact rfl; exact rfl) | (apply ef_pick; (iterate 3 exact rfl)) | (apply ef_pickb; (iterate 4 exact rfl)) | (apply ef_len; exact rfl; exact rfl; (first | assumption | exact rfl)) | (apply ef_notT; exact rfl; exact rfl) | (apply ef_notF; exact rfl; exact rfl) | (apply ef_not; (iterate 3 exact rfl)) | (apply ef_ext; (iterate 3 exact rfl)) | apply ef_nil | apply seqQ.normal | apply ef_ret | apply seqQ.ret | apply ef_skip | (apply ef_condt; exact rfl; (first | exact (rfl : true = true) | assumption | exact decide_eq_true (by omega))) | (apply ef_condf; exact rfl; (first | exact (rfl : false = false) | assumption | exact decide_eq_false (by omega))) | (apply ef_call; exact rfl; ((repeat (apply XVs.cons; exact rfl)); exact XVs.nil); (with_reducible first | exact aw _ | exact fw _ | exact cp _ | exact c1 _ | exact c2 _ | exact c3 _ | exact r1 _ | exact r2 _ | exact r3 _)))
     (apply ef_call; (· exact rfl); (· ((repeat (apply XVs.cons; exact rfl)); exact XVs.nil)); · exact bInts_c 13 L L _ (by omega) (frz_row (o := ⟨0, decide (L.length = 0), 1, L.map I64⟩) rfl rfl (by simp) hL rfl) (frz_row (o := ⟨0, decide (L.length = 0), 1, L.map I64⟩) rfl rfl (by simp) hL rfl) (beq_self_eq_true L))
     repeat (first | first | apply ef_seq | (apply ef_mv; exact rfl; exact rfl) | (apply ef_bin; (iterate 3 exact rfl); (first | exact cmp_t rfl (by first | exact rfl | (simp only [cmpP]; omega)) | exact cmp_f rfl (by simp only [cmpP]; omega) | ((with_reducible refine bin_sub (wrap_of ?_ ?_)) <;> omega) | with_reducible exact bin_sub (by assumption) | exact rfl)) | (apply ef_gy; exact rfl; (first | exact (rfl : true = true) | exact (rfl : false = false) | exact (rfl : true = !false) | exact (rfl : false = !true) | assumption | exact decide_eq_true (by omega) | exact decide_eq_false (by omega))) | (apply ef_gn; exact rfl; (first | exact (rfl : true = true) | exact (rfl : false = false) | exact (rfl : true = !false) | exact (rfl : false = !true) | assumption | exact decide_eq_true (by omega) | exact decide_eq_false (by omega)); exact rfl) | (apply ef_gu; exact rfl; exact rfl) | (apply ef_pick; (iterate 3 exact rfl)) | (apply ef_pickb; (iterate 4 exact rfl)) | (apply ef_len; exact rfl; exact rfl; (first | assumption | exact rfl)) | (apply ef_notT; exact rfl; exact rfl) | (apply ef_notF; exact rfl; exact rfl) | (apply ef_not; (iterate 3 exact rfl)) | (apply ef_ext; (iterate 3 exact rfl)) | apply ef_nil | apply seqQ.normal | apply ef_ret | apply seqQ.ret | apply ef_skip | (apply ef_condt; exact rfl; (first | exact (rfl : true = true) | assumption | exact decide_eq_true (by omega))) | (apply ef_condf; exact rfl; (first | exact (rfl : false = false) | assumption | exact decide_eq_false (by omega))) | (apply ef_call; exact rfl; ((repeat (apply XVs.cons; exact rfl)); exact XVs.nil); (with_reducible first | exact w1 _ | exact r5 _ | exact r6 _)))
     (refine fin1 rfl (by exact rfl) rfl ?_)
     rfl
 ·obtain ⟨e, he⟩ : ∃ e, datE l d = e := ⟨_, rfl⟩
  have he2 : earE l d n = e := by unfold earE; rw [he]; rw [he] at hde; simp [firstE, hde]
  have c2 := fun M => ClosedOn_bad 6 l d e (M ++ [⟨0, false, 3, l.map encCd⟩]) (by omega) hn' (fz0 M) he (by rw [← he]; exact hde)
  have c3 := fun M => EarF_bad 5 l d n e (M ++ [⟨0, false, 3, l.map encCd⟩]) (by omega) hn' (fz0 M) he2 (by rw [← he]; exact hde)
  rw [he] at r2 hde
  repeat (first | first | apply ef_seq | (apply ef_mv; exact rfl; exact rfl) | (apply ef_bin; (iterate 3 exact rfl); (first | exact cmp_t rfl (by first | exact rfl | (simp only [cmpP]; omega)) | exact cmp_f rfl (by simp only [cmpP]; omega) | ((with_reducible refine bin_sub (wrap_of ?_ ?_)) <;> omega) | with_reducible exact bin_sub (by assumption) | exact rfl)) | (apply ef_gy; exact rfl; (first | exact (rfl : true = true) | exact (rfl : false = false) | exact (rfl : true = !false) | exact (rfl : false = !true) | assumption | exact decide_eq_true (by omega) | exact decide_eq_false (by omega))) | (apply ef_gn; exact rfl; (first | exact (rfl : true = true) | exact (rfl : false = false) | exact (rfl : true = !false) | exact (rfl : false = !true) | assumption | exact decide_eq_true (by omega) | exact decide_eq_false (by omega)); exact rfl) | (apply ef_gu; exact rfl; exact rfl) | (apply ef_pick; (iterate 3 exact rfl)) | (apply ef_pickb; (iterate 4 exact rfl)) | (apply ef_len; exact rfl; exact rfl; (first | assumption | exact rfl)) | (apply ef_notT; exact rfl; exact rfl) | (apply ef_notF; exact rfl; exact rfl) | (apply ef_not; (iterate 3 exact rfl)) | (apply ef_ext; (iterate 3 exact rfl)) | apply ef_nil | apply seqQ.normal | apply ef_ret | apply seqQ.ret | apply ef_skip | (apply ef_condt; exact rfl; (first | exact (rfl : true = true) | assumption | exact decide_eq_true (by omega))) | (apply ef_condf; exact rfl; (first | exact (rfl : false = false) | assumption | exact decide_eq_false (by omega))) | (apply ef_call; exact rfl; ((repeat (apply XVs.cons; exact rfl)); exact XVs.nil); (with_reducible first | exact aw _ | exact fw _ | exact cp _ | exact c1 _ | exact c2 _ | exact c3 _ | exact r1 _ | exact r2 _)))
  (refine fin1 rfl (by exact rfl) rfl ?_)
  rfl
end Go.Proofs.YtnmgpbihknjdjaaGreatDoor

/- TargetDates: from values of the small language to the program's. -/
namespace Go.Proofs.YtnmgpbihknjdjaaGreatDoor
open Go.ChangeShapes Go.WideShapes Go.ChangeAt Go.RowKit
def clSh : Sh := .agg [.str, i64Sh, i64Sh]
theorem fits_i64d {m : MV} (h : Fits i64Sh m) : ∃ n : Int, m = I64 n := by
 obtain ⟨n, rfl, -⟩ := fits_int h
 exact ⟨n, rfl⟩
theorem fits_strd {m : MV} (h : Fits .str m) : ∃ s : ByteArray, m = .lit (.string s) ∧ (s.size : Int) ≤ 9223372036854775807 := by
 unfold Fits at h
 obtain ⟨s, rfl, hs⟩ := h
 exact ⟨s, rfl, by unfold maxLen at hs; omega⟩
structure CdB (c : Cd) : Prop where
 sz : (c.o.size : Int) ≤ 9223372036854775807
theorem fits_cd {m : MV} (h : Fits clSh m) : ∃ c : { c : Cd // CdB c }, m = encCd c.val := by
 obtain ⟨ms, h', rfl⟩ := fits_agg h
 obtain ⟨m1, r1, rfl, h1, h⟩ := fitsL_cons h'
 obtain ⟨m2, r2, rfl, h2, h⟩ := fitsL_cons h
 obtain ⟨m3, r3, rfl, h3, h⟩ := fitsL_cons h
 obtain rfl := fitsL_nil h
 obtain ⟨a, rfl, ha⟩ := fits_strd h1
 obtain ⟨b, rfl⟩ := fits_i64d h2
 obtain ⟨c, rfl⟩ := fits_i64d h3
 exact ⟨⟨⟨a, b, c⟩, ⟨ha⟩⟩, rfl⟩
theorem fits_cds {m : MV} (h : Fits (.slice clSh) m) : ∃ l : List Cd, m = .sl (l.map encCd) ∧ (l.length : Int) ≤ 9223372036854775807 ∧ ∀ z ∈ l, (z.o.size : Int) ≤ 9223372036854775807 := by
 obtain ⟨l, rfl, hl⟩ := fits_list (fun c : { c : Cd // CdB c } => encCd c.val) (fun m h => fits_cd h) h
 refine ⟨l.map Subtype.val, by rw [List.map_map]; rfl, by rw [List.length_map]; omega, fun z hz => ?_⟩
 obtain ⟨c, _, rfl⟩ := List.mem_map.1 hz
 exact c.2.sz
def datesShs : List Sh := [.slice clSh, i64Sh, i64Sh]
theorem dates_runs (ms : List MV) (h : FitsL datesShs ms) : runZ MT (orA 14) (itA 14) 4000000 7 ms [] = some (.lit (.bool true), []) := by
 obtain ⟨m1, r1, rfl, h1, h⟩ := fitsL_cons h
 obtain ⟨m2, r2, rfl, h2, h⟩ := fitsL_cons h
 obtain ⟨m3, r3, rfl, h3, h⟩ := fitsL_cons h
 obtain rfl := fitsL_nil h
 obtain ⟨l, rfl, q1, q2⟩ := fits_cds h1
 obtain ⟨a, rfl⟩ := fits_i64d h2
 obtain ⟨b, rfl⟩ := fits_i64d h3
 exact TargetDates_z l a b q1 q2
set_option maxRecDepth 100000 in
theorem dates_lifted (os : Os) (started : os.Started) (H : Type) (enc : TypeId × Value → H) :
  ReturnsInHanded {} Tryz.checked os 7 .any (fun w args => (Rows.targetDatesSpec.pre enc Tryz.prog Tryz.f7 [] false w args ∧ laidMetH Tryz.prog Rows.targetDatesRow.laid w) ∧ sizedMet enc Tryz.prog Tryz.f7 (OpenSpec.ofChange Rows.targetDatesSpec) false w args)
   (Rows.targetDatesSpec.post enc Tryz.prog Tryz.f7 false true false false) := by
 refine returnsInHanded_of_change_and (C := Tryz.checked) (X := fun w _ => laidMetH Tryz.prog Rows.targetDatesRow.laid w) (fun _ _ _ hh h => h.of_heap hh) Tryz.own started (by kernel_rfl) Tryz.func7
  (ChangeSpec.witness_shaped (enc := enc) (C := Tryz.checked) (os := os) (X := fun w _ => laidMetH Tryz.prog Rows.targetDatesRow.laid w) false (World.doorLaid Tryz.prog 200 os) #[.slice none 0 0, .int .i64 0, .int .i64 0] 8 rfl (World.shaped_of_RefB (by kernel_rfl) (by kernel_rfl)) (by kernel_rfl) (by kernel_rfl) (by kernel_rfl)
   (laidMetH_of_parts3 (fuel := 8) (laidMet_of_run' 8 (by kernel_rfl) (by kernel_rfl)) (by kernel_rfl) (by kernel_rfl))) ?_
 intro W base args ds gs before hval hW _ _ hL _
 exact law_contractT (orZ_ok (by kernel_rfl) (tabOf_ok Tryz.prog) tA_ok (tI_ok) 14) datesShs (by kernel_rfl) (by kernel_rfl) rfl rfl (fun ds h => by match ds, h with | [_, _, _], _ => exact ⟨rfl, rfl, rfl⟩) dates_runs W base args ds gs before hval hW
  (tabs_laid hL (List.mem_cons_of_mem _ (List.mem_cons_self ..)))
end Go.Proofs.YtnmgpbihknjdjaaGreatDoor

/- Facts of the whole program that each row asks for. -/
namespace Go.Proofs.YtnmgpbihknjdjaaGreatDoor
open Go
theorem jfA : laidOutB Tryz.pinned.checked.prog = true := by kernel_rfl
theorem jfB : mapsRowed Tryz.pinned.checked.prog = true := by kernel_rfl
theorem jfC : (Tryz.pinned.checked.prog.stops == []) = true := by kernel_rfl
theorem jfD : (Tryz.pinned.checked.prog.stopKnobs == []) = true := by kernel_rfl
theorem jfE : Tryz.pinned.checked.prog.stopsHeard = true := by kernel_rfl
theorem jfF : Tryz.pinned.checked.prog.mayEnter = true := by kernel_rfl
theorem jfG : (false == Tryz.pinned.checked.prog.plainKeys) = true := by kernel_rfl
theorem and_t {a b : Bool} (h : a = true) (g : b = true) : (a && b) = true := by rw [h, g]; rfl
end Go.Proofs.YtnmgpbihknjdjaaGreatDoor

/- The row of TargetDates. -/
namespace Go.Proofs.YtnmgpbihknjdjaaGreatDoor
open Go Go.ChangeShapes Go.WideShapes Go.ChangeAt Go.RowKit
set_option linter.unusedVariables false
theorem jfdates_0 : Rows.targetDatesRow.wf (OpenSpec.ofChange Rows.targetDatesSpec) = true := by kernel_rfl
theorem jfdates_3 : Tryz.f7.params.all (Tryz.pinned.checked.prog.readableRec ·) = true := by kernel_rfl
theorem jfdates_4 : namedTie Tryz.pinned.checked.prog Rows.targetDatesRow.named Rows.targetDatesSpec.vars = true := by kernel_rfl
theorem jfdates_5 : (Rows.targetDatesRow.stops == []) = true := by kernel_rfl
theorem jfdates_7 : (Rows.targetDatesRow.knobs == []) = true := by kernel_rfl
theorem jfdates_9 : (Rows.targetDatesRow.inPlace == Tryz.pinned.checked.prog.inPlace 7) = true := by kernel_rfl
theorem jfdates_10 : (Rows.targetDatesRow.unfollowed == Tryz.pinned.checked.prog.unfollowed 7) = true := by kernel_rfl
theorem jfdates_11 : (Rows.targetDatesRow.recurses == Tryz.pinned.checked.prog.recurses 7) = true := by kernel_rfl
theorem jfdates_12 : (Rows.targetDatesRow.named == Tryz.pinned.checked.prog.varsNamed 7) = true := by kernel_rfl
theorem jfdates_13 : (Rows.targetDatesRow.maps == (Tryz.f7.params.toList ++ Rows.targetDatesSpec.plain.varTypes Tryz.pinned.checked.prog).any (Tryz.pinned.checked.prog.mapsRec ·)) = true := by kernel_rfl
theorem jfdates_14 : (Rows.targetDatesRow.ifaces == (Tryz.f7.params.toList ++ Rows.targetDatesSpec.plain.varTypes Tryz.pinned.checked.prog).any (Tryz.pinned.checked.prog.ifacesRec ·)) = true := by kernel_rfl
theorem jfdates_15 : (Rows.targetDatesRow.mapsOut == Tryz.pinned.checked.prog.mapsAmong Tryz.f7.resultTypes.toList) = true := by kernel_rfl
theorem jfdates_16 : (Rows.targetDatesRow.loops == (Tryz.f7.params.toList ++ Rows.targetDatesSpec.plain.varTypes Tryz.pinned.checked.prog).any (Tryz.pinned.checked.prog.loopsFrom ·)) = true := by kernel_rfl
theorem jfdates_17 : (Rows.targetDatesRow.wideKeys == (Tryz.f7.params.toList ++ Rows.targetDatesSpec.plain.varTypes Tryz.pinned.checked.prog ++ Tryz.f7.resultTypes.toList).any (Tryz.pinned.checked.prog.wideKeysFrom ·)) = true := by kernel_rfl
theorem jfdates_18 : Rows.targetDatesSpec.vars.all (Tryz.pinned.checked.prog.varReadable ·) = true := by kernel_rfl
theorem jfdates_19 : Tryz.f7.resultTypes.all (fun t => Tryz.pinned.checked.prog.readableRec t && decide (t < Tryz.pinned.checked.prog.types.size)) = true := by kernel_rfl
theorem jfdates_20 : (Rows.targetDatesRow.ifacesOut == Tryz.f7.resultTypes.toList.any (Tryz.pinned.checked.prog.ifacesRec ·)) = true := by kernel_rfl
theorem jfdates_21 : (Rows.targetDatesRow.loopsOut == Tryz.f7.resultTypes.toList.any (Tryz.pinned.checked.prog.loopsFrom ·)) = true := by kernel_rfl
theorem jfdates_23 : Rows.targetDatesRow.shortTexts.isNone = true := by kernel_rfl
theorem jfdates_26 : (Rows.targetDatesRow.lifted == Tryz.pinned.checked.prog.liftsFinal) = true := by kernel_rfl
theorem jfdates_27 : (Tryz.pinned.checked.prog.make == some Rows.targetDatesRow.make) = true := by kernel_rfl
theorem jfdates_29 : (Rows.targetDatesRow.pinned == Rows.targetDatesRow.pinnedBy) = true := by kernel_rfl
theorem jfdates_30 : (Rows.targetDatesRow.veiled == (Tryz.f7.params.toList ++ Rows.targetDatesSpec.plain.varTypes Tryz.pinned.checked.prog ++ Tryz.f7.resultTypes.toList).any (Tryz.pinned.checked.prog.veiledRec ·)) = true := by kernel_rfl
theorem jfdates_31 : Rows.targetDatesRow.veiledFits Tryz.pinned.checked.prog Tryz.f7.params.toList (Tryz.f7.params.toList ++ Rows.targetDatesSpec.plain.varTypes Tryz.pinned.checked.prog ++ Tryz.f7.resultTypes.toList) = true := by kernel_rfl
theorem jfdates : joinedFacts Tryz.pinned.checked.prog 7 Tryz.f7 Rows.targetDatesSpec Rows.targetDatesRow = true := by
 unfold joinedFacts
 refine and_t (and_t (and_t (and_t (and_t (and_t (and_t (and_t (and_t (and_t (and_t (and_t (and_t (and_t (and_t (and_t (and_t (and_t (and_t (and_t (and_t (and_t (and_t (and_t (and_t (and_t (and_t (and_t (and_t (and_t (and_t jfdates_0 jfA) jfB) jfdates_3) jfdates_4) jfdates_5) jfC) jfdates_7) jfD) jfdates_9) jfdates_10) jfdates_11) jfdates_12) jfdates_13) jfdates_14) jfdates_15) jfdates_16) jfdates_17) jfdates_18) jfdates_19) jfdates_20) jfdates_21) jfG) jfdates_23) jfE) jfF) jfdates_26) jfdates_27) (by kernel_rfl)) jfdates_29) jfdates_30) jfdates_31
theorem targetDates_row : Rows.targetDatesRow.holds Tryz.pinned (OpenSpec.ofChange Rows.targetDatesSpec) :=
 OpenClaim.holds_of_wide 7 Tryz.f7 rfl rfl rfl rfl rfl rfl rfl ⟨rfl, rfl, rfl, rfl, rfl⟩ rfl rfl rfl rfl rfl (by kernel_rfl) Tryz.func7 jfdates
  (of_decide_eq_true (by kernel_rfl)) (by unfold Func.isWrapper; rw [if_neg (of_decide_eq_false (by kernel_rfl))]; exact ⟨rfl, rfl⟩)
  (fun os started H enc _ => dates_lifted os started H enc)
end Go.Proofs.YtnmgpbihknjdjaaGreatDoor
