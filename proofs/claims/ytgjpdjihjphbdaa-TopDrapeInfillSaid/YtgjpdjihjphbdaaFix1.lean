/- Contracts of the program: fixes and rules. -/
import Derived.Test.YtgjpdjihjphbdaaPr1
namespace Go.Proofs.Ytgjpdjihjphbdaa
open Go.RowKit

structure Fx where
  o : Int
  h : Int
  n : Int
def encX : Fx → MV
  | ⟨a, b, c⟩ => .agg [I64 a, I64 b, I64 c]
theorem ltL_X (n : Nat) (fs : List Fx) : ltL n (fs.map encX) = true := ltL_lits (fun ⟨_, _, _⟩ => rfl) fs
/-- The rules. -/
structure Ru where
  drift : Int
  over : Int
  low : Int
  high : Int
  noise : Int
def encU : Ru → MV
  | ⟨a, b, c, d, e⟩ => .agg [I64 a, I64 b, I64 c, I64 d, I64 e]

theorem mf_isHeight : MT.mf 94 = some ⟨5, [(.tmp 2)], (.seq (.reg [⟨none, (some 2), (.mv (.c (.lit (.bool false))))⟩]) (.seq (.reg [⟨none, (some 3), (.mv (.s 0))⟩, ⟨none, (some 4), (.call 129 [(.s 3), (.c (.lit (.int .i64 0))), (.c (.lit (.int .i64 10000)))])⟩, ⟨none, (some 2), (.mv (.s 4))⟩]) .ret))⟩ := by kernel_rfl
theorem isHeight_c (k : Nat) (a : Int) (h : MHeap) {t : Bool} (ht : inB a 0 10000 = t) : orA (k + 2) 94 [I64 a] h = some (Bo t, h) := by
  refine callL (frz_lits [.int .i64 a]) rfl (runZ_of mf_isHeight (by simp) ?_)
  simp only [argsL, List.map_cons, List.map_nil]
  repeat (first | apply ef_seq | (apply ef_mv; exact rfl; exact rfl) | apply ef_nil | apply seqQ.normal | apply ef_ret | (apply ef_call; exact rfl; ((repeat (apply XVs.cons; exact rfl)); exact XVs.nil); (with_reducible exact within_c _ _ _ _ _ rfl)))
  (refine fin1 rfl (by exact rfl) rfl ?_)
  rw [ht]
theorem mf_isSized : MT.mf 146 = some ⟨10, [(.tmp 4)], (.seq (.reg [⟨none, (some 4), (.mv (.c (.lit (.bool false))))⟩]) (.seq (.reg [⟨none, (some 5), (.mv (.s 0))⟩, ⟨none, (some 6), (.mv (.s 1))⟩, ⟨none, (some 7), (.un .neg (.s 6))⟩, ⟨none, (some 8), (.mv (.s 1))⟩, ⟨none, (some 9), (.call 129 [(.s 5), (.s 7), (.s 8)])⟩, ⟨none, (some 4), (.mv (.s 9))⟩]) .ret))⟩ := by kernel_rfl
theorem isSized_c (k : Nat) (a m : Int) (h : MHeap) {t : Bool} (h0 : 0 ≤ m) (h1 : m ≤ 10000) (ht : inB a (0 - m) m = t) : orA (k + 2) 146 [I64 a, I64 m] h = some (Bo t, h) := by
  refine callL (frz_lits [.int .i64 a, .int .i64 m]) rfl (runZ_of mf_isSized (by simp) ?_)
  simp only [argsL, List.map_cons, List.map_nil]
  repeat (first | apply ef_seq | (apply ef_mv; exact rfl; exact rfl) | (apply ef_neg; exact rfl; exact rfl; exact wrap_of (by omega) (by omega)) | apply ef_nil | apply seqQ.normal | apply ef_ret | (apply ef_call; exact rfl; ((repeat (apply XVs.cons; exact rfl)); exact XVs.nil); (with_reducible exact within_c _ _ _ _ _ rfl)))
  (refine fin1 rfl (by exact rfl) rfl ?_)
  rw [ht]

/-- A fix that is out of range. -/
def strangeX (f : Fx) : Bool := !(inB f.o (0 - 10000) 10000) || !(inB f.h 0 10000) || !(inB f.n 0 10000)
theorem mf_fixesErr1 : MT.mf 164 = some ⟨19, [(.tmp 2)], (.seq (.reg [⟨none, (some 1), (.box 3 (.s 0))⟩, ⟨none, (some 2), (.mv (.c (.lit (.bool false))))⟩]) (.seq (.reg [⟨none, (some 3), (.fa 0 (.s 1))⟩, ⟨none, (some 4), (.ld none (.s 3))⟩, ⟨none, (some 5), (.call 146 [(.s 4), (.c (.lit (.int .i64 10000)))])⟩, ⟨none, (some 6), (.un .not (.s 5))⟩, ⟨none, (some 7), (.mv (.s 6))⟩, ⟨(some (7, false)), (some 8), (.fa 1 (.s 1))⟩, ⟨(some (7, false)), (some 9), (.ld none (.s 8))⟩, ⟨(some (7, false)), (some 10), (.call 94 [(.s 9)])⟩, ⟨(some (7, false)), (some 11), (.un .not (.s 10))⟩, ⟨none, (some 12), (.pick (.s 7) (.c (.lit (.bool true))) (.s 11))⟩, ⟨none, (some 13), (.mv (.s 12))⟩, ⟨(some (13, false)), (some 14), (.fa 2 (.s 1))⟩, ⟨(some (13, false)), (some 15), (.ld none (.s 14))⟩, ⟨(some (13, false)), (some 16), (.call 94 [(.s 15)])⟩, ⟨(some (13, false)), (some 17), (.un .not (.s 16))⟩, ⟨none, (some 18), (.pick (.s 13) (.c (.lit (.bool true))) (.s 17))⟩, ⟨none, (some 2), (.mv (.s 18))⟩]) .ret))⟩ := by kernel_rfl
theorem fixesErr1_c (k : Nat) (f : Fx) (h : MHeap) : orA (k + 3) 164 (encX f :: []) h = some (Bo (strangeX f), h) := by
  obtain ⟨a, b, c⟩ := f
  refine callL (args' := [.agg [I64 a, I64 b, I64 c]]) (by simp [List.mapM_cons, frz, MV.lt, ltL, encX]) rfl (runZ_of mf_fixesErr1 (by simp) ?_)
  simp only [argsL]
  have hs : ∀ t, inB a (0 - 10000) 10000 = t → ∀ h, orA (k + 2) 146 [I64 a, I64 10000] h = some (Bo t, h) := fun t ht h => isSized_c k a 10000 h (by omega) (by omega) ht
  cases h1 : inB a (0 - 10000) 10000
  · have hs := hs _ h1
    repeat (first | apply ef_seq | (apply ef_mv; exact rfl; exact rfl) | (apply ef_gn; exact rfl; (exact (rfl : true = true)); exact rfl) | (apply ef_pick; exact rfl; exact rfl; exact rfl) | (apply ef_ldp; exact rfl; exact rfl; exact rfl; exact rfl; (exact rfl); (exact rfl)) | (apply ef_fap; exact rfl; exact rfl) | (apply ef_notF; exact rfl; exact rfl) | (apply ef_box; exact rfl; exact rfl; exact rfl; exact rfl) | apply ef_nil | apply seqQ.normal | apply ef_ret | (apply ef_call; exact rfl; ((repeat (apply XVs.cons; exact rfl)); exact XVs.nil); (with_reducible exact hs _)))
    (refine fin1 rfl (by exact rfl) rfl ?_)
    simp only [strangeX, h1, Bool.not_false, Bool.true_or]
  · have hs := hs _ h1
    cases h2 : inB b 0 10000
    · repeat (first | apply ef_seq | (apply ef_mv; exact rfl; exact rfl) | (apply ef_gy; exact rfl; (exact (rfl : false = false))) | (apply ef_gn; exact rfl; (exact (rfl : true = true)); exact rfl) | (apply ef_pick; exact rfl; exact rfl; exact rfl) | (apply ef_ldp; exact rfl; exact rfl; exact rfl; exact rfl; (exact rfl); (exact rfl)) | (apply ef_fap; exact rfl; exact rfl) | (apply ef_notT; exact rfl; exact rfl) | (apply ef_notF; exact rfl; exact rfl) | (apply ef_box; exact rfl; exact rfl; exact rfl; exact rfl) | apply ef_nil | apply seqQ.normal | apply ef_ret | (apply ef_call; exact rfl; ((repeat (apply XVs.cons; exact rfl)); exact XVs.nil); (with_reducible first | exact hs _ | exact isHeight_c _ _ _ (by assumption))))
      (refine fin1 rfl (by exact rfl) rfl ?_)
      simp only [strangeX, h1, h2, Bool.not_false, Bool.not_true, Bool.true_or, Bool.or_true, Bool.false_or]
    · cases h3 : inB c 0 10000
      all_goals repeat (first | apply ef_seq | (apply ef_mv; exact rfl; exact rfl) | (apply ef_gy; exact rfl; (exact (rfl : false = false))) | (apply ef_pick; exact rfl; exact rfl; exact rfl) | (apply ef_ldp; exact rfl; exact rfl; exact rfl; exact rfl; (exact rfl); (exact rfl)) | (apply ef_fap; exact rfl; exact rfl) | (apply ef_notT; exact rfl; exact rfl) | (apply ef_notF; exact rfl; exact rfl) | (apply ef_box; exact rfl; exact rfl; exact rfl; exact rfl) | apply ef_nil | apply seqQ.normal | apply ef_ret | (apply ef_call; exact rfl; ((repeat (apply XVs.cons; exact rfl)); exact XVs.nil); (with_reducible first | exact hs _ | exact isHeight_c _ _ _ (by assumption))))
      all_goals (refine fin1 rfl (by exact rfl) rfl ?_)
      all_goals simp only [strangeX, h1, h2, h3, Bool.not_false, Bool.not_true, Bool.true_or, Bool.or_true, Bool.false_or]

/-- The index of the first fix. -/
def fIy (P : Fx → Bool) : List Fx → Nat → Int
  | [], _ => -1
  | z :: zs, i => if P z then i else fIy P zs (i + 1)
theorem fIy_spec (P : Fx → Bool) : ∀ (zs : List Fx) (s : Nat), (fIy P zs s = -1 ∧ ∀ z ∈ zs, P z = false) ∨ ∃ (i : Nat) (h : i < zs.length), fIy P zs s = ((s + i : Nat) : Int) ∧ P zs[i] = true
  | [], s => .inl ⟨rfl, fun z h => by cases h⟩
  | z :: zs, s => by
    by_cases hz : P z = true
    · exact .inr ⟨0, by simp, by simp [fIy, hz], hz⟩
    · rcases fIy_spec P zs (s + 1) with ⟨h1, h2⟩ | ⟨i, hi, h1, h2⟩
      · refine .inl ⟨by simp [fIy, hz, h1], fun w hw => ?_⟩
        rcases List.mem_cons.1 hw with rfl | hw
        · simpa using hz
        · exact h2 w hw
      · refine .inr ⟨i + 1, by simpa using hi, ?_, by simpa using h2⟩
        simp only [fIy, hz]
        rw [if_neg (by simp), h1]
        congr 1; omega

theorem mf_IndexFuncX : MT.mf 170 = some ⟨19, [(.tmp 4)], (.seq (.reg [⟨none, (some 4), (.mv (.c (.lit (.int .i64 0))))⟩]) (.seq (.seq (.reg [⟨none, (some 6), (.mv (.s 0))⟩, ⟨none, (some 7), (.len (.s 6))⟩, ⟨none, (some 8), (.mv (.c (.lit (.int .i64 0))))⟩]) (.block 0 (.loop [8, 7, 1, 0] (.seq (.reg [⟨none, (some 9), (.bin .lss (.s 8) (.s 7))⟩]) (.seq (.cond (.s 9) .skip (.exit 0)) (.seq (.block 1 (.seq (.reg [⟨none, (some 10), (.mv (.s 8))⟩, ⟨none, (some 5), (.mv (.s 10))⟩]) (.seq (.reg [⟨none, (some 11), (.mv (.s 1))⟩, ⟨none, (some 12), (.mv (.s 0))⟩, ⟨none, (some 13), (.mv (.s 5))⟩, ⟨none, (some 14), (.ia 3 (.s 12) (.s 13))⟩, ⟨none, (some 15), (.ld (some 3) (.s 14))⟩, ⟨none, (some 16), (.callv (.s 11) [(.s 15)])⟩]) (.cond (.s 16) (.seq (.reg [⟨none, (some 17), (.mv (.s 5))⟩, ⟨none, (some 4), (.mv (.s 17))⟩]) .ret) .skip)))) (.reg [⟨none, (some 18), (.bin .add (.s 8) (.c (.lit (.int .i64 1))))⟩, ⟨none, (some 8), (.mv (.s 18))⟩]))))))) (.seq (.reg [⟨none, (some 4), (.mv (.c (.lit (.int .i64 (-1)))))⟩]) .ret)))⟩ := by kernel_rfl
theorem IndexFuncX_z (k g : Nat) (caps : List MV) (P : Fx → Bool) (zs : List Fx) (hx : zs.length ≤ 1000) (hg : ∀ z h, orA k g (encX z :: caps) h = some (Bo (P z), h)) :
    runZ MT (orA k) (itA k) 1000000 170 [.sl (zs.map encX), .fn g 0 caps] [] = some (I64 (fIy P zs 0), []) := by
  have hl : (MV.sl (zs.map encX)).slen = some zs.length := by simp [MV.slen]
  refine runZ_of mf_IndexFuncX (by simp) ?_
  simp only [argsL]
  repeat (first | apply ef_seq | (apply ef_mv; exact rfl; exact rfl) | (apply ef_len; exact rfl; exact rfl; (assumption)) | apply ef_nil | apply seqQ.normal | apply ef_block)
  refine ef_loop (α := Nat) (fun i => i ≤ zs.length ∧ fIy P zs 0 = fIy P (zs.drop i) i) (fun i => [(8, I64 (i : Int)), (7, I64 (zs.length : Int)), (1, .fn g 0 caps), (0, .sl (zs.map encX))]) (fun _ => []) (fun i => zs.length - i) 0 [8, 7, 1, 0] (fun _ => rfl) rfl ⟨by omega, rfl⟩ (by simp; omega) (by ((repeat (refine Hold.cons (by exact rfl) ?_)); exact Hold.nil)) rfl ?_
  rintro i ⟨hi, hz⟩
  by_cases hlt : i < zs.length
  · have e1 := at_map encX zs i hlt
    have HD := Lib.hid (drop_at zs i hlt)
    have HZ := Lib.hid hz
    have hg1 := hg zs[i]
    clear hz
    obtain ⟨t, ht⟩ : ∃ t, P zs[i] = t := ⟨_, rfl⟩
    have HT := Lib.hid ht
    rw [ht] at hg1
    clear ht
    generalize zs[i] = z at e1 HD hg1 HT
    obtain ⟨a, b, c⟩ := z
    cases t
    · repeat (first | apply ef_seq | (apply ef_mv; exact rfl; exact rfl) | (apply ef_bin; exact rfl; exact rfl; exact rfl; (exact cmp_t rfl (by first | exact rfl | (simp only [cmpP]; omega)))) | (apply ef_ldr; exact rfl; exact rfl; (exact rd_3 rfl rfl rfl)) | (apply ef_ias; exact rfl; exact rfl; exact rfl; (omega); assumption; exact rfl) | apply ef_nil | apply seqQ.normal | apply ef_block | apply ef_skip | (apply ef_condt; exact rfl; (exact (rfl : true = true))))
      (apply ef_callv; exact rfl; exact rfl; ((repeat (apply XVs.cons; exact rfl)); exact XVs.nil); exact rfl; exact hg1 _)
      repeat (first | (apply ef_mv; exact rfl; exact rfl) | (apply ef_bin; exact rfl; exact rfl; exact rfl; (((with_reducible refine bin_add (wrap_of ?_ ?_)) <;> omega))) | apply ef_nil | apply seqQ.normal | apply blockQ.normal | apply ef_skip | (apply ef_condf; exact rfl; (exact (rfl : false = false))))
      (refine loopQ.normal _ _ ⟨i + 1, ⟨hlt, by rw [HZ.out, HD.out]; simp [fIy, HT.out]⟩, (by first | (simp only; omega) | omega), by ((repeat (refine Hold.cons (by exact rfl) ?_)); exact Hold.nil), .inl (Nat.le_refl _), (by first | exact List.take_length | exact rfl)⟩)
    · repeat (first | apply ef_seq | (apply ef_mv; exact rfl; exact rfl) | (apply ef_bin; exact rfl; exact rfl; exact rfl; (exact cmp_t rfl (by first | exact rfl | (simp only [cmpP]; omega)))) | (apply ef_ldr; exact rfl; exact rfl; (exact rd_3 rfl rfl rfl)) | (apply ef_ias; exact rfl; exact rfl; exact rfl; (omega); assumption; exact rfl) | apply ef_nil | apply seqQ.normal | apply ef_block | apply ef_skip | (apply ef_condt; exact rfl; (exact (rfl : true = true))))
      (apply ef_callv; exact rfl; exact rfl; ((repeat (apply XVs.cons; exact rfl)); exact XVs.nil); exact rfl; exact hg1 _)
      repeat (first | apply ef_seq | (apply ef_mv; exact rfl; exact rfl) | apply ef_nil | apply seqQ.normal | apply loopQ.ret | apply ef_ret | apply seqQ.ret | apply blockQ.ret | (apply ef_condt; exact rfl; (exact (rfl : true = true))))
      (refine fin1 rfl (by exact rfl) rfl ?_)
      rw [HZ.out, HD.out]; simp [fIy, HT.out]
  · repeat (first | apply ef_seq | (apply ef_mv; exact rfl; exact rfl) | (apply ef_bin; exact rfl; exact rfl; exact rfl; (exact cmp_f rfl (by simp only [cmpP]; omega))) | apply ef_nil | apply seqQ.normal | apply loopQ.exit | apply ef_ret | apply ef_exit | apply seqQ.exit | apply blockQ.here | (apply ef_condf; exact rfl; (exact (rfl : false = false))))
    (refine fin1 rfl (by exact rfl) rfl ?_)
    rw [hz, List.drop_eq_nil_of_le (by omega)]; rfl
theorem IndexFuncX_c (k g : Nat) (caps : List MV) (P : Fx → Bool) (zs : List Fx) (h : MHeap) {v fv : MV} (hx : zs.length ≤ 1000) (hg : ∀ z h, orA k g (encX z :: caps) h = some (Bo (P z), h)) (hv : frz 0 [] h 8 v = some (.sl (zs.map encX))) (hf : frz 0 [] h 8 fv = some (.fn g 0 caps)) :
    orA (k + 1) 170 [v, fv] h = some (I64 (fIy P zs 0), h) :=
  callL (args' := [.sl (zs.map encX), .fn g 0 caps]) (by simp [List.mapM_cons, hv, hf]) rfl (IndexFuncX_z k g caps P zs hx hg)
theorem mf_ContainsFuncX : MT.mf 163 = some ⟨9, [(.tmp 4)], (.seq (.reg [⟨none, (some 4), (.mv (.c (.lit (.bool false))))⟩]) (.seq (.reg [⟨none, (some 5), (.mv (.s 0))⟩, ⟨none, (some 6), (.mv (.s 1))⟩, ⟨none, (some 7), (.call 170 [(.s 5), (.s 6)])⟩, ⟨none, (some 8), (.bin .geq (.s 7) (.c (.lit (.int .i64 0))))⟩, ⟨none, (some 4), (.mv (.s 8))⟩]) .ret))⟩ := by kernel_rfl
theorem ContainsFuncX_c (k g : Nat) (caps : List MV) (P : Fx → Bool) (zs : List Fx) (h : MHeap) {v fv : MV} {t : Bool} (hx : zs.length ≤ 1000) (hg : ∀ z h, orA k g (encX z :: caps) h = some (Bo (P z), h)) (hl : ltL 0 caps = true) (hv : frz 0 [] h 8 v = some (.sl (zs.map encX))) (hf : frz 0 [] h 8 fv = some (.fn g 0 caps))
    (ht : zs.any P = t) : orA (k + 2) 163 [v, fv] h = some (Bo t, h) := by
  refine callL (args' := [.sl (zs.map encX), .fn g 0 caps]) (by simp [List.mapM_cons, hv, hf]) rfl (runZ_of mf_ContainsFuncX (by simp) ?_)
  simp only [argsL]
  have hi := fun h => IndexFuncX_c k g caps P zs h (v := .sl (zs.map encX)) (fv := .fn g 0 caps) hx hg (frz_sl (ltL_X 0 zs)) (by simp [frz, MV.lt, hl])
  repeat (first | apply ef_seq | (apply ef_mv; exact rfl; exact rfl) | (apply ef_bin; exact rfl; exact rfl; exact rfl; (exact rfl)) | apply ef_nil | apply seqQ.normal | apply ef_ret | (apply ef_call; exact rfl; ((repeat (apply XVs.cons; exact rfl)); exact XVs.nil); (with_reducible exact hi _)))
  (refine fin1 rfl (by exact rfl) rfl ?_)
  rw [← ht]
  rcases fIy_spec P zs 0 with ⟨h1, h2⟩ | ⟨i, hi, h1, h2⟩
  · rw [h1]
    have : zs.any P = false := by rw [List.any_eq_false]; intro z hz; simp [h2 z hz]
    rw [this]; rfl
  · rw [h1]
    have : zs.any P = true := List.any_eq_true.2 ⟨zs[i], List.getElem_mem _, h2⟩
    rw [this]; simp

/-- Errors of fixes. -/
def fixesE (fs : List Fx) : Int := firstE [unl (decide ((fs.length : Int) ≤ 200)) 8, unl (!fs.any strangeX) 2]
theorem mf_fixesErr : MT.mf 145 = some ⟨15, [(.tmp 2)], (.seq (.reg [⟨none, (some 2), (.mv (.c (.lit (.int .i64 0))))⟩]) (.seq (.reg [⟨none, (some 4), (.mv (.s 0))⟩, ⟨none, (some 5), (.call 163 [(.s 4), (.c (.fn 164 0 []))])⟩, ⟨none, (some 3), (.mv (.s 5))⟩]) (.seq (.reg [⟨none, (some 6), (.mv (.s 0))⟩, ⟨none, (some 7), (.len (.s 6))⟩, ⟨none, (some 8), (.bin .leq (.s 7) (.c (.lit (.int .i64 200))))⟩, ⟨none, (some 9), (.call 93 [(.s 8), (.c (.lit (.int .i64 8)))])⟩, ⟨none, (some 10), (.mv (.s 3))⟩, ⟨none, (some 11), (.un .not (.s 10))⟩, ⟨none, (some 12), (.call 93 [(.s 11), (.c (.lit (.int .i64 2)))])⟩, ⟨none, (some 13), (.bsl (.lit (.int .i64 0)) 1 2 [(0, (.s 9)), (1, (.s 12))])⟩, ⟨none, (some 14), (.call 92 [(.s 13)])⟩, ⟨none, (some 2), (.mv (.s 14))⟩]) .ret)))⟩ := by kernel_rfl
theorem fixesErr_c (k : Nat) (fs : List Fx) (h : MHeap) {v : MV} {e : Int} (hx : fs.length ≤ 1000) (hv : frz 0 [] h 8 v = some (.sl (fs.map encX))) (he : fixesE fs = e) : orA (k + 6) 145 [v] h = some (I64 e, h) := by
  refine callL (args' := [.sl (fs.map encX)]) (by simp [List.mapM_cons, hv]) rfl (runZ_of mf_fixesErr (by simp) ?_)
  simp only [argsL]
  have hl : (MV.sl (fs.map encX)).slen = some fs.length := by simp [MV.slen]
  have hc : ∀ h, orA (k + 5) 163 [.sl (fs.map encX), .fn 164 0 []] h = some (Bo (fs.any strangeX), h) := fun h => ContainsFuncX_c (k + 3) 164 [] strangeX fs h hx (fun f h => fixesErr1_c k f h) rfl (frz_sl (ltL_X 0 fs)) (by simp [frz, MV.lt, ltL]) rfl
  repeat (first | apply ef_seq | (apply ef_mv; exact rfl; exact rfl) | (apply ef_bin; exact rfl; exact rfl; exact rfl; (exact rfl)) | (apply ef_len; exact rfl; exact rfl; (assumption)) | (apply ef_not; exact rfl; exact rfl; exact rfl) | (apply ef_bsl; exact rfl; (repeat (apply XVs.cons; exact rfl)); exact XVs.nil; exact rfl) | apply ef_nil | apply seqQ.normal | apply ef_ret | (apply ef_call; exact rfl; ((repeat (apply XVs.cons; exact rfl)); exact XVs.nil); (with_reducible first | exact hc _ | exact unless_c _ _ _ _ rfl)) | (apply ef_call; exact rfl; ((repeat (apply XVs.cons; exact rfl)); exact XVs.nil); (with_reducible apply first2_c); exact rfl; exact rfl; exact rfl; (assumption)))
  (refine fin1 rfl (by exact rfl) rfl ?_)
  rw [← he]

/-- Errors of rules. -/
def rulesE (r : Ru) : Int := firstE [unl (inB r.drift 0 10000 && inB r.low 0 10000 && inB r.high 0 10000 && inB r.noise 0 10000 && inB r.over 0 200) 2, unl (decide (r.low ≤ r.high)) 9]
theorem mf_CheckRules : MT.mf 82 = some ⟨37, [(.tmp 2)], (.seq (.reg [⟨none, (some 1), (.box 5 (.s 0))⟩, ⟨none, (some 2), (.mv (.c (.lit (.int .i64 0))))⟩]) (.seq (.reg [⟨none, (some 4), (.fa 0 (.s 1))⟩, ⟨none, (some 5), (.ld none (.s 4))⟩, ⟨none, (some 6), (.call 94 [(.s 5)])⟩, ⟨none, (some 7), (.mv (.s 6))⟩, ⟨(some (7, true)), (some 8), (.fa 2 (.s 1))⟩, ⟨(some (7, true)), (some 9), (.ld none (.s 8))⟩, ⟨(some (7, true)), (some 10), (.call 94 [(.s 9)])⟩, ⟨none, (some 11), (.pick (.s 7) (.s 10) (.c (.lit (.bool false))))⟩, ⟨none, (some 12), (.mv (.s 11))⟩, ⟨(some (12, true)), (some 13), (.fa 3 (.s 1))⟩, ⟨(some (12, true)), (some 14), (.ld none (.s 13))⟩, ⟨(some (12, true)), (some 15), (.call 94 [(.s 14)])⟩, ⟨none, (some 16), (.pick (.s 12) (.s 15) (.c (.lit (.bool false))))⟩, ⟨none, (some 17), (.mv (.s 16))⟩, ⟨(some (17, true)), (some 18), (.fa 4 (.s 1))⟩, ⟨(some (17, true)), (some 19), (.ld none (.s 18))⟩, ⟨(some (17, true)), (some 20), (.call 94 [(.s 19)])⟩, ⟨none, (some 21), (.pick (.s 17) (.s 20) (.c (.lit (.bool false))))⟩, ⟨none, (some 22), (.mv (.s 21))⟩, ⟨(some (22, true)), (some 23), (.fa 1 (.s 1))⟩, ⟨(some (22, true)), (some 24), (.ld none (.s 23))⟩, ⟨(some (22, true)), (some 25), (.call 129 [(.s 24), (.c (.lit (.int .i64 0))), (.c (.lit (.int .i64 200)))])⟩, ⟨none, (some 26), (.pick (.s 22) (.s 25) (.c (.lit (.bool false))))⟩, ⟨none, (some 3), (.mv (.s 26))⟩]) (.seq (.reg [⟨none, (some 27), (.mv (.s 3))⟩, ⟨none, (some 28), (.call 93 [(.s 27), (.c (.lit (.int .i64 2)))])⟩, ⟨none, (some 29), (.fa 2 (.s 1))⟩, ⟨none, (some 30), (.ld none (.s 29))⟩, ⟨none, (some 31), (.fa 3 (.s 1))⟩, ⟨none, (some 32), (.ld none (.s 31))⟩, ⟨none, (some 33), (.bin .leq (.s 30) (.s 32))⟩, ⟨none, (some 34), (.call 93 [(.s 33), (.c (.lit (.int .i64 9)))])⟩, ⟨none, (some 35), (.bsl (.lit (.int .i64 0)) 1 2 [(0, (.s 28)), (1, (.s 34))])⟩, ⟨none, (some 36), (.call 92 [(.s 35)])⟩, ⟨none, (some 2), (.mv (.s 36))⟩]) .ret)))⟩ := by kernel_rfl
set_option maxHeartbeats 1000000 in
theorem CheckRules_c (k : Nat) (a b c d e : Int) (h : MHeap) {x : Int} (hx : rulesE ⟨a, b, c, d, e⟩ = x) : orA (k + 3) 82 [.agg [I64 a, I64 b, I64 c, I64 d, I64 e]] h = some (I64 x, h) := by
  refine callL (args' := [.agg [I64 a, I64 b, I64 c, I64 d, I64 e]]) rfl rfl (runZ_of mf_CheckRules (by simp) ?_)
  simp only [argsL]
  unfold rulesE at hx
  simp only at hx
  cases h1 : inB a 0 10000
  · rw [h1] at hx
    simp only [Bool.false_and] at hx
    repeat (first | apply ef_seq | (apply ef_mv; exact rfl; exact rfl) | (apply ef_bin; exact rfl; exact rfl; exact rfl; (exact rfl)) | (apply ef_gn; exact rfl; (exact (rfl : false = false)); exact rfl) | (apply ef_pick; exact rfl; exact rfl; exact rfl) | (apply ef_ldp; exact rfl; exact rfl; exact rfl; exact rfl; (exact rfl); (exact rfl)) | (apply ef_fap; exact rfl; exact rfl) | (apply ef_box; exact rfl; exact rfl; exact rfl; exact rfl) | (apply ef_bsl; exact rfl; (repeat (apply XVs.cons; exact rfl)); exact XVs.nil; exact rfl) | apply ef_nil | apply seqQ.normal | apply ef_ret | (apply ef_call; exact rfl; ((repeat (apply XVs.cons; exact rfl)); exact XVs.nil); (with_reducible first | exact isHeight_c _ _ _ (by assumption) | exact unless_c _ _ _ _ rfl)) | (apply ef_call; exact rfl; ((repeat (apply XVs.cons; exact rfl)); exact XVs.nil); (with_reducible apply first2_c); exact rfl; exact rfl; exact rfl; (assumption)))
    (refine fin1 rfl (by exact rfl) rfl ?_)
    rfl
  · cases h2 : inB c 0 10000
    · rw [h1, h2] at hx
      simp only [Bool.false_and, Bool.true_and] at hx
      repeat (first | apply ef_seq | (apply ef_mv; exact rfl; exact rfl) | (apply ef_bin; exact rfl; exact rfl; exact rfl; (exact rfl)) | (apply ef_gy; exact rfl; (exact (rfl : true = true))) | (apply ef_gn; exact rfl; (exact (rfl : false = false)); exact rfl) | (apply ef_pick; exact rfl; exact rfl; exact rfl) | (apply ef_ldp; exact rfl; exact rfl; exact rfl; exact rfl; (exact rfl); (exact rfl)) | (apply ef_fap; exact rfl; exact rfl) | (apply ef_box; exact rfl; exact rfl; exact rfl; exact rfl) | (apply ef_bsl; exact rfl; (repeat (apply XVs.cons; exact rfl)); exact XVs.nil; exact rfl) | apply ef_nil | apply seqQ.normal | apply ef_ret | (apply ef_call; exact rfl; ((repeat (apply XVs.cons; exact rfl)); exact XVs.nil); (with_reducible first | exact isHeight_c _ _ _ (by assumption) | exact unless_c _ _ _ _ rfl)) | (apply ef_call; exact rfl; ((repeat (apply XVs.cons; exact rfl)); exact XVs.nil); (with_reducible apply first2_c); exact rfl; exact rfl; exact rfl; (assumption)))
      (refine fin1 rfl (by exact rfl) rfl ?_)
      rfl
    · cases h3 : inB d 0 10000
      · rw [h1, h2, h3] at hx
        simp only [Bool.false_and, Bool.true_and] at hx
        repeat (first | apply ef_seq | (apply ef_mv; exact rfl; exact rfl) | (apply ef_bin; exact rfl; exact rfl; exact rfl; (exact rfl)) | (apply ef_gy; exact rfl; (exact (rfl : true = true))) | (apply ef_gn; exact rfl; (exact (rfl : false = false)); exact rfl) | (apply ef_pick; exact rfl; exact rfl; exact rfl) | (apply ef_ldp; exact rfl; exact rfl; exact rfl; exact rfl; (exact rfl); (exact rfl)) | (apply ef_fap; exact rfl; exact rfl) | (apply ef_box; exact rfl; exact rfl; exact rfl; exact rfl) | (apply ef_bsl; exact rfl; (repeat (apply XVs.cons; exact rfl)); exact XVs.nil; exact rfl) | apply ef_nil | apply seqQ.normal | apply ef_ret | (apply ef_call; exact rfl; ((repeat (apply XVs.cons; exact rfl)); exact XVs.nil); (with_reducible first | exact isHeight_c _ _ _ (by assumption) | exact unless_c _ _ _ _ rfl)) | (apply ef_call; exact rfl; ((repeat (apply XVs.cons; exact rfl)); exact XVs.nil); (with_reducible apply first2_c); exact rfl; exact rfl; exact rfl; (assumption)))
        (refine fin1 rfl (by exact rfl) rfl ?_)
        rfl
      · cases h4 : inB e 0 10000
        · rw [h1, h2, h3, h4] at hx
          simp only [Bool.false_and, Bool.true_and] at hx
          repeat (first | apply ef_seq | (apply ef_mv; exact rfl; exact rfl) | (apply ef_bin; exact rfl; exact rfl; exact rfl; (exact rfl)) | (apply ef_gy; exact rfl; (exact (rfl : true = true))) | (apply ef_gn; exact rfl; (exact (rfl : false = false)); exact rfl) | (apply ef_pick; exact rfl; exact rfl; exact rfl) | (apply ef_ldp; exact rfl; exact rfl; exact rfl; exact rfl; (exact rfl); (exact rfl)) | (apply ef_fap; exact rfl; exact rfl) | (apply ef_box; exact rfl; exact rfl; exact rfl; exact rfl) | (apply ef_bsl; exact rfl; (repeat (apply XVs.cons; exact rfl)); exact XVs.nil; exact rfl) | apply ef_nil | apply seqQ.normal | apply ef_ret | (apply ef_call; exact rfl; ((repeat (apply XVs.cons; exact rfl)); exact XVs.nil); (with_reducible first | exact isHeight_c _ _ _ (by assumption) | exact unless_c _ _ _ _ rfl)) | (apply ef_call; exact rfl; ((repeat (apply XVs.cons; exact rfl)); exact XVs.nil); (with_reducible apply first2_c); exact rfl; exact rfl; exact rfl; (assumption)))
          (refine fin1 rfl (by exact rfl) rfl ?_)
          rfl
        · rw [h1, h2, h3, h4] at hx
          simp only [Bool.true_and] at hx
          repeat (first | apply ef_seq | (apply ef_mv; exact rfl; exact rfl) | (apply ef_bin; exact rfl; exact rfl; exact rfl; (exact rfl)) | (apply ef_gy; exact rfl; (exact (rfl : true = true))) | (apply ef_pick; exact rfl; exact rfl; exact rfl) | (apply ef_ldp; exact rfl; exact rfl; exact rfl; exact rfl; (exact rfl); (exact rfl)) | (apply ef_fap; exact rfl; exact rfl) | (apply ef_box; exact rfl; exact rfl; exact rfl; exact rfl) | (apply ef_bsl; exact rfl; (repeat (apply XVs.cons; exact rfl)); exact XVs.nil; exact rfl) | apply ef_nil | apply seqQ.normal | apply ef_ret | (apply ef_call; exact rfl; ((repeat (apply XVs.cons; exact rfl)); exact XVs.nil); (with_reducible first | exact isHeight_c _ _ _ (by assumption) | exact within_c _ _ _ _ _ rfl | exact unless_c _ _ _ _ rfl)) | (apply ef_call; exact rfl; ((repeat (apply XVs.cons; exact rfl)); exact XVs.nil); (with_reducible apply first2_c); exact rfl; exact rfl; exact rfl; (assumption)))
          (refine fin1 rfl (by exact rfl) rfl ?_)
          rfl
end Go.Proofs.Ytgjpdjihjphbdaa
