/- Contracts of the program: words of strips; windows. -/
import Derived.Test.YtgjpdjihjphbdaaTx
import Derived.Test.YtgjpdjihjphbdaaLK
import Derived.Test.YtgjpdjihjphbdaaStr1
namespace Go.Proofs.Ytgjpdjihjphbdaa
open Go.RowKit

theorem frz_lt {h : MHeap} {m : MV} (hl : m.lt 0 = true) : frz 0 [] h 8 m = some m := by simp [frz, hl]
theorem frzL_lt {h : MHeap} : ∀ {ms : List MV}, ltL 0 ms = true → ms.mapM (frz 0 [] h 8) = some ms
  | [], _ => rfl
  | m :: ms, hl => by
    simp only [ltL, Bool.and_eq_true] at hl
    rw [List.mapM_cons, frz_lt hl.1, frzL_lt hl.2]; rfl
/-- A result that speaks of no memory when it is handed back. -/
theorem fin_frz {x : MX2} {A : Sl} {h : MHeap} {t : Nat} {v v' : MV} (hx : outX x = true) (hv : look A t = some v) (hi : impIds 0 [v] = []) (hn : ∀ id i k g, v ≠ .arr id i k g) (hf : frz 0 [] h 8 v = some v') : FinF [.tmp t] v' [] x A h := by
  refine ⟨hx, [v], [v'], ⟨v, [], rfl, hv, rfl⟩, by rw [hi]; simp, ?_, rfl⟩
  rw [hi]
  cases v with
  | arr id i k g => exact absurd rfl (hn id i k g)
  | _ => simp [expL, hf]
theorem itA_of {k g q : Nat} {caps : List MV} {h : MHeap} {mf : MF} {xs : List (List MV)} (hmf : MT.mf g = some mf) (hsq : MT.sq g = true) (hi : itM (orA k) 1000000 mf q caps h = some xs) : itA k g q caps h = some xs := by
  unfold itA orI
  simp only [noI, hsq, hmf, hi, if_true]
/-- A row of integers that is read only: with elements, or the nil slice. -/
inductive SlI : MV → List Int → Prop
  | sl (l : List Int) : SlI (.sl (l.map I64)) l
  | nil : SlI (.lit (.slice none 0 0)) []
theorem SlI.lt {v : MV} {l : List Int} (h : SlI v l) : v.lt 0 = true := by
  cases h with
  | sl l => simp [MV.lt, ltL_I]
  | nil => rfl
theorem SlI.ltn {v : MV} {l : List Int} (h : SlI v l) (n : Nat) : v.lt n = true := by
  cases h with
  | sl l => simp [MV.lt, ltL_I]
  | nil => rfl
theorem SlI.frz {v : MV} {l : List Int} (h : SlI v l) (H : MHeap) : Go.Proofs.Ytgjpdjihjphbdaa.frz 0 [] H 8 v = some v := frz_lt h.lt
theorem SlI.slen {v : MV} {l : List Int} (h : SlI v l) : v.slen = some l.length := by
  cases h with
  | sl l => simp [MV.slen]
  | nil => rfl
theorem SlI.pos {v : MV} {l : List Int} (h : SlI v l) (hp : 0 < l.length) : v = .sl (l.map I64) := by
  cases h with
  | sl l => rfl
  | nil => simp at hp
theorem SlI.cell {v : MV} {l : List Int} (h : SlI v l) : rdCells v.cells 0 none = some v := by cases h <;> rfl
theorem SlI.of_frz {v w : MV} {l : List Int} {H : MHeap} (h : Go.Proofs.Ytgjpdjihjphbdaa.frz 0 [] H 8 v = some w) (hw : SlI w l) : [v].mapM (Go.Proofs.Ytgjpdjihjphbdaa.frz 0 [] H 8) = some [w] := by simp [List.mapM_cons, h]

theorem mf_Has : MT.mf 71 = some ⟨18, [(.tmp 4)], (.seq (.reg [⟨none, (some 4), (.mv (.c (.lit (.bool false))))⟩]) (.seq (.seq (.reg [⟨none, (some 5), (.mv (.c (.lit (.int .i64 0))))⟩]) (.block 0 (.loop [5, 0, 1] (.seq (.seq (.reg [⟨none, (some 6), (.mv (.s 5))⟩, ⟨none, (some 7), (.mv (.s 0))⟩, ⟨none, (some 8), (.len (.s 7))⟩, ⟨none, (some 9), (.bin .lss (.s 6) (.s 8))⟩]) (.cond (.s 9) .skip (.exit 0))) (.seq (.block 1 (.seq (.reg [⟨none, (some 12), (.mv (.s 0))⟩, ⟨none, (some 13), (.mv (.s 5))⟩, ⟨none, (some 14), (.ia 1 (.s 12) (.s 13))⟩, ⟨none, (some 15), (.ld none (.s 14))⟩, ⟨none, (some 16), (.mv (.s 1))⟩, ⟨none, (some 17), (.bin .eql (.s 15) (.s 16))⟩]) (.cond (.s 17) (.seq (.reg [⟨none, (some 4), (.mv (.c (.lit (.bool true))))⟩]) .ret) .skip))) (.reg [⟨none, (some 10), (.mv (.s 5))⟩, ⟨none, (some 11), (.bin .add (.s 10) (.c (.lit (.int .i64 1))))⟩, ⟨none, (some 5), (.mv (.s 11))⟩])))))) (.seq (.reg [⟨none, (some 4), (.mv (.c (.lit (.bool false))))⟩]) .ret)))⟩ := by kernel_rfl
theorem bHas_z (k : Nat) (xs : List Int) (n : Int) (hx : xs.length ≤ 100000) : runZ MT (orA k) (itA k) 1000000 71 [.sl (xs.map I64), I64 n] [] = some (Bo (xs.contains n), []) := by
  have hl : (MV.sl (xs.map I64)).slen = some xs.length := by simp [MV.slen]
  refine runZ_of mf_Has (by simp) ?_
  simp only [argsL]
  repeat (first | apply ef_seq | (apply ef_mv; exact rfl; exact rfl) | apply ef_nil | apply seqQ.normal | apply ef_block)
  refine ef_loopf (α := Nat) (fun i => i ≤ xs.length ∧ xs.contains n = (xs.drop i).contains n) (fun i => [(5, I64 (i : Int))]) [(0, _), (1, _)] (fun _ => []) (fun i => xs.length - i) 0 [5] (fun _ => rfl) (by ((repeat (refine Hold.cons (by exact rfl) ?_)); exact Hold.nil)) (by ((repeat (refine Hold.cons (by exact rfl) ?_)); exact Hold.nil)) rfl rfl ⟨by omega, rfl⟩ (by simp; omega) ?_
  rintro i ⟨hi, hz⟩
  by_cases hlt : i < xs.length
  · have e1 := at_map I64 xs i hlt
    have HD := Lib.hid (drop_at xs i hlt)
    have HZ := Lib.hid hz
    clear hz
    generalize xs[i] = x at e1 HD
    by_cases hxn : x = n
    · subst hxn
      repeat (first | apply ef_seq | (apply ef_mv; exact rfl; exact rfl) | (apply ef_bin; exact rfl; exact rfl; exact rfl; (exact cmp_t rfl (by first | exact rfl | (simp only [cmpP]; omega)))) | (apply ef_len; exact rfl; exact rfl; (assumption)) | (apply ef_ldr; exact rfl; exact rfl; (exact rfl)) | (apply ef_ias; exact rfl; exact rfl; exact rfl; (omega); assumption; exact rfl) | apply ef_nil | apply seqQ.normal | apply loopQ.ret | apply ef_ret | apply seqQ.ret | apply blockQ.ret | apply ef_block | apply ef_skip | (apply ef_condt; exact rfl; (exact (rfl : true = true))))
      (refine fin1 rfl (by exact rfl) rfl ?_)
      rw [HZ.out, HD.out]; simp
    · repeat (first | apply ef_seq | (apply ef_mv; exact rfl; exact rfl) | (apply ef_bin; exact rfl; exact rfl; exact rfl; (first | exact cmp_t rfl (by first | exact rfl | (simp only [cmpP]; omega)) | exact cmp_f rfl (by simp only [cmpP]; omega) | ((with_reducible refine bin_add (wrap_of ?_ ?_)) <;> omega))) | (apply ef_len; exact rfl; exact rfl; (assumption)) | (apply ef_ldr; exact rfl; exact rfl; (exact rfl)) | (apply ef_ias; exact rfl; exact rfl; exact rfl; (omega); assumption; exact rfl) | apply ef_nil | apply seqQ.normal | apply blockQ.normal | apply ef_block | apply ef_skip | (apply ef_condt; exact rfl; (exact (rfl : true = true))) | (apply ef_condf; exact rfl; (exact (rfl : false = false))))
      (refine loopQ.normal _ _ ⟨i + 1, ⟨hlt, by rw [HZ.out, HD.out]; simp [Ne.symm hxn]⟩, (by first | (simp only; omega) | omega), ⟨by ((repeat (refine Hold.cons (by exact rfl) ?_)); exact Hold.nil), by ((repeat (refine Hold.cons (by exact rfl) ?_)); exact Hold.nil)⟩, .inl (Nat.le_refl _), (by first | exact List.take_length | exact rfl | exact takeF rfl rfl)⟩)
  · repeat (first | apply ef_seq | (apply ef_mv; exact rfl; exact rfl) | (apply ef_bin; exact rfl; exact rfl; exact rfl; (exact cmp_f rfl (by simp only [cmpP]; omega))) | (apply ef_len; exact rfl; exact rfl; (assumption)) | apply ef_nil | apply seqQ.normal | apply loopQ.exit | apply ef_ret | apply ef_exit | apply seqQ.exit | apply blockQ.here | (apply ef_condf; exact rfl; (exact (rfl : false = false))))
    (refine fin1 rfl (by exact rfl) rfl ?_)
    rw [hz, List.drop_eq_nil_of_le (by omega)]; rfl
theorem bHas_c (k : Nat) (xs : List Int) (n : Int) (h : MHeap) {v : MV} {t : Bool} (hx : xs.length ≤ 100000) (hv : frz 0 [] h 8 v = some (.sl (xs.map I64))) (ht : xs.contains n = t) : orA (k + 1) 71 [v, I64 n] h = some (Bo t, h) :=
  callL (args' := [.sl (xs.map I64), I64 n]) (by simp [List.mapM_cons, hv]; simp [frz, MV.lt]) rfl (by rw [← ht]; exact bHas_z k xs n hx)

/-- The index of the first number for which something holds. -/
def fII (P : Int → Bool) : List Int → Nat → Int
  | [], _ => -1
  | z :: zs, i => if P z then i else fII P zs (i + 1)
theorem fII_spec (P : Int → Bool) : ∀ (zs : List Int) (s : Nat), (fII P zs s = -1 ∧ ∀ z ∈ zs, P z = false) ∨ ∃ (i : Nat) (h : i < zs.length), fII P zs s = ((s + i : Nat) : Int) ∧ P zs[i] = true
  | [], s => .inl ⟨rfl, fun z h => by cases h⟩
  | z :: zs, s => by
    by_cases hz : P z = true
    · exact .inr ⟨0, by simp, by simp [fII, hz], hz⟩
    · rcases fII_spec P zs (s + 1) with ⟨h1, h2⟩ | ⟨i, hi, h1, h2⟩
      · refine .inl ⟨by simp [fII, hz, h1], fun w hw => ?_⟩
        rcases List.mem_cons.1 hw with rfl | hw
        · simpa using hz
        · exact h2 w hw
      · refine .inr ⟨i + 1, by simpa using hi, ?_, by simpa using h2⟩
        simp only [fII, hz]
        rw [if_neg (by simp), h1]
        congr 1; omega
theorem fII_any (P : Int → Bool) (zs : List Int) : decide (0 ≤ fII P zs 0) = zs.any P := by
  rcases fII_spec P zs 0 with ⟨h1, h2⟩ | ⟨i, hi, h1, h2⟩
  · rw [h1]
    have : zs.any P = false := by rw [List.any_eq_false]; intro z hz; simp [h2 z hz]
    rw [this]; rfl
  · rw [h1]
    have : zs.any P = true := List.any_eq_true.2 ⟨zs[i], List.getElem_mem _, h2⟩
    rw [this]; simp

theorem mf_IndexI : MT.mf 156 = some ⟨19, [(.tmp 4)], (.seq (.reg [⟨none, (some 4), (.mv (.c (.lit (.int .i64 0))))⟩]) (.seq (.seq (.reg [⟨none, (some 6), (.mv (.s 0))⟩, ⟨none, (some 7), (.len (.s 6))⟩, ⟨none, (some 8), (.mv (.c (.lit (.int .i64 0))))⟩]) (.block 0 (.loop [8, 7, 1, 0] (.seq (.reg [⟨none, (some 9), (.bin .lss (.s 8) (.s 7))⟩]) (.seq (.cond (.s 9) .skip (.exit 0)) (.seq (.block 1 (.seq (.reg [⟨none, (some 10), (.mv (.s 8))⟩, ⟨none, (some 5), (.mv (.s 10))⟩]) (.seq (.reg [⟨none, (some 11), (.mv (.s 1))⟩, ⟨none, (some 12), (.mv (.s 0))⟩, ⟨none, (some 13), (.mv (.s 5))⟩, ⟨none, (some 14), (.ia 1 (.s 12) (.s 13))⟩, ⟨none, (some 15), (.ld none (.s 14))⟩, ⟨none, (some 16), (.bin .eql (.s 11) (.s 15))⟩]) (.cond (.s 16) (.seq (.reg [⟨none, (some 17), (.mv (.s 5))⟩, ⟨none, (some 4), (.mv (.s 17))⟩]) .ret) .skip)))) (.reg [⟨none, (some 18), (.bin .add (.s 8) (.c (.lit (.int .i64 1))))⟩, ⟨none, (some 8), (.mv (.s 18))⟩]))))))) (.seq (.reg [⟨none, (some 4), (.mv (.c (.lit (.int .i64 (-1)))))⟩]) .ret)))⟩ := by kernel_rfl
theorem IndexI_c (k : Nat) (xs : List Int) (n : Int) (h : MHeap) {v w : MV} (hx : xs.length ≤ 100000) (hv : frz 0 [] h 8 v = some w) (hw : SlI w xs) : orA (k + 1) 156 [v, I64 n] h = some (I64 (fII (fun x => decide (n = x)) xs 0), h) := by
  have hl := hw.slen
  refine callL (args' := [w, I64 n]) (by simp [List.mapM_cons, hv]; simp [frz, MV.lt]) rfl (runZ_of mf_IndexI (by simp) ?_)
  simp only [argsL]
  repeat (first | apply ef_seq | (apply ef_mv; exact rfl; exact rfl) | (apply ef_len; exact rfl; exact rfl; (assumption)) | apply ef_nil | apply seqQ.normal | apply ef_block)
  refine ef_loopf (α := Nat) (fun i => i ≤ xs.length ∧ fII (fun x => decide (n = x)) xs 0 = fII (fun x => decide (n = x)) (xs.drop i) i) (fun i => [(8, I64 (i : Int))]) [(7, _), (1, _), (0, _)] (fun _ => []) (fun i => xs.length - i) 0 [8] (fun _ => rfl) (by ((repeat (refine Hold.cons (by exact rfl) ?_)); exact Hold.nil)) (by ((repeat (refine Hold.cons (by exact rfl) ?_)); exact Hold.nil)) rfl rfl ⟨by omega, rfl⟩ (by simp; omega) ?_
  rintro i ⟨hi, hz⟩
  by_cases hlt : i < xs.length
  · obtain rfl := hw.pos (by omega)
    have e1 := at_map I64 xs i hlt
    have HD := Lib.hid (drop_at xs i hlt)
    have HZ := Lib.hid hz
    clear hz
    generalize xs[i] = x at e1 HD
    by_cases hxn : n = x
    · subst hxn
      repeat (first | apply ef_seq | (apply ef_mv; exact rfl; exact rfl) | (apply ef_bin; exact rfl; exact rfl; exact rfl; (exact cmp_t rfl (by first | exact rfl | (simp only [cmpP]; omega)))) | (apply ef_ldr; exact rfl; exact rfl; (exact rfl)) | (apply ef_ias; exact rfl; exact rfl; exact rfl; (omega); assumption; exact rfl) | apply ef_nil | apply seqQ.normal | apply loopQ.ret | apply ef_ret | apply seqQ.ret | apply blockQ.ret | apply ef_block | apply ef_skip | (apply ef_condt; exact rfl; (exact (rfl : true = true))))
      (refine fin1 rfl (by exact rfl) rfl ?_)
      rw [HZ.out, HD.out]; simp [fII]
    · repeat (first | apply ef_seq | (apply ef_mv; exact rfl; exact rfl) | (apply ef_bin; exact rfl; exact rfl; exact rfl; (first | exact cmp_t rfl (by first | exact rfl | (simp only [cmpP]; omega)) | exact cmp_f rfl (by simp only [cmpP]; omega) | ((with_reducible refine bin_add (wrap_of ?_ ?_)) <;> omega))) | (apply ef_ldr; exact rfl; exact rfl; (exact rfl)) | (apply ef_ias; exact rfl; exact rfl; exact rfl; (omega); assumption; exact rfl) | apply ef_nil | apply seqQ.normal | apply blockQ.normal | apply ef_block | apply ef_skip | (apply ef_condt; exact rfl; (exact (rfl : true = true))) | (apply ef_condf; exact rfl; (exact (rfl : false = false))))
      (refine loopQ.normal _ _ ⟨i + 1, ⟨hlt, by rw [HZ.out, HD.out]; simp [fII, hxn]⟩, (by first | (simp only; omega) | omega), ⟨by ((repeat (refine Hold.cons (by exact rfl) ?_)); exact Hold.nil), by ((repeat (refine Hold.cons (by exact rfl) ?_)); exact Hold.nil)⟩, .inl (Nat.le_refl _), (by first | exact List.take_length | exact rfl | exact takeF rfl rfl)⟩)
  · repeat (first | apply ef_seq | (apply ef_mv; exact rfl; exact rfl) | (apply ef_bin; exact rfl; exact rfl; exact rfl; (exact cmp_f rfl (by simp only [cmpP]; omega))) | apply ef_nil | apply seqQ.normal | apply loopQ.exit | apply ef_ret | apply ef_exit | apply seqQ.exit | apply blockQ.here | (apply ef_condf; exact rfl; (exact (rfl : false = false))))
    (refine fin1 rfl (by exact rfl) rfl ?_)
    rw [hz, List.drop_eq_nil_of_le (by omega)]; rfl
theorem mf_ContainsI : MT.mf 134 = some ⟨9, [(.tmp 4)], (.seq (.reg [⟨none, (some 4), (.mv (.c (.lit (.bool false))))⟩]) (.seq (.reg [⟨none, (some 5), (.mv (.s 0))⟩, ⟨none, (some 6), (.mv (.s 1))⟩, ⟨none, (some 7), (.call 156 [(.s 5), (.s 6)])⟩, ⟨none, (some 8), (.bin .geq (.s 7) (.c (.lit (.int .i64 0))))⟩, ⟨none, (some 4), (.mv (.s 8))⟩]) .ret))⟩ := by kernel_rfl
theorem ContainsI_c (k : Nat) (xs : List Int) (n : Int) (h : MHeap) {v w : MV} {t : Bool} (hx : xs.length ≤ 100000) (hv : frz 0 [] h 8 v = some w) (hw : SlI w xs) (ht : xs.contains n = t) : orA (k + 2) 134 [v, I64 n] h = some (Bo t, h) := by
  refine callL (args' := [w, I64 n]) (by simp [List.mapM_cons, hv]; simp [frz, MV.lt]) rfl (runZ_of mf_ContainsI (by simp) ?_)
  simp only [argsL]
  have hi := fun h => IndexI_c k xs n h (v := w) hx (hw.frz h) hw
  repeat (first | apply ef_seq | (apply ef_mv; exact rfl; exact rfl) | (apply ef_bin; exact rfl; exact rfl; exact rfl; (exact cmpd_geq)) | apply ef_nil | apply seqQ.normal | apply ef_ret | (apply ef_call; exact rfl; ((repeat (apply XVs.cons; exact rfl)); exact XVs.nil); (with_reducible exact hi _)))
  (refine fin1 rfl (by exact rfl) rfl ?_)
  rw [← ht]
  refine congrArg Bo ?_
  rw [fII_any]
  rw [Bool.eq_iff_iff]
  simp

theorem mf_IndexFuncI : MT.mf 153 = some ⟨19, [(.tmp 4)], (.seq (.reg [⟨none, (some 4), (.mv (.c (.lit (.int .i64 0))))⟩]) (.seq (.seq (.reg [⟨none, (some 6), (.mv (.s 0))⟩, ⟨none, (some 7), (.len (.s 6))⟩, ⟨none, (some 8), (.mv (.c (.lit (.int .i64 0))))⟩]) (.block 0 (.loop [8, 7, 1, 0] (.seq (.reg [⟨none, (some 9), (.bin .lss (.s 8) (.s 7))⟩]) (.seq (.cond (.s 9) .skip (.exit 0)) (.seq (.block 1 (.seq (.reg [⟨none, (some 10), (.mv (.s 8))⟩, ⟨none, (some 5), (.mv (.s 10))⟩]) (.seq (.reg [⟨none, (some 11), (.mv (.s 1))⟩, ⟨none, (some 12), (.mv (.s 0))⟩, ⟨none, (some 13), (.mv (.s 5))⟩, ⟨none, (some 14), (.ia 1 (.s 12) (.s 13))⟩, ⟨none, (some 15), (.ld none (.s 14))⟩, ⟨none, (some 16), (.callv (.s 11) [(.s 15)])⟩]) (.cond (.s 16) (.seq (.reg [⟨none, (some 17), (.mv (.s 5))⟩, ⟨none, (some 4), (.mv (.s 17))⟩]) .ret) .skip)))) (.reg [⟨none, (some 18), (.bin .add (.s 8) (.c (.lit (.int .i64 1))))⟩, ⟨none, (some 8), (.mv (.s 18))⟩]))))))) (.seq (.reg [⟨none, (some 4), (.mv (.c (.lit (.int .i64 (-1)))))⟩]) .ret)))⟩ := by kernel_rfl
theorem IndexFuncI_c (k g : Nat) (caps : List MV) (P : Int → Bool) (xs : List Int) (h : MHeap) {v w fv : MV} (hx : xs.length ≤ 100000) (hg : ∀ z h, orA k g (I64 z :: caps) h = some (Bo (P z), h)) (hv : frz 0 [] h 8 v = some w) (hw : SlI w xs) (hf : frz 0 [] h 8 fv = some (.fn g 0 caps)) :
    orA (k + 1) 153 [v, fv] h = some (I64 (fII P xs 0), h) := by
  have hl := hw.slen
  refine callL (args' := [w, .fn g 0 caps]) (by simp [List.mapM_cons, hv, hf]) rfl (runZ_of mf_IndexFuncI (by simp) ?_)
  simp only [argsL]
  repeat (first | apply ef_seq | (apply ef_mv; exact rfl; exact rfl) | (apply ef_len; exact rfl; exact rfl; (assumption)) | apply ef_nil | apply seqQ.normal | apply ef_block)
  refine ef_loopf (α := Nat) (fun i => i ≤ xs.length ∧ fII P xs 0 = fII P (xs.drop i) i) (fun i => [(8, I64 (i : Int))]) [(7, _), (1, _), (0, _)] (fun _ => []) (fun i => xs.length - i) 0 [8] (fun _ => rfl) (by ((repeat (refine Hold.cons (by exact rfl) ?_)); exact Hold.nil)) (by ((repeat (refine Hold.cons (by exact rfl) ?_)); exact Hold.nil)) rfl rfl ⟨by omega, rfl⟩ (by simp; omega) ?_
  rintro i ⟨hi, hz⟩
  by_cases hlt : i < xs.length
  · obtain rfl := hw.pos (by omega)
    have e1 := at_map I64 xs i hlt
    have HD := Lib.hid (drop_at xs i hlt)
    have HZ := Lib.hid hz
    have hg1 := hg xs[i]
    clear hz
    obtain ⟨t, ht⟩ : ∃ t, P xs[i] = t := ⟨_, rfl⟩
    have HT := Lib.hid ht
    rw [ht] at hg1
    clear ht
    generalize xs[i] = x at e1 HD hg1 HT
    cases t
    · repeat (first | apply ef_seq | (apply ef_mv; exact rfl; exact rfl) | (apply ef_bin; exact rfl; exact rfl; exact rfl; (exact cmp_t rfl (by first | exact rfl | (simp only [cmpP]; omega)))) | (apply ef_ldr; exact rfl; exact rfl; (exact rfl)) | (apply ef_ias; exact rfl; exact rfl; exact rfl; (omega); assumption; exact rfl) | apply ef_nil | apply seqQ.normal | apply ef_block | apply ef_skip | (apply ef_condt; exact rfl; (exact (rfl : true = true))))
      (apply ef_callv; (· exact rfl); (· exact rfl); (· ((repeat (apply XVs.cons; exact rfl)); exact XVs.nil)); (· exact rfl); (· exact hg1 _))
      repeat (first | (apply ef_mv; exact rfl; exact rfl) | (apply ef_bin; exact rfl; exact rfl; exact rfl; (((with_reducible refine bin_add (wrap_of ?_ ?_)) <;> omega))) | apply ef_nil | apply seqQ.normal | apply blockQ.normal | apply ef_skip | (apply ef_condf; exact rfl; (exact (rfl : false = false))))
      (refine loopQ.normal _ _ ⟨i + 1, ⟨hlt, by rw [HZ.out, HD.out]; simp [fII, HT.out]⟩, (by first | (simp only; omega) | omega), ⟨by ((repeat (refine Hold.cons (by exact rfl) ?_)); exact Hold.nil), by ((repeat (refine Hold.cons (by exact rfl) ?_)); exact Hold.nil)⟩, .inl (Nat.le_refl _), (by first | exact List.take_length | exact rfl | exact takeF rfl rfl)⟩)
    · repeat (first | apply ef_seq | (apply ef_mv; exact rfl; exact rfl) | (apply ef_bin; exact rfl; exact rfl; exact rfl; (exact cmp_t rfl (by first | exact rfl | (simp only [cmpP]; omega)))) | (apply ef_ldr; exact rfl; exact rfl; (exact rfl)) | (apply ef_ias; exact rfl; exact rfl; exact rfl; (omega); assumption; exact rfl) | apply ef_nil | apply seqQ.normal | apply ef_block | apply ef_skip | (apply ef_condt; exact rfl; (exact (rfl : true = true))))
      (apply ef_callv; (· exact rfl); (· exact rfl); (· ((repeat (apply XVs.cons; exact rfl)); exact XVs.nil)); (· exact rfl); (· exact hg1 _))
      repeat (first | apply ef_seq | (apply ef_mv; exact rfl; exact rfl) | apply ef_nil | apply seqQ.normal | apply loopQ.ret | apply ef_ret | apply seqQ.ret | apply blockQ.ret | (apply ef_condt; exact rfl; (exact (rfl : true = true))))
      (refine fin1 rfl (by exact rfl) rfl ?_)
      rw [HZ.out, HD.out]; simp [fII, HT.out]
  · repeat (first | apply ef_seq | (apply ef_mv; exact rfl; exact rfl) | (apply ef_bin; exact rfl; exact rfl; exact rfl; (exact cmp_f rfl (by simp only [cmpP]; omega))) | apply ef_nil | apply seqQ.normal | apply loopQ.exit | apply ef_ret | apply ef_exit | apply seqQ.exit | apply blockQ.here | (apply ef_condf; exact rfl; (exact (rfl : false = false))))
    (refine fin1 rfl (by exact rfl) rfl ?_)
    rw [hz, List.drop_eq_nil_of_le (by omega)]; rfl
theorem mf_ContainsFuncI : MT.mf 110 = some ⟨9, [(.tmp 4)], (.seq (.reg [⟨none, (some 4), (.mv (.c (.lit (.bool false))))⟩]) (.seq (.reg [⟨none, (some 5), (.mv (.s 0))⟩, ⟨none, (some 6), (.mv (.s 1))⟩, ⟨none, (some 7), (.call 153 [(.s 5), (.s 6)])⟩, ⟨none, (some 8), (.bin .geq (.s 7) (.c (.lit (.int .i64 0))))⟩, ⟨none, (some 4), (.mv (.s 8))⟩]) .ret))⟩ := by kernel_rfl
theorem ContainsFuncI_c (k g : Nat) (caps : List MV) (P : Int → Bool) (xs : List Int) (h : MHeap) {v w fv : MV} {t : Bool} (hx : xs.length ≤ 100000) (hg : ∀ z h, orA k g (I64 z :: caps) h = some (Bo (P z), h)) (hl : ltL 0 caps = true) (hv : frz 0 [] h 8 v = some w) (hw : SlI w xs) (hf : frz 0 [] h 8 fv = some (.fn g 0 caps))
    (ht : xs.any P = t) : orA (k + 2) 110 [v, fv] h = some (Bo t, h) := by
  refine callL (args' := [w, .fn g 0 caps]) (by simp [List.mapM_cons, hv, hf]) rfl (runZ_of mf_ContainsFuncI (by simp) ?_)
  simp only [argsL]
  have hi := fun h => IndexFuncI_c k g caps P xs h (v := w) (fv := .fn g 0 caps) hx hg (hw.frz h) hw (frz_lt (by simp [MV.lt, hl]))
  repeat (first | apply ef_seq | (apply ef_mv; exact rfl; exact rfl) | (apply ef_bin; exact rfl; exact rfl; exact rfl; (exact cmpd_geq)) | apply ef_nil | apply seqQ.normal | apply ef_ret | (apply ef_call; exact rfl; ((repeat (apply XVs.cons; exact rfl)); exact XVs.nil); (with_reducible exact hi _)))
  (refine fin1 rfl (by exact rfl) rfl ?_)
  rw [← ht, ← fII_any]

/-- A strip. -/
abbrev encS (a b c : Int) (fl lo : List Int) : MV := .agg [I64 a, I64 b, I64 c, .sl (fl.map I64), .sl (lo.map I64)]
theorem encS_lt (a b c : Int) (fl lo : List Int) : (encS a b c fl lo).lt 0 = true := by simp [MV.lt, ltL, ltL_I]

theorem mf_has1 : MT.mf 158 = some ⟨14, [(.tmp 4)], (.seq (.reg [⟨none, (some 4), (.mv (.c (.lit (.bool false))))⟩]) (.seq (.reg [⟨none, (some 5), (.mv (.s 0))⟩, ⟨none, (some 6), (.ld none (.s 1))⟩, ⟨none, (some 7), (.bin .add (.s 6) (.c (.lit (.int .i64 1))))⟩, ⟨none, (some 8), (.ld none (.s 1))⟩, ⟨none, (some 9), (.fa 0 (.s 2))⟩, ⟨none, (some 10), (.fa 2 (.s 9))⟩, ⟨none, (some 11), (.ld none (.s 10))⟩, ⟨none, (some 12), (.bin .add (.s 8) (.s 11))⟩, ⟨none, (some 13), (.call 129 [(.s 5), (.s 7), (.s 12)])⟩, ⟨none, (some 4), (.mv (.s 13))⟩]) .ret))⟩ := by kernel_rfl
theorem has1_c (k : Nat) (a b c w : Int) (fl lo : List Int) (hw : -1000000 ≤ w ∧ w ≤ 1000000) (hc : 0 ≤ c ∧ c ≤ 1000000) (n : Int) (h : MHeap) : orA (k + 2) 158 (I64 n :: [.rp (I64 w) 0, .rp (encS a b c fl lo) 0]) h = some (Bo (inW c w n), h) := by
  obtain ⟨w1, w2⟩ := hw
  obtain ⟨c1, c2⟩ := hc
  refine callL (args' := [I64 n, .rp (I64 w) 0, .rp (encS a b c fl lo) 0]) (frzL_lt (by simp [ltL, MV.lt, ltL_I])) rfl (runZ_of mf_has1 (by simp) ?_)
  simp only [argsL]
  repeat (first | apply ef_seq | (apply ef_mv; exact rfl; exact rfl) | (apply ef_bin; exact rfl; exact rfl; exact rfl; (((with_reducible refine bin_add (wrap_of ?_ ?_)) <;> omega))) | (apply ef_ldr; exact rfl; exact rfl; (exact rfl)) | (apply ef_far; exact rfl; exact rfl) | apply ef_nil | apply seqQ.normal | apply ef_ret | (apply ef_call; exact rfl; ((repeat (apply XVs.cons; exact rfl)); exact XVs.nil); (with_reducible exact within_c _ _ _ _ _ rfl)))
  (refine fin1 rfl (by exact rfl) rfl ?_)
  rfl
theorem mf_has : MT.mf 137 = some ⟨10, [(.tmp 6)], (.seq (.reg [⟨none, (some 3), (.box 5 (.s 0))⟩, ⟨none, (some 4), (.box 1 (.s 1))⟩, ⟨none, (some 6), (.mv (.c (.lit (.bool false))))⟩]) (.seq (.reg [⟨none, (some 7), (.mv (.s 2))⟩, ⟨none, (some 8), (.mf 158 0 [(.s 4), (.s 3)])⟩, ⟨none, (some 9), (.call 110 [(.s 7), (.s 8)])⟩, ⟨none, (some 6), (.mv (.s 9))⟩]) .ret))⟩ := by kernel_rfl
theorem has_c (k : Nat) (a b c w : Int) (fl lo l : List Int) (h : MHeap) {v sv : MV} {t : Bool} (hw : -1000000 ≤ w ∧ w ≤ 1000000) (hc : 0 ≤ c ∧ c ≤ 1000000) (hl : l.length ≤ 100000) (hv : frz 0 [] h 8 v = some sv) (hs : SlI sv l) (ht : hasW c w l = t) : orA (k + 5) 137 [encS a b c fl lo, I64 w, v] h = some (Bo t, h) := by
  refine callL (args' := [encS a b c fl lo, I64 w, sv]) (by rw [List.mapM_cons, frz_lt (encS_lt a b c fl lo)]; simp [List.mapM_cons, hv]; simp [frz, MV.lt]) rfl (runZ_of mf_has (by simp) ?_)
  simp only [argsL]
  have hcf : orA (k + 4) 110 [sv, .fn 158 0 [.ptr 1 0 0 0, .ptr 0 0 0 0]] [⟨0, false, 5, [encS a b c fl lo]⟩, ⟨0, false, 1, [I64 w]⟩] = some (Bo t, [⟨0, false, 5, [encS a b c fl lo]⟩, ⟨0, false, 1, [I64 w]⟩]) :=
    ContainsFuncI_c (k + 2) 158 [.rp (I64 w) 0, .rp (encS a b c fl lo) 0] (inW c w) l _ hl (fun n h => has1_c k a b c w fl lo hw hc n h) (by simp [ltL, MV.lt, ltL_I]) (hs.frz _) hs (by simp [frz, MV.lt, ltL, ltL_I, List.mapM_cons]) ht
  repeat (first | apply ef_seq | (apply ef_mv; exact rfl; exact rfl) | (apply ef_box; exact rfl; exact rfl; exact rfl; exact rfl) | (apply ef_mf; exact rfl; (repeat (apply XVs.cons; exact rfl)); exact XVs.nil) | apply ef_nil | apply seqQ.normal)
  (apply ef_call; (· exact rfl); (· ((repeat (apply XVs.cons; exact rfl)); exact XVs.nil)); · exact hcf)
  repeat (first | (apply ef_mv; exact rfl; exact rfl) | apply ef_nil | apply seqQ.normal | apply ef_ret)
  (refine fin1 rfl (by exact rfl) rfl ?_)
  rfl

theorem mf_windows : MT.mf 135 = some ⟨6, [(.tmp 4)], (.seq (.reg [⟨none, (some 2), (.box 5 (.s 0))⟩, ⟨none, (some 3), (.box 1 (.s 1))⟩, ⟨none, (some 4), (.mv (.c (.lit .nilFunc)))⟩]) (.seq (.reg [⟨none, (some 5), (.mf 157 0 [(.s 2), (.s 3)])⟩, ⟨none, (some 4), (.mv (.s 5))⟩]) .ret))⟩ := by kernel_rfl
theorem windows_c (k : Nat) (a b c : Int) (fl lo l : List Int) (h : MHeap) {sv : MV} (hs : SlI sv l) : orA (k + 1) 135 [encS a b c fl lo, sv] h = some (.fn 157 0 [.rp (encS a b c fl lo) 0, .rp sv 0], h) := by
  have hlt := hs.lt
  have hz : runZ MT (orA k) (itA k) 1000000 135 [encS a b c fl lo, sv] [] = some (.fn 157 0 [.rp (encS a b c fl lo) 0, .rp sv 0], []) := by
    have hcell : sv.cells.length = 1 ∧ sv.cOk = true := by cases hs <;> exact ⟨rfl, rfl⟩
    refine runZ_of mf_windows (by simp) ?_
    simp only [argsL]
    repeat (first | apply ef_seq | (apply ef_box; exact rfl; exact rfl; exact rfl; exact rfl))
    (apply ef_box; exact rfl; exact rfl; exact hcell.1; exact hcell.2)
    repeat (first | apply ef_seq | (apply ef_mv; exact rfl; exact rfl) | (apply ef_mf; exact rfl; (repeat (apply XVs.cons; exact rfl)); exact XVs.nil) | apply ef_nil | apply seqQ.normal | apply ef_ret)
    refine fin_frz rfl rfl rfl (by simp) ?_
    simp [frz, MV.lt, ltL, ltL_I, List.mapM_cons, hlt]
  have := callA (k := k) (args := [encS a b c fl lo, sv]) (args' := [encS a b c fl lo, sv]) (h := h) (frzL_lt (by simp [ltL, MV.lt, ltL_I, hlt])) rfl hz (by simp [okV, ok1, MV.lt, ltL, ltL_I, hlt]) rfl
  simpa [shV, sh1] using this

theorem rngI_len : ∀ (k : Nat) (a : Int), (rngI a k).length = k
  | 0, _ => rfl
  | k + 1, a => by simp [rngI, rngI_len k]
theorem rngI_at : ∀ {k i : Nat} {a : Int}, i < k → (rngI a k)[i]? = some (a + i)
  | k + 1, 0, a, _ => by simp [rngI]
  | k + 1, i + 1, a, h => by
    simp only [rngI, List.getElem?_cons_succ]
    rw [rngI_at (k := k) (i := i) (by omega)]
    congr 1; omega
theorem rngI_take {k i : Nat} {a : Int} (h : i < k) : (rngI a k).take (i + 1) = (rngI a k).take i ++ [a + i] := by
  rw [List.take_add_one, rngI_at h]; rfl
/-- What windows yields. -/
def winsY (l : List Int) : List (List MV) := l.map fun w => [I64 w]
theorem mf_windows1 : MT.mf 157 = some ⟨39, [], (.seq (.reg [⟨none, (some 5), (.fa 0 (.s 1))⟩, ⟨none, (some 6), (.fa 0 (.s 5))⟩, ⟨none, (some 7), (.ld none (.s 6))⟩, ⟨none, (some 4), (.mv (.s 7))⟩]) (.block 0 (.loop [4, 1, 2, 0] (.seq (.seq (.reg [⟨none, (some 8), (.mv (.s 4))⟩, ⟨none, (some 9), (.fa 0 (.s 1))⟩, ⟨none, (some 10), (.fa 1 (.s 9))⟩, ⟨none, (some 11), (.ld none (.s 10))⟩, ⟨none, (some 12), (.fa 0 (.s 1))⟩, ⟨none, (some 13), (.fa 2 (.s 12))⟩, ⟨none, (some 14), (.ld none (.s 13))⟩, ⟨none, (some 15), (.bin .sub (.s 11) (.s 14))⟩, ⟨none, (some 16), (.bin .lss (.s 8) (.s 15))⟩]) (.cond (.s 16) .skip (.exit 0))) (.seq (.block 1 (.seq (.reg [⟨none, (some 19), (.ld (some 5) (.s 1))⟩, ⟨none, (some 20), (.mv (.s 4))⟩, ⟨none, (some 21), (.fa 0 (.s 1))⟩, ⟨none, (some 22), (.fa 3 (.s 21))⟩, ⟨none, (some 23), (.ld none (.s 22))⟩, ⟨none, (some 24), (.call 137 [(.s 19), (.s 20), (.s 23)])⟩, ⟨none, (some 25), (.un .not (.s 24))⟩, ⟨none, (some 26), (.mv (.s 25))⟩, ⟨(some (26, true)), (some 27), (.ld (some 5) (.s 1))⟩, ⟨(some (26, true)), (some 28), (.mv (.s 4))⟩, ⟨(some (26, true)), (some 29), (.ld none (.s 2))⟩, ⟨(some (26, true)), (some 30), (.call 137 [(.s 27), (.s 28), (.s 29)])⟩, ⟨(some (26, true)), (some 31), (.un .not (.s 30))⟩, ⟨none, (some 32), (.pick (.s 26) (.s 31) (.c (.lit (.bool false))))⟩, ⟨none, (some 33), (.mv (.s 32))⟩, ⟨(some (33, true)), (some 34), (.mv (.s 0))⟩, ⟨(some (33, true)), (some 35), (.mv (.s 4))⟩, ⟨(some (33, true)), (some 36), (.callv (.s 34) [(.s 35)])⟩, ⟨(some (33, true)), (some 37), (.un .not (.s 36))⟩, ⟨none, (some 38), (.pick (.s 33) (.s 37) (.c (.lit (.bool false))))⟩]) (.cond (.s 38) .ret .skip))) (.reg [⟨none, (some 17), (.mv (.s 4))⟩, ⟨none, (some 18), (.bin .add (.s 17) (.c (.lit (.int .i64 1))))⟩, ⟨none, (some 4), (.mv (.s 18))⟩]))))))⟩ := by kernel_rfl
set_option maxHeartbeats 1000000 in
theorem windows1_it (k : Nat) (a b c : Int) (fl lo l : List Int) (h : MHeap) {sv : MV} (hs : SlI sv l) (ha : 0 ≤ a ∧ a ≤ 1000) (hb : 0 ≤ b ∧ b ≤ 1000) (hc : 0 ≤ c ∧ c ≤ 1000) (hfl : fl.length ≤ 100000) (hll : l.length ≤ 100000) :
    itA (k + 5) 157 0 [.rp (encS a b c fl lo) 0, .rp sv 0] h = some (winsY (wins ⟨a, b, c, fl, lo⟩ l)) := by
  have hlt := hs.lt
  obtain ⟨a1, a2⟩ := ha
  obtain ⟨b1, b2⟩ := hb
  refine itA_of mf_windows1 (by kernel_rfl) (itM_of (cs := [.rp (encS a b c fl lo) 0, .rp sv 0]) ?_ (by simp) ?_ ?_)
  · simp [List.mapM_cons, frz, MV.lt, ltL, ltL_I, hlt]
  · simp only [List.take_zero, List.nil_append, List.drop_zero, List.cons_append, argsL]
    repeat (first | apply efi_seq | apply efi_block | apply seqI.normal | (apply efi_reg; exact rfl) | (apply ef_mv; exact rfl; exact rfl) | (apply ef_ldr; exact rfl; exact rfl; (exact rfl)) | (apply ef_far; exact rfl; exact rfl) | apply ef_nil)
    obtain ⟨K, hK⟩ : ∃ K, (b - c - a).toNat = K := ⟨_, rfl⟩
    refine efi_loop (α := Nat × Int) (fun s => s.1 ≤ K ∧ s.2 = a + (s.1 : Int)) (fun s => [(4, I64 s.2), (1, .rp (encS a b c fl lo) 0), (2, .rp sv 0), (0, .yld)]) (fun _ => []) (fun _ => 0) (fun s => winsY (((rngI a K).take s.1).filter fun w => !hasW c w fl && !hasW c w l)) (fun s => K - s.1) (0, a) ⟨by simp, by simp⟩ (by simp; omega) (by ((repeat (refine Hold.cons (by exact rfl) ?_)); exact Hold.nil)) rfl rfl rfl ?_
    rintro ⟨i, w⟩ ⟨hi, hwi⟩
    simp only at hi hwi ⊢
    have hsc := hs.cell
    by_cases hlt2 : i < K
    · have HX := Lib.hid (show winsY (((rngI a K).take (i + 1)).filter fun w => !hasW c w fl && !hasW c w l) = winsY (((rngI a K).take i).filter fun w => !hasW c w fl && !hasW c w l) ++ (if !hasW c w fl && !hasW c w l then [[I64 w]] else []) by
        rw [rngI_take hlt2, List.filter_append, ← hwi]
        unfold winsY
        rw [List.map_append]
        congr 1
        simp only [List.filter_cons, List.filter_nil]
        split <;> rfl)
      have hwb : -1000000 ≤ w ∧ w ≤ 1000000 := by omega
      have hwb2 : w < b - c := by omega
      have hw1 := hwb.1
      have hw2 := hwb.2
      have hc1 := hc.1
      have hc2 := hc.2
      have hf := fun t (ht : hasW c w fl = t) h => has_c k a b c w fl lo fl h (v := .sl (fl.map I64)) hwb (by omega) hfl ((SlI.sl fl).frz h) (.sl fl) ht
      have hg := fun t (ht : hasW c w l = t) h => has_c k a b c w fl lo l h (v := sv) hwb (by omega) hll (hs.frz h) hs ht
      cases h1 : hasW c w fl
      · have hf := hf _ h1
        cases h2 : hasW c w l
        · have hg := hg _ h2
          repeat (first | apply efi_seq | apply efi_block | apply efi_skip | apply seqI.normal | (apply efi_reg; exact rfl) | (apply efi_regy; exact rfl) | (apply efy_op; exact rfl) | (apply efi_condt; exact rfl; (exact rfl)) | (apply ef_mv; exact rfl; exact rfl) | (apply ef_bin; exact rfl; exact rfl; exact rfl; (first | exact cmp_t rfl (by first | exact rfl | (simp only [cmpP]; omega)) | ((with_reducible refine bin_sub (wrap_of ?_ ?_)) <;> omega))) | (apply ef_gy; exact rfl; (exact (rfl : true = true))) | (apply ef_ldr; exact rfl; exact rfl; (first | exact rd_5 rfl rfl rfl rfl rfl | exact rfl)) | (apply ef_far; exact rfl; exact rfl) | (apply ef_notF; exact rfl; exact rfl) | apply ef_nil | (apply ef_call; exact rfl; ((repeat (apply XVs.cons; exact rfl)); exact XVs.nil); (with_reducible exact hf _)))
          (apply ef_ldr; (· exact rfl); (· exact rfl); (· exact hsc))
          repeat (first | (apply efy_op; exact rfl) | (apply ef_mv; exact rfl; exact rfl) | (apply ef_gy; exact rfl; (exact (rfl : true = true))) | (apply ef_pick; exact rfl; exact rfl; exact rfl) | (apply ef_notF; exact rfl; exact rfl) | apply ef_nil | (apply ef_call; exact rfl; ((repeat (apply XVs.cons; exact rfl)); exact XVs.nil); (with_reducible exact hg _)))
          (apply efy_yield; (· exact rfl); (· exact rfl); (· exact rfl); (· ((repeat (apply XVs.cons; exact rfl)); exact XVs.nil)); (· exact rfl))
          · repeat (first | apply efi_skip | apply seqI.normal | apply blockI.normal | (apply efi_reg; exact rfl) | apply efy_nil | (apply efy_op; exact rfl) | (apply efi_condf; exact rfl; (exact rfl)) | (apply ef_mv; exact rfl; exact rfl) | (apply ef_bin; exact rfl; exact rfl; exact rfl; (((with_reducible refine bin_add (wrap_of ?_ ?_)) <;> omega))) | (apply ef_gy; exact rfl; (exact (rfl : true = true))) | (apply ef_pick; exact rfl; exact rfl; exact rfl) | (apply ef_notT; exact rfl; exact rfl) | apply ef_nil)
            (refine loopI.normal _ _ _ _ _ ⟨rfl, (i + 1, w + 1), ⟨by simp only; omega, by simp only; omega⟩, (by simp only; omega), by ((repeat (refine Hold.cons (by exact rfl) ?_)); exact Hold.nil), rfl, rfl, (by rw [HX.out, h1, h2]; rfl)⟩)
          · repeat (first | apply efi_ret | apply seqI.normal | apply seqI.ret | apply blockI.ret | apply efy_nil | (apply efy_op; exact rfl) | (apply efi_condt; exact rfl; (exact rfl)) | apply loopI.ret | (apply ef_gy; exact rfl; (exact (rfl : true = true))) | (apply ef_pick; exact rfl; exact rfl; exact rfl) | (apply ef_notF; exact rfl; exact rfl) | apply ef_nil)
            exact finI_stop rfl
        · have hg := hg _ h2
          repeat (first | apply efi_seq | apply efi_block | apply efi_skip | apply seqI.normal | (apply efi_reg; exact rfl) | (apply efi_regy; exact rfl) | (apply efy_op; exact rfl) | (apply efi_condt; exact rfl; (exact rfl)) | (apply ef_mv; exact rfl; exact rfl) | (apply ef_bin; exact rfl; exact rfl; exact rfl; (first | exact cmp_t rfl (by first | exact rfl | (simp only [cmpP]; omega)) | ((with_reducible refine bin_sub (wrap_of ?_ ?_)) <;> omega))) | (apply ef_gy; exact rfl; (exact (rfl : true = true))) | (apply ef_ldr; exact rfl; exact rfl; (first | exact rd_5 rfl rfl rfl rfl rfl | exact rfl)) | (apply ef_far; exact rfl; exact rfl) | (apply ef_notF; exact rfl; exact rfl) | apply ef_nil | (apply ef_call; exact rfl; ((repeat (apply XVs.cons; exact rfl)); exact XVs.nil); (with_reducible exact hf _)))
          (apply ef_ldr; (· exact rfl); (· exact rfl); (· exact hsc))
          repeat (first | apply efi_skip | apply seqI.normal | apply blockI.normal | (apply efi_reg; exact rfl) | apply efy_nil | (apply efy_op; exact rfl) | (apply efy_skip; exact rfl; exact rfl; exact rfl) | (apply efi_condf; exact rfl; (exact rfl)) | (apply ef_mv; exact rfl; exact rfl) | (apply ef_bin; exact rfl; exact rfl; exact rfl; (((with_reducible refine bin_add (wrap_of ?_ ?_)) <;> omega))) | (apply ef_gy; exact rfl; (exact (rfl : true = true))) | (apply ef_gn; exact rfl; (exact (rfl : false = false)); exact rfl) | (apply ef_pick; exact rfl; exact rfl; exact rfl) | (apply ef_notT; exact rfl; exact rfl) | apply ef_nil | (apply ef_call; exact rfl; ((repeat (apply XVs.cons; exact rfl)); exact XVs.nil); (with_reducible exact hg _)))
          (refine loopI.normal _ _ _ _ _ ⟨rfl, (i + 1, w + 1), ⟨by simp only; omega, by simp only; omega⟩, (by simp only; omega), by ((repeat (refine Hold.cons (by exact rfl) ?_)); exact Hold.nil), rfl, rfl, (by rw [HX.out, h1, h2]; simp)⟩)
      · have hf := hf _ h1
        repeat (first | apply efi_seq | apply efi_block | apply efi_skip | apply seqI.normal | apply blockI.normal | (apply efi_reg; exact rfl) | (apply efi_regy; exact rfl) | apply efy_nil | (apply efy_op; exact rfl) | (apply efy_skip; exact rfl; exact rfl; exact rfl) | (apply efi_condt; exact rfl; (exact rfl)) | (apply efi_condf; exact rfl; (exact rfl)) | (apply ef_mv; exact rfl; exact rfl) | (apply ef_bin; exact rfl; exact rfl; exact rfl; (first | exact cmp_t rfl (by first | exact rfl | (simp only [cmpP]; omega)) | ((with_reducible refine bin_add (wrap_of ?_ ?_)) <;> omega) | ((with_reducible refine bin_sub (wrap_of ?_ ?_)) <;> omega))) | (apply ef_gn; exact rfl; (exact (rfl : false = false)); exact rfl) | (apply ef_pick; exact rfl; exact rfl; exact rfl) | (apply ef_ldr; exact rfl; exact rfl; (first | exact rd_5 rfl rfl rfl rfl rfl | exact rfl)) | (apply ef_far; exact rfl; exact rfl) | (apply ef_notT; exact rfl; exact rfl) | apply ef_nil | (apply ef_call; exact rfl; ((repeat (apply XVs.cons; exact rfl)); exact XVs.nil); (with_reducible exact hf _)))
        (refine loopI.normal _ _ _ _ _ ⟨rfl, (i + 1, w + 1), ⟨by simp only; omega, by simp only; omega⟩, (by simp only; omega), by ((repeat (refine Hold.cons (by exact rfl) ?_)); exact Hold.nil), rfl, rfl, (by rw [HX.out, h1]; simp)⟩)
    · repeat (first | apply efi_seq | apply efi_exit | apply seqI.normal | apply seqI.exit | apply blockI.here | (apply efi_reg; exact rfl) | (apply efi_condf; exact rfl; (exact rfl)) | apply loopI.exit | (apply ef_mv; exact rfl; exact rfl) | (apply ef_bin; exact rfl; exact rfl; exact rfl; (first | exact cmp_f rfl (by simp only [cmpP]; omega) | ((with_reducible refine bin_sub (wrap_of ?_ ?_)) <;> omega))) | (apply ef_ldr; exact rfl; exact rfl; (exact rfl)) | (apply ef_far; exact rfl; exact rfl) | apply ef_nil)
      refine finI_go rfl ?_
      subst hK
      rw [List.take_of_length_le (by rw [rngI_len]; omega)]
      rfl
  · simp [winsY, MV.cl]
end Go.Proofs.Ytgjpdjihjphbdaa
