/- 'piecesErr': the error of pieces. -/
import Derived.Test.YtgjpdjihjphbdaaSmall
import Derived.Test.YtgjpdjihjphbdaaCalm
namespace Go.Proofs.Ytgjpdjihjphbdaa
open Go.RowKit

def pieceE (last lo hi : Int) : Int := firstE [unl (inB lo 0 200 && inB hi 0 200) 2, unl (decide (lo ≤ hi) && decide (last + 1 < lo)) 9]
def piecesE (last : Int) : List (Int × Int) → Int
  | [] => 0
  | p :: l => if pieceE last p.1 p.2 ≠ 0 then pieceE last p.1 p.2 else piecesE p.2 l

theorem pieceE_zero {last lo hi : Int} (h : pieceE last lo hi = 0) : 0 ≤ lo ∧ lo ≤ 200 ∧ 0 ≤ hi ∧ hi ≤ 200 := by
  unfold pieceE unl at h
  cases h1 : (inB lo 0 200 && inB hi 0 200)
  · rw [h1] at h; simp [firstE] at h
  · simp only [Bool.and_eq_true, inB_iff] at h1
    omega

set_option maxHeartbeats 4000000 in
theorem piecesErr_any (A : Option Addr) (n cap : Nat) (xs : List (Int × Int)) (w : World) (hm : xs.length ≤ 30) (hr : Rd w 2 A n (enc2 xs)) :
    Calls Try.prog 95 #[.slice A n cap] w (Ret w (.int .i64 (piecesE (-2) xs))) := by
  obtain rfl := hr.len2
  go_enter Try.func95, Try.ntmps95
  go_wp2
  go_loopw [3, 5, 6, 7, 13] (fun la _ _ _ i wr => ∃ (k : Nat) (last : Int), k ≤ xs.length ∧ i = .int .i64 k ∧ la = .int .i64 last ∧ -2 ≤ last ∧ last ≤ 200 ∧ piecesE (-2) xs = piecesE last (xs.drop k) ∧ Below w.heap.size w wr) (fun _ _ _ _ i _ => xs.length - (intOf i).toNat)
  case atStart => exact ⟨0, -2, Nat.zero_le _, rfl, rfl, by omega, by omega, rfl, Below.refl _ _⟩
  case round =>
    obtain ⟨k, last, hk, rfl, rfl, hl1, hl2, hz, hb⟩ := hrel
    have HZ := Lib.hid hz
    clear hz
    by_cases hlt : k < xs.length
    · obtain ⟨b, off, rfl, hbl, hc1, hc2⟩ := (hr.below rfl hb).at2 k hlt
      have HD := Lib.hid (drop_at xs k hlt)
      clear hr
      generalize xs[k] = x at hc1 hc2 HD
      obtain ⟨lo, hi⟩ := x
      dsimp only at hc1 hc2
      go_upto_region 7 with fail
      go_cut [6] (fun c wx => c = .bool (inB lo 0 200 && inB hi 0 200) ∧ wx = wr.alloc (.cells #[.int .i64 lo, .int .i64 hi] 129))
      case first =>
        cases h1 : inB lo 0 200
        all_goals
          go_wp2_with (first | (go_at_call 129; refine (within_any _ _ _ _).mono ?_; rintro e w' ⟨rfl, rfl⟩))
          go_meet
          exact ⟨by simp [h1], rfl⟩
      case rest =>
        obtain ⟨rfl, rfl⟩ := hcut
        have hwr : IntKind.i64.wrap (last + 1) = last + 1 := IntWalk.i64_in _ (by omega)
        have HP : Hid (pieceE last lo hi = firstE [unl (inB lo 0 200 && inB hi 0 200) 2, unl (decide (lo ≤ hi) && decide (last + 1 < lo)) 9]) := rfl
        generalize (inB lo 0 200 && inB hi 0 200) = c at *
        go_upto_region 8 with fail
        go_cut [7] (fun r wx => r = .int .i64 (pieceE last lo hi) ∧ Below w.heap.size w wx ∧ wx.cell? ⟨wr.heap.size, 0, none⟩ = some (.int .i64 lo) ∧ wx.cell? ⟨wr.heap.size, 1, none⟩ = some (.int .i64 hi))
        case first =>
          have hB : Below w.heap.size w ((wr.alloc (.cells #[.int .i64 lo, .int .i64 hi] 129))) := hb.alloc hb.size _
          have hS : w.heap.size ≤ wr.heap.size := hb.size
          by_cases h3 : lo ≤ hi
          · by_cases h4 : last + 1 < lo
            · skip
              have HQ := Lib.hid (show pieceE last lo hi = firstE [unl c 2, unl true 9] by rw [HP.out]; simp [h3, h4])
              refine wp_region_calm_tail 15 (by kernel_rfl) (by kernel_rfl) ?_
              simp only [List.take_succ_cons, List.take_zero, List.drop_succ_cons, List.drop_zero]
              repeat (go_big_quiet_step (first | (go_at_call 93; exact After.same (unless_any _ _ _))))
              refine wpQuiet_nil ?_
              intro w1 hb1
              obtain ⟨hcc, hff⟩ := bcell hb1
              have hz1 : wr.heap.size + 1 ≤ w1.heap.size := by have := hb1.size; simpa using this
              go_wp2_with (first | (go_at_call 92; refine (first2_any _ _ (unl c 2) (unl true 9) _ (by simp) (by simp)).mono ?_; rintro e w' ⟨rfl, rfl⟩))
              go_meet
              exact ⟨ret_num HQ.out.symm, (hB.trans (hb1.mono hB.size)).alloc (by omega) _, cell_alloc (cell_below (by simp) hb1) _, cell_alloc (cell_below (by simp) hb1) _⟩
            · skip
              have HQ := Lib.hid (show pieceE last lo hi = firstE [unl c 2, unl false 9] by rw [HP.out]; simp [h3, h4])
              refine wp_region_calm_tail 15 (by kernel_rfl) (by kernel_rfl) ?_
              simp only [List.take_succ_cons, List.take_zero, List.drop_succ_cons, List.drop_zero]
              repeat (go_big_quiet_step (first | (go_at_call 93; exact After.same (unless_any _ _ _))))
              refine wpQuiet_nil ?_
              intro w1 hb1
              obtain ⟨hcc, hff⟩ := bcell hb1
              have hz1 : wr.heap.size + 1 ≤ w1.heap.size := by have := hb1.size; simpa using this
              go_wp2_with (first | (go_at_call 92; refine (first2_any _ _ (unl c 2) (unl false 9) _ (by simp) (by simp)).mono ?_; rintro e w' ⟨rfl, rfl⟩))
              go_meet
              exact ⟨ret_num HQ.out.symm, (hB.trans (hb1.mono hB.size)).alloc (by omega) _, cell_alloc (cell_below (by simp) hb1) _, cell_alloc (cell_below (by simp) hb1) _⟩
          · have h5 : decide (lo ≤ hi) = false := by simpa using h3
            have HQ := Lib.hid (show pieceE last lo hi = firstE [unl c 2, unl false 9] by rw [HP.out]; simp [h5])
            refine wp_region_calm_tail 15 (by kernel_rfl) (by kernel_rfl) ?_
            simp only [List.take_succ_cons, List.take_zero, List.drop_succ_cons, List.drop_zero]
            repeat (go_big_quiet_step (first | (go_at_call 93; exact After.same (unless_any _ _ _))))
            refine wpQuiet_nil ?_
            intro w1 hb1
            obtain ⟨hcc, hff⟩ := bcell hb1
            have hz1 : wr.heap.size + 1 ≤ w1.heap.size := by have := hb1.size; simpa using this
            go_wp2_with (first | (go_at_call 92; refine (first2_any _ _ (unl c 2) (unl false 9) _ (by simp) (by simp)).mono ?_; rintro e w' ⟨rfl, rfl⟩))
            go_meet
            exact ⟨ret_num HQ.out.symm, (hB.trans (hb1.mono hB.size)).alloc (by omega) _, cell_alloc (cell_below (by simp) hb1) _, cell_alloc (cell_below (by simp) hb1) _⟩
        case rest =>
          obtain ⟨rfl, hb', hc1', hc2'⟩ := hcut
          by_cases hp : pieceE last lo hi = 0
          · obtain ⟨q1, q2, q3, q4⟩ := pieceE_zero hp
            have HPZ := Lib.hid hp
            have hp' : (pieceE last lo hi != 0) = false := by simp [hp]
            clear hp
            go_wp2
            go_roundw
            case rel => exact ⟨k + 1, hi, by omega, by go_num, rfl, by omega, by omega, by rw [HZ.out, HD.out]; simp [piecesE, HPZ.out], hb'⟩
            case measure => simp [intOf]; omega
          · have hp' : (pieceE last lo hi != 0) = true := by simpa using hp
            have HPZ := Lib.hid hp
            clear hp
            go_wp2
            go_ret
            exact ⟨ret_int (by rw [HZ.out, HD.out]; simp [piecesE, HPZ.out]), hb'⟩
    · clear hr
      go_wp2
      go_ret
      exact ⟨ret_int (by rw [HZ.out, List.drop_eq_nil_of_le (by omega)]; rfl), hb⟩

theorem piecesErr_long (A : Option Addr) (n cap : Nat) (xs : List (Int × Int)) (w : World) (hm : 30 < xs.length) (hx : xs.length ≤ 9223372036854775807) (hr : Rd w 2 A n (enc2 xs)) :
    Calls Try.prog 95 #[.slice A n cap] w (Ret w (.int .i64 8)) := by
  obtain rfl := hr.len2
  clear hr
  go_enter Try.func95, Try.ntmps95
  go_wp2
  go_ret
  exact ⟨rfl, Below.refl _ _⟩

/-- The error of pieces. -/
def piecesAll (xs : List (Int × Int)) : Int := if 30 < xs.length then 8 else piecesE (-2) xs
theorem piecesErr_all (A : Option Addr) (n cap : Nat) (xs : List (Int × Int)) (w : World) (hx : xs.length ≤ 9223372036854775807) (hr : Rd w 2 A n (enc2 xs)) :
    Calls Try.prog 95 #[.slice A n cap] w (Ret w (.int .i64 (piecesAll xs))) := by
  unfold piecesAll
  split
  · exact piecesErr_long A n cap xs w (by omega) hx hr
  · exact piecesErr_any A n cap xs w (by omega) hr

theorem piecesE_range : ∀ (xs : List (Int × Int)) (last : Int), piecesE last xs = 0 → ∀ p ∈ xs, 0 ≤ p.1 ∧ p.1 ≤ 200 ∧ 0 ≤ p.2 ∧ p.2 ≤ 200
  | [], _, _, p, hp => by cases hp
  | q :: xs, last, h, p, hp => by
    unfold piecesE at h
    by_cases hq : pieceE last q.1 q.2 = 0
    · simp only [hq] at h
      rcases List.mem_cons.1 hp with rfl | hp
      · have := pieceE_zero hq; omega
      · exact piecesE_range xs q.2 (by simpa using h) p hp
    · rw [if_pos hq] at h
      exact absurd h hq

end Go.Proofs.Ytgjpdjihjphbdaa
