/- Contracts of the smallest functions of the program. -/
import Derived.Test.YtgjpdjihjphbdaaBase
namespace Go.Proofs.Ytgjpdjihjphbdaa
open Go.RowKit

/-- 'a' is from 'lo' to 'hi'. -/
def inB (a lo hi : Int) : Bool := decide (lo ≤ a ∧ a ≤ hi)
theorem inB_iff {a lo hi : Int} : inB a lo hi = true ↔ lo ≤ a ∧ a ≤ hi := by simp [inB]
theorem inB_not {a lo hi : Int} : inB a lo hi = false ↔ ¬ (lo ≤ a ∧ a ≤ hi) := by simp [inB]
/-- 0 if a condition holds, else an error. -/
def unl (b : Bool) (n : Int) : Int := if b then 0 else n

set_option maxHeartbeats 400000 in
theorem within_any (a b c : Int) (w : World) :
    Calls Try.prog 129 #[.int .i64 a, .int .i64 b, .int .i64 c] w fun e w' => e = .returned (.bool (inB a b c)) ∧ w = w' := by
  by_cases h1 : b ≤ a
  · go_enter Try.func129, Try.ntmps129
    go_wp2
    go_ret
    exact ⟨by simp [inB, h1], rfl⟩
  · go_enter Try.func129, Try.ntmps129
    go_wp2
    go_ret
    exact ⟨by simp [inB]; omega, rfl⟩

set_option maxHeartbeats 400000 in
theorem unless_any (b : Bool) (n : Int) (w : World) :
    Calls Try.prog 93 #[.bool b, .int .i64 n] w fun e w' => e = .returned (.int .i64 (unl b n)) ∧ w = w' := by
  cases b
  · go_enter Try.func93, Try.ntmps93
    go_wp2
    go_ret
    exact ⟨rfl, rfl⟩
  · go_enter Try.func93, Try.ntmps93
    go_wp2
    go_ret
    exact ⟨rfl, rfl⟩

set_option maxHeartbeats 400000 in
theorem isHeight_any (a : Int) (w : World) :
    Calls Try.prog 94 #[.int .i64 a] w fun e w' => e = .returned (.bool (inB a 0 10000)) ∧ w = w' := by
  go_enter Try.func94, Try.ntmps94
  go_wp2_with (go_at_call 129; refine (within_any _ _ _ _).mono ?_; rintro e w' ⟨rfl, rfl⟩)
  go_ret
  exact ⟨rfl, rfl⟩

set_option maxHeartbeats 400000 in
theorem isPosition_any (a : Int) (w : World) :
    Calls Try.prog 128 #[.int .i64 a] w fun e w' => e = .returned (.bool (inB a 0 1000)) ∧ w = w' := by
  go_enter Try.func128, Try.ntmps128
  go_wp2_with (go_at_call 129; refine (within_any _ _ _ _).mono ?_; rintro e w' ⟨rfl, rfl⟩)
  go_ret
  exact ⟨rfl, rfl⟩

set_option maxHeartbeats 400000 in
theorem isDate_any (a : Int) (w : World) :
    Calls Try.prog 127 #[.int .i64 a] w fun e w' => e = .returned (.bool (inB a 0 100000)) ∧ w = w' := by
  go_enter Try.func127, Try.ntmps127
  go_wp2_with (go_at_call 129; refine (within_any _ _ _ _).mono ?_; rintro e w' ⟨rfl, rfl⟩)
  go_ret
  exact ⟨rfl, rfl⟩

/-- The first number that is not 0. -/
def firstE : List Int → Int
  | [] => 0
  | x :: l => if x ≠ 0 then x else firstE l

set_option maxHeartbeats 400000 in
theorem first_any (A : Option Addr) (n cap : Nat) (xs : List Int) (w : World) (hm : xs.length ≤ 100) (hr : Rd w 1 A n (enc1 xs)) :
    Calls Try.prog 92 #[.slice A n cap] w fun e w' => e = .returned (.int .i64 (firstE xs)) ∧ w = w' := by
  obtain rfl := hr.len1
  go_enter Try.func92, Try.ntmps92
  go_wp2
  go_loop [4, 7] (fun _ i => ∃ k : Nat, k ≤ xs.length ∧ i = .int .i64 k ∧ firstE xs = firstE (xs.drop k)) (fun _ i => xs.length - (intOf i).toNat)
  case atStart => exact ⟨0, Nat.zero_le _, rfl, rfl⟩
  case round =>
    obtain ⟨k, hk, rfl, hz⟩ := hrel
    have HZ := Lib.hid hz
    clear hz
    by_cases hlt : k < xs.length
    · obtain ⟨b, off, rfl, _, hcell⟩ := hr.at1 k hlt
      have HD := Lib.hid (drop_at xs k hlt)
      clear hr
      generalize xs[k] = x at hcell HD
      by_cases hx : x = 0
      · subst hx
        go_wp2
        go_round
        case rel => exact ⟨k + 1, by omega, by go_num, by rw [HZ.out, HD.out]; simp [firstE]⟩
        case measure => simp [intOf]; omega
      · have HX : (x != 0) = true := by simpa using hx
        have HXX := Lib.hid hx
        clear hx
        go_wp2
        go_ret
        exact ⟨ret_int (by rw [HZ.out, HD.out]; simp [firstE, HXX.out]), rfl⟩
    · clear hr
      go_wp2
      go_ret
      exact ⟨ret_int (by rw [HZ.out, List.drop_eq_nil_of_le (by omega)]; rfl), rfl⟩

theorem first2_any (b c : Nat) (x y : Int) (w : World) (h0 : w.cell? ⟨b, 0, none⟩ = some (.int .i64 x)) (h1 : w.cell? ⟨b, 1, none⟩ = some (.int .i64 y)) :
    Calls Try.prog 92 #[.slice (some ⟨b, 0, none⟩) 2 c] w fun e w' => e = .returned (.int .i64 (firstE [x, y])) ∧ w = w' :=
  first_any _ 2 c [x, y] w (by simp) (Rd.block1 [x, y] (cell_lt h0) fun j hj => by
    match j, hj with
    | 0, _ => exact h0
    | 1, _ => exact h1
    | j + 2, hj => exact absurd hj (by simp))
theorem first3_any (b c : Nat) (x y z : Int) (w : World) (h0 : w.cell? ⟨b, 0, none⟩ = some (.int .i64 x)) (h1 : w.cell? ⟨b, 1, none⟩ = some (.int .i64 y)) (h2 : w.cell? ⟨b, 2, none⟩ = some (.int .i64 z)) :
    Calls Try.prog 92 #[.slice (some ⟨b, 0, none⟩) 3 c] w fun e w' => e = .returned (.int .i64 (firstE [x, y, z])) ∧ w = w' :=
  first_any _ 3 c [x, y, z] w (by simp) (Rd.block1 [x, y, z] (cell_lt h0) fun j hj => by
    match j, hj with
    | 0, _ => exact h0
    | 1, _ => exact h1
    | 2, _ => exact h2
    | j + 3, hj => exact absurd hj (by simp))

theorem first_new (xs : List Int) (hx : xs.length ≤ 100) (W : World) (T : TypeId) :
    Calls Try.prog 92 #[.slice (some ⟨W.heap.size, 0, none⟩) xs.length xs.length] (W.alloc (.cells (enc1 xs).toArray T)) fun e w' => e = .returned (.int .i64 (firstE xs)) ∧ W.alloc (.cells (enc1 xs).toArray T) = w' :=
  first_any _ xs.length xs.length xs _ hx (Rd.block1 xs (by simp) fun j hj => by
    rw [World.cell?_alloc_at _ _ _ _ rfl]
    simp [enc1, hj])
theorem first1_new (a : Int) (W : World) (T : TypeId) :
    Calls Try.prog 92 #[.slice (some ⟨W.heap.size, 0, none⟩) 1 1] (W.alloc (.cells #[.int .i64 a] T)) fun e w' => e = .returned (.int .i64 (firstE [a])) ∧ W.alloc (.cells #[.int .i64 a] T) = w' := first_new [a] (by simp) W T
theorem first2_new (a b : Int) (W : World) (T : TypeId) :
    Calls Try.prog 92 #[.slice (some ⟨W.heap.size, 0, none⟩) 2 2] (W.alloc (.cells #[.int .i64 a, .int .i64 b] T)) fun e w' => e = .returned (.int .i64 (firstE [a, b])) ∧ W.alloc (.cells #[.int .i64 a, .int .i64 b] T) = w' := first_new [a, b] (by simp) W T
theorem first3_new (a b c : Int) (W : World) (T : TypeId) :
    Calls Try.prog 92 #[.slice (some ⟨W.heap.size, 0, none⟩) 3 3] (W.alloc (.cells #[.int .i64 a, .int .i64 b, .int .i64 c] T)) fun e w' => e = .returned (.int .i64 (firstE [a, b, c])) ∧ W.alloc (.cells #[.int .i64 a, .int .i64 b, .int .i64 c] T) = w' := first_new [a, b, c] (by simp) W T
theorem first6_new (a b c d e f : Int) (W : World) (T : TypeId) :
    Calls Try.prog 92 #[.slice (some ⟨W.heap.size, 0, none⟩) 6 6] (W.alloc (.cells #[.int .i64 a, .int .i64 b, .int .i64 c, .int .i64 d, .int .i64 e, .int .i64 f] T)) fun e' w' => e' = .returned (.int .i64 (firstE [a, b, c, d, e, f])) ∧ W.alloc (.cells #[.int .i64 a, .int .i64 b, .int .i64 c, .int .i64 d, .int .i64 e, .int .i64 f] T) = w' := first_new [a, b, c, d, e, f] (by simp) W T

end Go.Proofs.Ytgjpdjihjphbdaa
