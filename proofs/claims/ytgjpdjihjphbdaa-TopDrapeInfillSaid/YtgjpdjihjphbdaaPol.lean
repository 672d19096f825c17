/- Sides of polygons: the small functions. -/
import Derived.Test.YtgjpdjihjphbdaaApp
import Derived.Test.YtgjpdjihjphbdaaSmall
/- Sides of polygons: the small functions. -/
namespace Go.Proofs.Ytgjpdjihjphbdaa
open Go.RowKit

theorem mul_bd {a b : Int} {A B : Int} (h1 : -A ≤ a) (h2 : a ≤ A) (h3 : -B ≤ b) (h4 : b ≤ B) : -(A * B) ≤ a * b ∧ a * b ≤ A * B := by
  have hA : 0 ≤ A := by omega
  have hB : 0 ≤ B := by omega
  have e1 : a.natAbs ≤ A.natAbs := by omega
  have e2 : b.natAbs ≤ B.natAbs := by omega
  have e3 : (a * b).natAbs ≤ (A * B).natAbs := by rw [Int.natAbs_mul, Int.natAbs_mul]; exact Nat.mul_le_mul e1 e2
  have e4 : 0 ≤ A * B := Int.mul_nonneg hA hB
  omega

/-- A position, a side, and the cross product of a side and the way from its first corner to a position. -/
abbrev Pt := Int × Int
def InP (p : Pt) : Prop := 0 ≤ p.1 ∧ p.1 ≤ 1000 ∧ 0 ≤ p.2 ∧ p.2 ≤ 1000
def crs (s t x : Pt) : Int := (t.1 - s.1) * (x.2 - s.2) - (x.1 - s.1) * (t.2 - s.2)

set_option maxRecDepth 100000 in
set_option maxHeartbeats 1000000 in
theorem cross_any (s t x : Pt) (w : World) (hs : InP s) (ht : InP t) (hx : InP x) :
    Calls Try.prog 149 #[(.agg #[.int .i64 (s.1), .int .i64 (s.2), .int .i64 (t.1), .int .i64 (t.2)]), (.agg #[.int .i64 (x.1), .int .i64 (x.2)])] w (Ret w (.int .i64 (crs s t x))) := by
  obtain ⟨a, b⟩ := s
  obtain ⟨c, d⟩ := t
  obtain ⟨e, f⟩ := x
  obtain ⟨p1, p2, p3, p4⟩ := hs
  obtain ⟨p5, p6, p7, p8⟩ := ht
  obtain ⟨p9, q1, q2, q3⟩ := hx
  dsimp only at *
  have m1 := mul_bd (a := c - a) (b := f - b) (A := 1000) (B := 1000) (by omega) (by omega) (by omega) (by omega)
  have m2 := mul_bd (a := e - a) (b := d - b) (A := 1000) (B := 1000) (by omega) (by omega) (by omega) (by omega)
  have HC := Lib.hid (show crs (a, b) (c, d) (e, f) = (c - a) * (f - b) - (e - a) * (d - b) from rfl)
  obtain ⟨m11, m12⟩ := m1
  obtain ⟨m21, m22⟩ := m2
  go_enter Try.func149, Try.ntmps149
  go_wp2
  go_ret
  exact ⟨ret_int HC.out.symm, ((Below.refl _ w).alloc (Nat.le_refl _) _).alloc (by simp) _⟩

/-- A position lies on a side. -/
def onS (s t x : Pt) : Bool := crs s t x == 0 && inB x.1 (mn s.1 t.1) (mx s.1 t.1) && inB x.2 (mn s.2 t.2) (mx s.2 t.2)

set_option maxRecDepth 100000 in
set_option maxHeartbeats 1000000 in
theorem has_any (s t x : Pt) (w : World) (hs : InP s) (ht : InP t) (hx : InP x) :
    Calls Try.prog 100 #[(.agg #[.int .i64 (s.1), .int .i64 (s.2), .int .i64 (t.1), .int .i64 (t.2)]), (.agg #[.int .i64 (x.1), .int .i64 (x.2)])] w (Ret w (.bool (onS s t x))) := by
  have hcr := Lib.hid (fun W => cross_any s t x W hs ht hx)
  have hon := Lib.hid (show onS s t x = (crs s t x == 0 && inB x.1 (mn s.1 t.1) (mx s.1 t.1) && inB x.2 (mn s.2 t.2) (mx s.2 t.2)) from rfl)
  generalize crs s t x = cr at hcr hon
  generalize onS s t x = os at hon
  obtain ⟨a, b⟩ := s
  obtain ⟨c, d⟩ := t
  obtain ⟨e, f⟩ := x
  dsimp only at *
  clear hs ht hx
  have hmx := run_mx
  have hmn := run_mn
  cases h1 : (cr == 0)
  · go_enter Try.func100, Try.ntmps100
    go_wp2_with ((go_at_call 149; (with_reducible refine (hcr.out _).mono ?_); rintro e w1 ⟨rfl, hb1⟩; obtain ⟨hcc, hff⟩ := bcell hb1))
    go_ret
    exact ⟨ret_bool (by rw [hon.out, h1]; rfl), (((Below.refl _ w).alloc (Nat.le_refl _) _).alloc (by simp) _).trans (hb1.mono (by simp; omega))⟩
  · cases h2 : inB e (mn a c) (mx a c)
    all_goals
      go_enter Try.func100, Try.ntmps100
      go_wp2_with (first | ((go_at_call 149; (with_reducible refine (hcr.out _).mono ?_); rintro e w1 ⟨rfl, hb1⟩; obtain ⟨hcc, hff⟩ := bcell hb1)) | (go_at_call 129; refine (within_any _ _ _ _).mono ?_; rintro e w' ⟨rfl, rfl⟩))
      go_ret
      exact ⟨ret_bool (by rw [hon.out, h1, h2]; rfl), (((Below.refl _ w).alloc (Nat.le_refl _) _).alloc (by simp) _).trans (hb1.mono (by simp; omega))⟩

end Go.Proofs.Ytgjpdjihjphbdaa

/- Sides of polygons: when two meet. -/
namespace Go.Proofs.Ytgjpdjihjphbdaa
open Go.RowKit

/-- A block that holds a side, or a position. -/
structure Box4 (w : World) (b : Nat) (s t : Pt) : Prop where
  c0 : w.cell? ⟨b, 0, none⟩ = some (.int .i64 (s.1))
  c1 : w.cell? ⟨b, 1, none⟩ = some (.int .i64 (s.2))
  c2 : w.cell? ⟨b, 2, none⟩ = some (.int .i64 (t.1))
  c3 : w.cell? ⟨b, 3, none⟩ = some (.int .i64 (t.2))
structure Box2 (w : World) (b : Nat) (p : Pt) : Prop where
  c0 : w.cell? ⟨b, 0, none⟩ = some (.int .i64 (p.1))
  c1 : w.cell? ⟨b, 1, none⟩ = some (.int .i64 (p.2))
theorem Box4.later {w w' : World} {b : Nat} {s t : Pt} (h : Box4 w b s t) (hb : Below w.heap.size w w') : Box4 w' b s t := ⟨cell_below h.c0 hb, cell_below h.c1 hb, cell_below h.c2 hb, cell_below h.c3 hb⟩
theorem Box4.alloc {w : World} {b : Nat} {s t : Pt} (h : Box4 w b s t) (o : Obj) : Box4 (w.alloc o) b s t := ⟨cell_alloc h.c0 o, cell_alloc h.c1 o, cell_alloc h.c2 o, cell_alloc h.c3 o⟩
theorem Box2.later {w w' : World} {b : Nat} {p : Pt} (h : Box2 w b p) (hb : Below w.heap.size w w') : Box2 w' b p := ⟨cell_below h.c0 hb, cell_below h.c1 hb⟩
theorem Box2.alloc {w : World} {b : Nat} {p : Pt} (h : Box2 w b p) (o : Obj) : Box2 (w.alloc o) b p := ⟨cell_alloc h.c0 o, cell_alloc h.c1 o⟩
theorem Box4.new (w : World) (s t : Pt) (T : TypeId) : Box4 (w.alloc (.cells #[.int .i64 s.1, .int .i64 s.2, .int .i64 t.1, .int .i64 t.2] T)) w.heap.size s t := ⟨by simp, by simp, by simp, by simp⟩
theorem Box2.new (w : World) (p : Pt) (T : TypeId) : Box2 (w.alloc (.cells #[.int .i64 p.1, .int .i64 p.2] T)) w.heap.size p := ⟨by simp, by simp⟩

set_option maxHeartbeats 400000 in
theorem positionErr_any (p : Pt) (w : World) :
    Calls Try.prog 96 #[(.agg #[.int .i64 (p.1), .int .i64 (p.2)])] w (Ret w (.int .i64 (unl (inB p.1 0 1000 && inB p.2 0 1000) 2))) := by
  obtain ⟨a, b⟩ := p
  dsimp only
  cases h1 : inB a 0 1000
  all_goals
    go_enter Try.func96, Try.ntmps96
    go_wp2_with (first | (go_at_call 128; refine (isPosition_any _ _).mono ?_; rintro e w' ⟨rfl, rfl⟩) | (go_at_call 93; refine (unless_any _ _ _).mono ?_; rintro e w' ⟨rfl, rfl⟩))
    go_ret
    exact ⟨rfl, (Below.refl _ w).alloc (Nat.le_refl _) _⟩

/-- A side crosses a height. -/
def crossS (s t : Pt) (y : Int) : Bool := decide (y < s.2) != decide (y < t.2)
set_option maxHeartbeats 400000 in
theorem crosses_any (s t : Pt) (y : Int) (w : World) :
    Calls Try.prog 101 #[(.agg #[.int .i64 (s.1), .int .i64 (s.2), .int .i64 (t.1), .int .i64 (t.2)]), (.int .i64 (y))] w (Ret w (.bool (crossS s t y))) := by
  obtain ⟨a, b⟩ := s
  obtain ⟨c, d⟩ := t
  dsimp only
  have hc := Lib.hid (show crossS (a, b) (c, d) y = (decide (y < b) != decide (y < d)) from rfl)
  go_enter Try.func101, Try.ntmps101
  go_wp2
  go_ret
  exact ⟨ret_bool hc.out.symm, (Below.refl _ w).alloc (Nat.le_refl _) _⟩

/-- The x of a side that crosses a height: numerator and denominator. -/
def atN (s t : Pt) (y : Int) : Int := if t.2 - s.2 < 0 then -(s.1 * (t.2 - s.2) + (y - s.2) * (t.1 - s.1)) else s.1 * (t.2 - s.2) + (y - s.2) * (t.1 - s.1)
def atD (s t : Pt) : Int := if t.2 - s.2 < 0 then -(t.2 - s.2) else t.2 - s.2
set_option maxRecDepth 100000 in
set_option maxHeartbeats 1000000 in
theorem at_any (s t : Pt) (y : Int) (w : World) (hs : InP s) (ht : InP t) (hy : 0 ≤ y ∧ y ≤ 1000) :
    Calls Try.prog 102 #[(.agg #[.int .i64 (s.1), .int .i64 (s.2), .int .i64 (t.1), .int .i64 (t.2)]), (.int .i64 (y))] w (Ret w (.tuple #[(.int .i64 (atN s t y)), (.int .i64 (atD s t))])) := by
  obtain ⟨a, b⟩ := s
  obtain ⟨c, d⟩ := t
  obtain ⟨p1, p2, p3, p4⟩ := hs
  obtain ⟨p5, p6, p7, p8⟩ := ht
  obtain ⟨y1, y2⟩ := hy
  dsimp only at *
  have m1 := mul_bd (a := a) (b := d - b) (A := 1000) (B := 1000) (by omega) (by omega) (by omega) (by omega)
  have m2 := mul_bd (a := y - b) (b := c - a) (A := 1000) (B := 1000) (by omega) (by omega) (by omega) (by omega)
  obtain ⟨m11, m12⟩ := m1
  obtain ⟨m21, m22⟩ := m2
  by_cases hd : d - b < 0
  · have HN := Lib.hid (show atN (a, b) (c, d) y = -(a * (d - b) + (y - b) * (c - a)) by unfold atN; exact if_pos hd)
    have HD := Lib.hid (show atD (a, b) (c, d) = -(d - b) by unfold atD; exact if_pos hd)
    go_enter Try.func102, Try.ntmps102
    go_wp2
    go_ret2
    exact ⟨by rw [HN.out, HD.out]; rfl, (Below.refl _ w).alloc (Nat.le_refl _) _⟩
  · have HN := Lib.hid (show atN (a, b) (c, d) y = a * (d - b) + (y - b) * (c - a) by unfold atN; exact if_neg hd)
    have HD := Lib.hid (show atD (a, b) (c, d) = d - b by unfold atD; exact if_neg hd)
    go_enter Try.func102, Try.ntmps102
    go_wp2
    go_ret2
    exact ⟨by rw [HN.out, HD.out]; rfl, (Below.refl _ w).alloc (Nat.le_refl _) _⟩

/-- Two numbers have opposite signs. -/
def opp (a b : Int) : Bool := decide (a < 0 ∧ 0 < b ∨ 0 < a ∧ b < 0)
set_option maxHeartbeats 400000 in
theorem opposite_any (a b : Int) (w : World) :
    Calls Try.prog 165 #[(.int .i64 (a)), (.int .i64 (b))] w fun e w' => e = .returned (.bool (opp a b)) ∧ w = w' := by
  by_cases h1 : a < 0
  · by_cases h2 : 0 < b
    · have H := Lib.hid (show opp a b = true by simp [opp, h1, h2])
      go_enter Try.func165, Try.ntmps165
      go_wp2
      go_ret
      exact ⟨ret_bool H.out.symm, rfl⟩
    · have H := Lib.hid (show opp a b = false by simp only [opp, decide_eq_false_iff_not]; omega)
      have h3 : decide ((0 : Int) < b) = false := decide_eq_false h2
      have h4 : decide ((0 : Int) < a) = false := decide_eq_false (by omega)
      go_enter Try.func165, Try.ntmps165
      go_wp2
      go_ret
      exact ⟨ret_bool H.out.symm, rfl⟩
  · have h5 : decide (a < 0) = false := decide_eq_false h1
    by_cases h2 : 0 < a
    · have H := Lib.hid (show opp a b = decide (b < 0) by simp only [opp]; rw [decide_eq_decide]; omega)
      go_enter Try.func165, Try.ntmps165
      go_wp2
      go_ret
      exact ⟨ret_bool H.out.symm, rfl⟩
    · have H := Lib.hid (show opp a b = false by simp only [opp, decide_eq_false_iff_not]; omega)
      have h4 : decide ((0 : Int) < a) = false := decide_eq_false h2
      go_enter Try.func165, Try.ntmps165
      go_wp2
      go_ret
      exact ⟨ret_bool H.out.symm, rfl⟩

end Go.Proofs.Ytgjpdjihjphbdaa

/- Sides of polygons: when two meet, and when they clash. -/
namespace Go.Proofs.Ytgjpdjihjphbdaa
open Go.RowKit

/-- Two sides have a position in common. -/
def touchS (s t o p : Pt) : Bool := onS s t o || onS s t p || onS o p s || onS o p t
def meetS (s t o p : Pt) : Bool := touchS s t o p || (opp (crs s t o) (crs s t p) && opp (crs o p s) (crs o p t))

theorem below_box2 (w : World) (o o' : Obj) : Below w.heap.size w ((w.alloc o).alloc o') := ((Below.refl _ w).alloc (Nat.le_refl _) o).alloc (by simp) o'

set_option maxRecDepth 100000 in
set_option maxHeartbeats 4000000 in
theorem meets_any (s t o p : Pt) (w : World) (hs : InP s) (ht : InP t) (ho : InP o) (hp : InP p) :
    Calls Try.prog 148 #[(.agg #[.int .i64 (s.1), .int .i64 (s.2), .int .i64 (t.1), .int .i64 (t.2)]), (.agg #[.int .i64 (o.1), .int .i64 (o.2), .int .i64 (p.1), .int .i64 (p.2)])] w (Ret w (.bool (meetS s t o p))) := by
  have h1 := Lib.hid (fun W => has_any s t o W hs ht ho)
  have h2 := Lib.hid (fun W => has_any s t p W hs ht hp)
  have h3 := Lib.hid (fun W => has_any o p s W ho hp hs)
  have h4 := Lib.hid (fun W => has_any o p t W ho hp ht)
  have k1 := Lib.hid (fun W => cross_any s t o W hs ht ho)
  have k2 := Lib.hid (fun W => cross_any s t p W hs ht hp)
  have k3 := Lib.hid (fun W => cross_any o p s W ho hp hs)
  have k4 := Lib.hid (fun W => cross_any o p t W ho hp ht)
  have HM := Lib.hid (show meetS s t o p = (touchS s t o p || (opp (crs s t o) (crs s t p) && opp (crs o p s) (crs o p t))) from rfl)
  have HT := Lib.hid (show touchS s t o p = (onS s t o || onS s t p || onS o p s || onS o p t) from rfl)
  clear hs ht ho hp
  have B1 := Lib.hid ((Box4.new w s t 150).alloc (.cells #[.int .i64 o.1, .int .i64 o.2, .int .i64 p.1, .int .i64 p.2] 150))
  have B2 := Lib.hid (Box4.new (w.alloc (.cells #[.int .i64 s.1, .int .i64 s.2, .int .i64 t.1, .int .i64 t.2] 150)) o p 150)
  generalize crs s t o = x1 at *
  generalize crs s t p = x2 at *
  generalize crs o p s = x3 at *
  generalize crs o p t = x4 at *
  generalize onS s t o = b1 at *
  generalize onS s t p = b2 at *
  generalize onS o p s = b3 at *
  generalize onS o p t = b4 at *
  generalize touchS s t o p = tt at *
  generalize meetS s t o p = mm at *
  obtain ⟨a, b⟩ := s
  obtain ⟨c, d⟩ := t
  obtain ⟨e, f⟩ := o
  obtain ⟨g, h⟩ := p
  dsimp only at *
  go_enter Try.func148, Try.ntmps148
  go_upto_region 1 with fail
  go_cut [27] (fun r wx => r = .bool tt ∧ Below w.heap.size w wx ∧ Box4 wx w.heap.size (a, b) (c, d) ∧ Box4 wx (w.heap.size + 1) (e, f) (g, h))
  case first =>
    have HB := Lib.hid (below_box2 w (.cells #[.int .i64 a, .int .i64 b, .int .i64 c, .int .i64 d] 150) (.cells #[.int .i64 e, .int .i64 f, .int .i64 g, .int .i64 h] 150))
    have z1 : w.heap.size < w.heap.size + 1 + 1 := by omega
    have z2 : w.heap.size + 1 < w.heap.size + 1 + 1 := by omega
    cases b1 <;> cases b2 <;> cases b3
    all_goals
      refine wp_region_calm_seq 22 ?_
      simp only [List.take_succ_cons, List.take_zero, List.drop_succ_cons, List.drop_zero]
      repeat (go_big_quiet_step ((go_at_call 100; first | with_reducible exact After.call (h1.out _) | with_reducible exact After.call (h2.out _) | with_reducible exact After.call (h3.out _) | with_reducible exact After.call (h4.out _))))
      refine wpQuiet_nil ?_
      intro w1 hb1
      go_wp2_with fail
      go_meet
      exact ⟨ret_boo (by rw [HT.out]; rfl), HB.out.trans (hb1.mono (by simp; omega)), B1.out.later hb1, (by have := B2.out; simpa using this.later hb1)⟩
  case rest =>
    obtain ⟨rfl, hb, ⟨q0, q1, q2, q3⟩, ⟨r0, r1, r2, r3⟩⟩ := hcut
    have z1 := cell_lt q0
    have z2 := cell_lt r0
    dsimp only at z1 z2 q0 q1 q2 q3 r0 r1 r2 r3
    cases tt
    · cases ho1 : opp x1 x2
      all_goals
        have k5 := Lib.hid (fun W => opposite_any x1 x2 W)
        rw [ho1] at k5
        go_upto_region 4 with fail
        refine wp_region_calm (by kernel_rfl) (by kernel_rfl) ?_
        repeat (go_big_quiet_step (first | ((go_at_call 149; first | with_reducible exact After.call (k1.out _) | with_reducible exact After.call (k2.out _) | with_reducible exact After.call (k3.out _) | with_reducible exact After.call (k4.out _))) | (go_at_call 165; first | with_reducible exact After.same (k5.out _) | exact After.same (opposite_any _ _ _))))
        refine wpQuiet_nil ?_
        intro w1 hb1
        go_wp2
        go_ret
        exact ⟨ret_bool (by rw [HM.out, ho1]; rfl), hb.trans (hb1.mono hb.size)⟩
    · go_wp2
      go_ret
      exact ⟨ret_bool (by rw [HM.out]; rfl), hb⟩

/-- Two sides, the second one behind the first one, have more in common than they may. -/
def clashS (i : Int) (s t : Pt) (k : Int) (o p : Pt) (n : Int) : Bool :=
  if k = i + 1 then onS s t p || onS o p s else if i = 0 ∧ k = n - 1 then onS s t o || onS o p t else meetS s t o p

set_option maxRecDepth 100000 in
set_option maxHeartbeats 4000000 in
theorem clash_any (i k n : Int) (s t o p : Pt) (w : World) (hi : 0 ≤ i ∧ i ≤ 1000) (hk : 0 ≤ k ∧ k ≤ 1000) (hn : 0 ≤ n ∧ n ≤ 1000) (hs : InP s) (ht : InP t) (ho : InP o) (hp : InP p) :
    Calls Try.prog 98 #[(.int .i64 (i)), (.agg #[.int .i64 (s.1), .int .i64 (s.2), .int .i64 (t.1), .int .i64 (t.2)]), (.int .i64 (k)), (.agg #[.int .i64 (o.1), .int .i64 (o.2), .int .i64 (p.1), .int .i64 (p.2)]), (.int .i64 (n))] w (Ret w (.bool (clashS i s t k o p n))) := by
  have h1 := Lib.hid (fun W => has_any s t p W hs ht hp)
  have h2 := Lib.hid (fun W => has_any o p s W ho hp hs)
  have h3 := Lib.hid (fun W => has_any s t o W hs ht ho)
  have h4 := Lib.hid (fun W => has_any o p t W ho hp ht)
  have h5 := Lib.hid (fun W => meets_any s t o p W hs ht ho hp)
  have HC := Lib.hid (show clashS i s t k o p n = if k = i + 1 then onS s t p || onS o p s else if i = 0 ∧ k = n - 1 then onS s t o || onS o p t else meetS s t o p from rfl)
  clear hs ht ho hp
  obtain ⟨i1, i2⟩ := hi
  obtain ⟨k1, k2⟩ := hk
  obtain ⟨n1, n2⟩ := hn
  have HB := Lib.hid (below_box2 w (.cells #[.int .i64 s.1, .int .i64 s.2, .int .i64 t.1, .int .i64 t.2] 150) (.cells #[.int .i64 o.1, .int .i64 o.2, .int .i64 p.1, .int .i64 p.2] 150))
  generalize onS s t p = b1 at *
  generalize onS o p s = b2 at *
  generalize onS s t o = b3 at *
  generalize onS o p t = b4 at *
  generalize meetS s t o p = b5 at *
  generalize clashS i s t k o p n = cc at *
  obtain ⟨a, b⟩ := s
  obtain ⟨c, d⟩ := t
  obtain ⟨e, f⟩ := o
  obtain ⟨g, h⟩ := p
  dsimp only at *
  have z1 : w.heap.size < w.heap.size + 1 + 1 := by omega
  have z2 : w.heap.size + 1 < w.heap.size + 1 + 1 := by omega
  by_cases e1 : k = i + 1
  · have HK := Lib.hid e1
    have hk1 : (k == i + 1) = true := by simp [e1]
    clear e1
    cases b1
    all_goals
      go_enter Try.func98, Try.ntmps98
      go_upto_region 2 with fail
      refine wp_region_calm_seq 10 ?_
      simp only [List.take_succ_cons, List.take_zero, List.drop_succ_cons, List.drop_zero]
      repeat (go_big_quiet_step ((go_at_call 100; first | with_reducible exact After.call (h1.out _) | with_reducible exact After.call (h2.out _))))
      refine wpQuiet_nil ?_
      intro w1 hb1
      go_wp2
      go_ret
      exact ⟨ret_bool (by rw [HC.out, if_pos HK.out]; rfl), HB.out.trans (hb1.mono (by simp; omega))⟩
  · have HK := Lib.hid e1
    have hk1 : (k == i + 1) = false := by simp [e1]
    clear e1
    by_cases e2 : i = 0 ∧ k = n - 1
    · have HL := Lib.hid e2
      have hi0 : (i == 0) = true := by simp [e2.1]
      have hk2 : (k == n - 1) = true := by simp [e2.2]
      clear e2
      cases b3
      all_goals
        go_enter Try.func98, Try.ntmps98
        go_upto_region 4 with fail
        refine wp_region_calm_seq 10 ?_
        simp only [List.take_succ_cons, List.take_zero, List.drop_succ_cons, List.drop_zero]
        repeat (go_big_quiet_step ((go_at_call 100; first | with_reducible exact After.call (h3.out _) | with_reducible exact After.call (h4.out _))))
        refine wpQuiet_nil ?_
        intro w1 hb1
        go_wp2
        go_ret
        exact ⟨ret_bool (by rw [HC.out, if_neg HK.out, if_pos HL.out]; rfl), HB.out.trans (hb1.mono (by simp; omega))⟩
    · have HL := Lib.hid e2
      have hkk : (i == 0) = false ∨ ((i == 0) = true ∧ (k == n - 1) = false) := by
        by_cases h0 : i = 0
        · right; exact ⟨by simp [h0], by rw [beq_eq_false_iff_ne]; exact fun h => e2 ⟨h0, h⟩⟩
        · left; simp [h0]
      clear e2
      rcases hkk with hi0 | ⟨hi0, hk2⟩
      all_goals
        go_enter Try.func98, Try.ntmps98
        go_wp2_with ((go_at_call 148; (with_reducible refine (h5.out _).mono ?_); rintro e w1 ⟨rfl, hb1⟩))
        go_ret
        exact ⟨ret_bool (by rw [HC.out, if_neg HK.out, if_neg HL.out]), HB.out.trans (hb1.mono (by simp; omega))⟩

end Go.Proofs.Ytgjpdjihjphbdaa
