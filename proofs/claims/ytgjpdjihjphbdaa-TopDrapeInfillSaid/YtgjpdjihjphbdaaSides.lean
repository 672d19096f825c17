/- The iterator over the sides of a polygon. -/
import Derived.Test.YtgjpdjihjphbdaaRangeLaw
import Derived.Test.YtgjpdjihjphbdaaPol
namespace Go.Proofs.Ytgjpdjihjphbdaa
open Go.RowKit

attribute [local go_sem] Oper.semAt_some

theorem abides_below {β : Type} {B : Nat} {J : β → World → Prop} (hJ : AbidesFrom B J) {s : β} {A A' : World} (h : J s A) (hb : Below A.heap.size A A') : J s A' :=
  hJ s A A' none h ⟨hb.os, hb.tape, hb.output, hb.size, fun k hk _ => hb.block k hk⟩ (fun r e => by cases e)

theorem Stable.box4 {B b : Nat} {s t : Pt} : Stable B (fun W => Box4 W b s t) := fun _ _ h hk => ⟨hk.cell h.c0, hk.cell h.c1, hk.cell h.c2, hk.cell h.c3⟩
theorem Stable.box2 {B b : Nat} {p : Pt} : Stable B (fun W => Box2 W b p) := fun _ _ h hk => ⟨hk.cell h.c0, hk.cell h.c1⟩

/-- The corner with a number, the next one, and side number i as the values that a round is handed. -/
def corner (cs : List Pt) (i : Nat) : Pt := cs.getD i (0, 0)
def nextC (cs : List Pt) (i : Nat) : Pt := cs.getD ((i + 1) % cs.length) (0, 0)
def sideV (cs : List Pt) (i : Fin cs.length) : Array Value := #[(.int .i64 ((i.val : Int))), (.agg #[.int .i64 ((corner cs i.val).1), .int .i64 ((corner cs i.val).2), .int .i64 ((nextC cs i.val).1), .int .i64 ((nextC cs i.val).2)])]
def allFin (n : Nat) : List (Fin n) := List.finRange n
theorem allFin_take (n k : Nat) (h : k < n) : (allFin n).take (k + 1) = (allFin n).take k ++ [⟨k, h⟩] := by
  rw [List.take_succ_eq_append_getElem (by simpa [allFin] using h)]
  simp [allFin]

set_option maxRecDepth 100000 in
set_option maxHeartbeats 4000000 in
theorem sides1_in (n : Nat) (hn : 1 ≤ n) (l Bn b off cap : Nat) (S : Nat → Prop) (cs : List Pt) (hlen : cs.length ≤ 1000) (J Jx : List (Fin cs.length) → World → Prop) (W : World) (hJ : AbidesFrom W.heap.size J)
    (hY : ∀ pre x W1, J pre W1 → pre.length < cs.length → YieldAt Fence.wide (n - 1) Try.prog l (sideV cs x) W1 fun e W' =>
      (e = .returned (.bool true) ∧ J (pre ++ [x]) W' ∧ SameS S W1 W') ∨ (e = .returned (.bool false) ∧ Jx (pre ++ [x]) W'))
    (hB : S Bn) (hb0 : S b) (hn0 : ∀ k, S k → k < W.heap.size) (hc : W.cell? ⟨Bn, 0, none⟩ = some (.slice (some ⟨b, off, none⟩) cs.length cap)) (hr : Rd W 2 (some ⟨b, off, none⟩) cs.length (enc2 cs)) (h0 : J [] W) :
    CallsIn Fence.wide n Try.prog 147 #[.func (.yield l) #[] #[], .pointer (some ⟨Bn, 0, none⟩)] W fun e W' => (∃ v, e = .returned v) ∧
      ((∃ ys, ys = allFin cs.length ∧ J ys W') ∨ (∃ pre, pre <+: allFin cs.length ∧ Jx pre W')) := by
  refine callsIn_of_wp Try.func147 rfl trivial ?_ rfl
  simp only [Try.ntmps147, List.size_toArray, List.length_cons, List.length_nil, Nat.reduceAdd, Nat.reduceSub, Array.replicate_succ, Array.replicate_zero, List.push_toArray, List.append_toArray, List.nil_append, List.cons_append]
  gi_wp2
  gi_loopw [3, 4, 8] (fun _ _ i wr => ∃ k : Nat, k ≤ cs.length ∧ i = .int .i64 (k : Int) ∧ J ((allFin cs.length).take k) wr ∧ SameS S W wr) (fun _ _ i _ => cs.length - (intOf i).toNat)
  case atStart => exact ⟨0, Nat.zero_le _, rfl, h0, SameS.refl _ _⟩
  case round =>
    obtain ⟨k, hk, rfl, hJs, hbw⟩ := hrel
    have HJS := Lib.hid hJs
    clear hJs
    by_cases hlt : k < cs.length
    · have hn1 : (k + 1) % cs.length < cs.length := Nat.mod_lt _ (by omega)
      have hBc : wr.cell? ⟨Bn, 0, none⟩ = some (.slice (some ⟨b, off, none⟩) cs.length cap) := (hbw.cell (p := ⟨Bn, 0, none⟩) hB).trans hc
      obtain ⟨b1, o1, e1, _, c1, c2⟩ := hr.at2 k hlt
      cases e1
      obtain ⟨b2, o2, e2, _, c3, c4⟩ := hr.at2 ((k + 1) % cs.length) hn1
      cases e2
      replace c1 := (hbw.cell (p := ⟨b, off + k * 2, none⟩) hb0).trans c1
      replace c2 := (hbw.cell (p := ⟨b, off + k * 2 + 1, none⟩) hb0).trans c2
      replace c3 := (hbw.cell (p := ⟨b, off + (k + 1) % cs.length * 2, none⟩) hb0).trans c3
      replace c4 := (hbw.cell (p := ⟨b, off + (k + 1) % cs.length * 2 + 1, none⟩) hb0).trans c4
      have HC1 := Lib.hid (show cs[k] = corner cs k by simp [corner, hlt])
      have HC2 := Lib.hid (show cs[(k + 1) % cs.length] = nextC cs k by simp [nextC, hn1])
      rw [HC1.out] at c1 c2
      rw [HC2.out] at c3 c4
      have zB : Bn < wr.heap.size := cell_lt hBc
      have zb : b < wr.heap.size := by have := hbw.size; have := hn0 b hb0; omega
      have zB1 : Bn < wr.heap.size + 1 := by omega
      have zb1 : b < wr.heap.size + 1 := by omega
      obtain ⟨j, hj⟩ : ∃ j, j = (k + 1) % cs.length := ⟨_, rfl⟩
      rw [← hj] at c3 c4 hn1
      have hmod : ((k : Int) + 1) % (cs.length : Int) = (j : Int) := by rw [hj, Int.natCast_emod]; rfl
      have HJ := Lib.hid hj
      clear hj
      clear hr
      gi_wp2
      refine wpIn_region_calm_tail (r := none) 14 (by kernel_rfl) (by kernel_rfl) ?_
      simp only [List.take_succ_cons, List.take_zero, List.drop_succ_cons, List.drop_zero]
      repeat (go_big_quiet_step (fail))
      refine wpQuiet_nil ?_
      intro w1 hb1
      have hJ1 : J ((allFin cs.length).take k) w1 := abides_below hJ HJS.out (((Below.refl _ wr).alloc (Nat.le_refl _) _).trans (hb1.mono (by simp)))
      have hbw1 : SameS S W w1 := hbw.trans (SameS.of_below (((Below.refl _ wr).alloc (Nat.le_refl _) _).trans (hb1.mono (by simp))) (fun k hk => Nat.lt_of_lt_of_le (hn0 k hk) hbw.size))
      obtain ⟨fn, tmps, assign, body, hy, hR⟩ := hY _ ⟨k, hlt⟩ w1 hJ1 (by simp [allFin]; omega)
      unfold sideV at hy
      dsimp only at hy
      have HK := Lib.hid (allFin_take cs.length k hlt)
      clear hJ hY hbw
      have HB := Lib.hid hbw1
      clear hbw1 hJ1 HJS hb1 hBc
      gi_wp2
      refine hR.mono ?_
      rintro e W3 (⟨rfl, hJ3, hk3⟩ | ⟨rfl, hJx3⟩)
      · have HJ3 := Lib.hid hJ3
        clear hJ3
        gi_wp2
        go_roundw
        case rel => exact ⟨k + 1, by omega, by go_num, by rw [HK.out]; exact HJ3.out, HB.out.trans hk3⟩
        case measure => simp [intOf]; omega
      · have HJ3 := Lib.hid hJx3
        clear hJx3
        gi_wp2
        refine bodyPost_ret (results_none rfl _ _ _) rfl ?_
        exact ⟨⟨_, rfl⟩, .inr ⟨_, ⟨_, by rw [← HK.out]; exact List.take_append_drop _ _⟩, HJ3.out⟩⟩
    · gi_wp2
      go_end0
      refine ⟨⟨_, rfl⟩, .inl ⟨_, rfl, ?_⟩⟩
      have := HJS.out
      rw [List.take_of_length_le (by simp [allFin]; omega)] at this
      exact this

set_option maxHeartbeats 400000 in
/-- 'sides(p)' boxes the polygon and hands back the iterator. -/
theorem sides_any (v : Value) (w : World) (hv : ∃ A n c, v = .slice A n c) :
    Calls Try.prog 97 #[.agg #[v]] w fun e w' => e = .returned (.func (.func 147) #[] #[.pointer (some ⟨w.heap.size, 0, none⟩)]) ∧ w.alloc (.cells #[v] 41) = w' := by
  obtain ⟨A, n, c, rfl⟩ := hv
  go_enter Try.func97, Try.ntmps97
  go_wp2
  go_ret
  exact ⟨rfl, rfl⟩

theorem sides_stops (Bn b off cap : Nat) (S : Nat → Prop) (cs : List Pt) (hlen : cs.length ≤ 1000) (w : World) (hB : S Bn) (hb0 : S b) (hn0 : ∀ k, S k → k < w.heap.size)
    (hc : w.cell? ⟨Bn, 0, none⟩ = some (.slice (some ⟨b, off, none⟩) cs.length cap)) (hr : Rd w 2 (some ⟨b, off, none⟩) cs.length (enc2 cs)) : ∀ n, 1 ≤ n →
    SeqStopsK Fence.wide n Try.prog 147 #[.pointer (some ⟨Bn, 0, none⟩)] (sideV cs) (SameS S) (fun ys => ys = allFin cs.length) (fun pre => pre <+: allFin cs.length) cs.length w :=
  fun n hn l J Jx W hW hJ _ hY h0 => sides1_in n hn l Bn b off cap S cs hlen J Jx W hJ hY hB hb0 (fun k hk => Nat.lt_of_lt_of_le (hn0 k hk) hW.size) (cell_below hc hW) (hr.below rfl hW) h0

end Go.Proofs.Ytgjpdjihjphbdaa
