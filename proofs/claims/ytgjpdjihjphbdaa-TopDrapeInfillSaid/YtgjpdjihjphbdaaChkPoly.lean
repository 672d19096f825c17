/- 'CheckPolygon' on a polygon of a good size. -/
import Derived.Test.YtgjpdjihjphbdaaChkPoly0
namespace Go.Proofs.Ytgjpdjihjphbdaa
open Go.RowKit

attribute [local go_sem] Oper.semAt_some

set_option maxRecDepth 100000 in
set_option maxHeartbeats 4000000 in
theorem CheckPolygon_ok (b off cap : Nat) (cs : List Pt) (w : World) (hr : Rd w 2 (some ⟨b, off, none⟩) cs.length (enc2 cs)) (he : shapeE cs.length = 0) :
    Calls Try.prog 25 #[.agg #[.slice (some ⟨b, off, none⟩) cs.length cap]] w (Ret w (.tuple #[(.int .i64 ((polyCheck cs).1)), (.int .i64 ((polyCheck cs).2))])) := by
  have HE : (shapeE cs.length != 0) = false := by simp [he]
  have HEE := Lib.hid he
  obtain ⟨n1, n2⟩ := shapeE_zero he
  clear he
  refine (callsIn_wide (n := 9)).1 (callsIn_of_wp_marks Try.func25 rfl trivial ?_ rfl)
  simp only [Try.ntmps25, List.size_toArray, List.length_cons, List.length_nil, Nat.reduceAdd, Nat.reduceSub, Array.replicate_succ, Array.replicate_zero, List.push_toArray, List.append_toArray, List.nil_append, List.cons_append]
  refine wpIn_wide.2 ?_
  go_upto_region 2 with fail
  have HC := Lib.hid (CPst.start w (.slice (some ⟨b, off, none⟩) cs.length cap) cs.length)
  go_cut [5] from 16 to 23 (fun r wx => r = (.int .i64 (shapeE cs.length)) ∧ CPst w (.slice (some ⟨b, off, none⟩) cs.length cap) cs.length 0 0 wx)
  case first =>
    have HS := Lib.hid (show shapeE cs.length = firstE [unl (decide ((3 : Int) ≤ cs.length)) 10, unl (decide ((cs.length : Int) ≤ 12)) 8] from rfl)
    clear HE
    have d1 : (3 : Int) ≤ cs.length := by omega
    have d2 : (cs.length : Int) ≤ 12 := by omega
    refine wp_region_calm_tail 6 (by kernel_rfl) (by kernel_rfl) ?_
    simp only [List.take_succ_cons, List.take_zero, List.drop_succ_cons, List.drop_zero]
    repeat (go_big_quiet_step ((go_at_call 93; exact After.same (unless_any _ _ _))))
    refine wpQuiet_nil ?_
    intro w1 hb1
    go_wp2_with (go_at_call 92; refine (first2_new _ _ _ _).mono ?_; rintro e w' ⟨rfl, rfl⟩)
    go_meet
    exact ⟨ret_num (by rw [HS.out]; simp [d1, d2]), (HC.out.later hb1).later ((Below.refl _ _).alloc (Nat.le_refl _) _)⟩
  case rest =>
    obtain ⟨rfl, hcp⟩ := hcut
    have c0 := hcp.p.cell
    have HCP := Lib.hid hcp
    clear hcp HC
    go_wp2
    go_loopw [6, 7, 8, 30] (fun _ _ _ i wr => ∃ k : Nat, k ≤ cs.length ∧ i = (.int .i64 ((k : Int))) ∧ (∀ j, j < k → posE (corner cs j) = 0) ∧ CPst w (.slice (some ⟨b, off, none⟩) cs.length cap) cs.length 0 0 wr) (fun _ _ _ i _ => cs.length - (intOf i).toNat)
    case atStart => exact ⟨0, Nat.zero_le _, rfl, fun j hj => absurd hj (by omega), HCP.out⟩
    case round =>
      obtain ⟨k, hk, rfl, hg, hcp⟩ := hrel
      have HG := Lib.hid hg
      clear hg HCP c0
      by_cases hlt : k < cs.length
      · obtain ⟨b1, o1, e1, z1, c1, c2⟩ := (hr.below rfl hcp.below).at2 k hlt
        cases e1
        have HC1 := Lib.hid (show cs[k] = corner cs k by simp [corner, hlt])
        rw [HC1.out] at c1 c2
        have hpe := Lib.hid (fun W => positionErr_any (corner cs k) W)
        rw [show unl (inB (corner cs k).1 0 1000 && inB (corner cs k).2 0 1000) 2 = posE (corner cs k) from rfl] at hpe
        have HP := Lib.hid (show corner cs k = corner cs k from rfl)
        obtain ⟨pe, hpe'⟩ : ∃ pe, pe = posE (corner cs k) := ⟨_, rfl⟩
        rw [← hpe'] at hpe
        have HPE := Lib.hid hpe'
        clear hpe' HP HC1
        obtain ⟨xy, hxy⟩ : ∃ xy, xy = corner cs k := ⟨_, rfl⟩
        rw [← hxy] at c1 c2 hpe
        have HXY := Lib.hid hxy
        clear hxy
        obtain ⟨x, y⟩ := xy
        dsimp only at c1 c2 hpe
        have HCP := Lib.hid hcp
        clear hcp hr
        by_cases hz : pe = 0
        · subst hz
          go_wp2_with ((go_at_call 96; (with_reducible refine (hpe.out _).mono ?_); rintro e w1 ⟨rfl, hb1⟩))
          go_roundw
          case rel =>
            refine ⟨k + 1, by omega, by go_num, fun j hj => ?_, (HCP.out.later ((Below.refl _ _).alloc (Nat.le_refl _) _)).later hb1⟩
            rcases Nat.lt_succ_iff_lt_or_eq.1 hj with h | h
            · exact HG.out j h
            · rw [h]; exact HPE.out.symm
          case measure => simp [intOf]; omega
        · have hz' : (pe != 0) = true := by simpa using hz
          have HZ := Lib.hid hz
          clear hz
          have hcp2 := Lib.hid (fun (w1 : World) (h : Below (wr.alloc (.cells #[(.int .i64 (x)), (.int .i64 (y))] 43)).heap.size (wr.alloc (.cells #[(.int .i64 (x)), (.int .i64 (y))] 43)) w1) => (HCP.out.later ((Below.refl _ _).alloc (Nat.le_refl _) (.cells #[(.int .i64 (x)), (.int .i64 (y))] 43))).later h)
          go_wp2_with ((go_at_call 96; (with_reducible refine (hpe.out _).mono ?_); rintro e w1 ⟨rfl, hb1⟩; have hcp3 := hcp2.out w1 hb1; have r1 := hcp3.r1.cell; have r2 := hcp3.r2.cell; have f1 := hcp3.r1.frozen; have f2 := hcp3.r2.frozen; have HCP3 := Lib.hid hcp3; clear hcp3))
          refine ret_marks (v := .tuple #[(.int .i64 ((k : Int))), (.int .i64 (pe))]) (B := w.heap.size) trivial (fun W' hck => ?_)
          have hc' := Stable.cpst (Nat.le_refl _) _ _ (HCP3.out.set k pe) hck
          refine ⟨cp_results hc' rfl rfl, ?_, hc'.below⟩
          rw [polyCheck_pos HEE.out hlt HG.out (by rw [← HPE.out]; exact HZ.out), ← HPE.out]
      · obtain rfl : k = cs.length := by omega
        have hrW := Lib.hid (hr.below rfl hcp.below)
        have HR := Lib.hid hr
        have hbw : b < w.heap.size := by
          obtain ⟨b', off', e', hb, _⟩ := hr.2 (by omega)
          cases e'; exact hb
        have hbl : b < wr.heap.size := by
          obtain ⟨b', off', e', hb, _⟩ := hr.2 (by omega)
          cases e'; exact Nat.lt_of_lt_of_le hb hcp.below.size
        have hc0 := hcp.p.cell
        have zP := hcp.p.lt
        have HCP := Lib.hid hcp
        clear hr hcp hk hlt
        go_wp2_with fail
        refine (sides_any _ _ ⟨_, _, _, rfl⟩).mono ?_
        rintro e w2 ⟨rfl, rfl⟩
        go_wp2_with fail
        have HC2 := Lib.hid (HCP.out.later ((Below.refl _ _).alloc (Nat.le_refl _) (.cells #[.slice (some ⟨b, off, none⟩) cs.length cap] 41)))
        refine (wpIn_wide (n := 9)).1 ?_
        refine wpIn_gen fun a0 ha0 => ?_
        refine range_out (m := 0) (gf := 147) (lb := #[.pointer (some ⟨wr.heap.size, 0, none⟩)]) (by rw [ha0]; rfl) (enters_of Try.func147 (by kernel_rfl) rfl) (encs := sideV cs)
          (sides_stops wr.heap.size b off cap (fun k => k < wr.heap.size + 1) cs (by omega) _ (show wr.heap.size < wr.heap.size + 1 by omega) (show b < wr.heap.size + 1 by omega) (by intro k hk; simp; omega) ?hbox ?hrd) (Below.refl _ _) (by intro k hk; simp; omega) (fun _ => rfl)
          (fun pre W => (∀ y ∈ pre, badS cs y.val = false) ∧ CPst w (.slice (some ⟨b, off, none⟩) cs.length cap) cs.length 0 0 W ∧ wr.heap.size < W.heap.size)
          (fun c pre W => c = .ret ∧ ∃ (pre0 : List (Fin cs.length)) (x : Fin cs.length), pre = pre0 ++ [x] ∧ (∀ y ∈ pre0, badS cs y.val = false) ∧ badS cs x.val = true ∧ CPst w (.slice (some ⟨b, off, none⟩) cs.length cap) cs.length x.val 13 W)
          (fun pre => (Stable.pure _).and ((Stable.cpst (by simp; have := HC2.out.below.size; simp at this; omega)).and Stable.lt))
          (fun c pre => (Stable.pure _).and (Stable.ex fun pre0 => Stable.ex fun x => (Stable.pure _).and ((Stable.pure _).and ((Stable.pure _).and (Stable.cpst (by simp; have := HC2.out.below.size; simp at this; omega)))))) ?h0
          (fun x (bx : Nat × Nat) W => wr.heap.size < bx.1 ∧ wr.heap.size < bx.2 ∧ OneC W bx.1 3 (.int .i64 ((x.val : Int))) ∧ Box4 W bx.2 (corner cs x.val) (nextC cs x.val))
          (fun x bx => [(44, (.int .i64 ((x.val : Int)))), (45, (.agg #[.int .i64 ((corner cs x.val).1), .int .i64 ((corner cs x.val).2), .int .i64 ((nextC cs x.val).1), .int .i64 ((nextC cs x.val).2)])), (9, .pointer (some ⟨bx.1, 0, none⟩)), (10, .pointer (some ⟨bx.2, 0, none⟩))])
          (fun x bx => (Stable.pure _).and ((Stable.pure _).and (Stable.one.and Stable.box4))) ?assign ?body ?done ?stop
        case hbox => simp
        case hrd => exact hrW.out.below rfl ((Below.refl _ _).alloc (Nat.le_refl _) _)
        case h0 => exact ⟨by simp, HC2.out, by simp⟩
        case assign =>
          intro l pre x W K hi hsz hK
          obtain ⟨hi1, hi2, hi3⟩ := hi
          have HI2 := Lib.hid hi2
          clear hi2
          subst ha0
          unfold sideV
          gi_wp2
          simp only [World.size_alloc] at hsz
          refine hK (W.heap.size, W.heap.size + 1) _ ((Kept.alloc W (by intro k hk; omega) _).trans (Kept.alloc _ (by intro k hk; simp; omega) _)) ⟨hi1, (HI2.out.later ((Below.refl _ _).alloc (Nat.le_refl _) _)).later ((Below.refl _ _).alloc (Nat.le_refl _) _), by simp; omega⟩ ⟨hi3, by dsimp only; omega, (OneC.new W _ _).alloc _, ?_⟩
          have := Box4.new (W.alloc (.cells #[(.int .i64 ((x.val : Int)))] 3)) (corner cs x.val) (nextC cs x.val) 150
          rw [World.size_alloc] at this
          exact this
        case body =>
          intro l pre x bx W hl hrec hi hsz hra hN
          obtain ⟨b1, b2⟩ := bx
          obtain ⟨hi1, hi2, hi3⟩ := hi
          obtain ⟨z1, z2, ho, hb4⟩ := hra
          dsimp only at z1 z2 ho hb4
          simp only [World.size_alloc] at hsz hl
          subst ha0
          simp only [setAll, List.foldl_cons, List.foldl_nil, List.setIfInBounds_toArray, List.set_cons_zero, List.set_cons_succ]
          have HI1 := Lib.hid hi1
          have HCP3 := Lib.hid hi2
          have hcx := ho.cell
          have hP := hi2.p.cell
          have r1 := hi2.r1.cell
          have r2 := hi2.r2.cell
          have f1 := hi2.r1.frozen
          have f2 := hi2.r2.frozen
          obtain ⟨q0, q1, q2, q3⟩ := hb4
          clear hi1 hi2
          obtain ⟨s, hs⟩ : ∃ s, s = corner cs x.val := ⟨_, rfl⟩
          obtain ⟨t, ht⟩ : ∃ t, t = nextC cs x.val := ⟨_, rfl⟩
          rw [← hs] at q0 q1
          rw [← ht] at q2 q3
          rw [← hs, ← ht]
          have HS := Lib.hid hs
          have HT := Lib.hid ht
          clear hs ht
          obtain ⟨xa, xb⟩ := s
          obtain ⟨xc, xd⟩ := t
          dsimp only at q0 q1 q2 q3 ⊢
          by_cases heq : xa = xc ∧ xb = xd
          · obtain ⟨rfl, rfl⟩ := heq
            gi_wp2_with fail
            refine ⟨((KeepsOthers.setCell W ⟨w.heap.size + 1, 0, none⟩ _).trans (KeepsOthers.setCell _ ⟨w.heap.size + 1 + 1, 0, none⟩ _)).from _, rfl, pre, x, rfl, HI1.out, ?_, HCP3.out.set x.val 13⟩
            rw [badS_eq, ← HS.out, ← HT.out]; simp
          · gi_wp2_with fail
            all_goals
              refine ⟨trivial, ?_⟩
              refine (calls_in _ _ (sides_any _ _ ⟨_, _, _, rfl⟩)).mono ?_
              rintro e w2 ⟨rfl, rfl⟩
              gi_wp2_with fail
              obtain ⟨WA, hWA⟩ : ∃ WA, WA = W.alloc (.cells #[.slice (some ⟨b, off, none⟩) cs.length cap] 41) := ⟨_, rfl⟩
              rw [← hWA]
              have hBA : Below W.heap.size W WA := by rw [hWA]; exact (Below.refl _ _).alloc (Nat.le_refl _) _
              have hzA : WA.heap.size = W.heap.size + 1 := by rw [hWA]; simp
              have hKA : Kept (fun k => k < wr.heap.size + 1) (wr.heap.size + 1) W WA := Kept.of_below hBA (by intro k hk; omega)
              have hCA := Lib.hid (HCP3.out.later hBA)
              have hzw := HCP3.out.below.size
              have hne : corner cs x.val ≠ nextC cs x.val := by rw [← HS.out, ← HT.out]; intro e; exact heq (by simpa using e)
              have HNE := Lib.hid hne
              have hoA := ho.below hBA
              have hpA : WA.cell? ⟨W.heap.size, 0, none⟩ = some (.slice (some ⟨b, off, none⟩) cs.length cap) := by rw [hWA]; simp
              have hrA := HR.out.below rfl hCA.out.below
              have HBox : Hid (Box4 WA b2 (corner cs x.val) (nextC cs x.val)) := Lib.hid ((show Box4 W b2 (corner cs x.val) (nextC cs x.val) by rw [← HS.out, ← HT.out]; exact ⟨q0, q1, q2, q3⟩).later hBA)
              have hrecA : ∃ r, WA.heap[l]? = some (.loop r) := by obtain ⟨r, hr⟩ := hrec; exact ⟨r, (hBA.block l (Array.getElem?_eq_some_iff.1 hr).1).trans hr⟩
              clear hne hWA hcx hP r1 r2 f1 f2 q0 q1 q2 q3 hrec
              refine wpIn_gen fun a1 ha1 => ?_
              refine range_in (m := 4) (l₀ := l) hrecA (gf := 147) (lb := #[.pointer (some ⟨W.heap.size, 0, none⟩)]) (by rw [ha1]; rfl) (enters_of Try.func147 (by kernel_rfl) rfl) (encs := sideV cs)
                (sides_stops W.heap.size b off cap (fun k => k < W.heap.size + 1) cs (by omega) WA (show W.heap.size < W.heap.size + 1 by omega) (show b < W.heap.size + 1 by omega) (by intro k hk; omega) hpA hrA) (Below.refl _ _) (by intro k hk; omega) (fun _ => rfl)
                (fun pre2 W2 => (∀ y ∈ pre2, clashB cs x.val y.val = false) ∧ CPst w (.slice (some ⟨b, off, none⟩) cs.length cap) cs.length 0 0 W2 ∧ OneC W2 b1 3 (.int .i64 ((x.val : Int))) ∧ Box4 W2 b2 (corner cs x.val) (nextC cs x.val) ∧ Kept (fun k => k < wr.heap.size + 1) (wr.heap.size + 1) W W2)
                (fun c pre2 W2 => c = .ret ∧ ∃ (pre0 : List (Fin cs.length)) (y : Fin cs.length), pre2 = pre0 ++ [y] ∧ clashB cs x.val y.val = true ∧ CPst w (.slice (some ⟨b, off, none⟩) cs.length cap) cs.length x.val 13 W2 ∧ KeepsFrom (wr.heap.size + 1) W W2)
                (fun pre2 => (Stable.pure _).and ((Stable.cpst (by omega)).and (Stable.one.and (Stable.box4.and (Stable.kept (by omega) (by intro k hk; omega))))))
                (fun c pre2 => (Stable.pure _).and (Stable.ex fun pre0 => Stable.ex fun y => (Stable.pure _).and ((Stable.pure _).and ((Stable.cpst (by omega)).and (Stable.keepsFrom (by omega)))))) ⟨by simp, hCA.out, hoA, HBox.out, hKA⟩
                (fun y (bx : Nat) W2 => Box4 W2 bx (corner cs y.val) (nextC cs y.val))
                (fun y bx => [(54, (.int .i64 ((y.val : Int)))), (55, (.agg #[.int .i64 ((corner cs y.val).1), .int .i64 ((corner cs y.val).2), .int .i64 ((nextC cs y.val).1), .int .i64 ((nextC cs y.val).2)])), (11, (.int .i64 ((y.val : Int)))), (12, .pointer (some ⟨bx, 0, none⟩))])
                (fun y bx => Stable.box4) ?assign2 ?body2 ?done2 ?stop2
              case assign2 =>
                intro l2 pre2 y W2 K hi hsz2 hK
                obtain ⟨i1, i2, i3, i4, i5⟩ := hi
                have HI2 := Lib.hid i2
                have HI5 := Lib.hid i5
                clear i2 i5
                subst ha1
                unfold sideV
                gi_wp2
                refine hK W2.heap.size _ (Kept.alloc W2 (by intro k hk; omega) _) ⟨i1, HI2.out.later ((Below.refl _ _).alloc (Nat.le_refl _) _), i3.alloc _, i4.alloc _, HI5.out.trans (Kept.alloc W2 (by intro k hk; omega) _)⟩ ?_
                exact Box4.new W2 (corner cs y.val) (nextC cs y.val) 150
              case body2 =>
                intro l2 pre2 y bx W2 hl2 hrec2 hi hsz2 hra2 hN2
                obtain ⟨i1, i2, i3, i4, i5⟩ := hi
                subst ha1
                simp only [setAll, List.foldl_cons, List.foldl_nil, List.setIfInBounds_toArray, List.set_cons_zero, List.set_cons_succ]
                have HI1' := Lib.hid i1
                have HCP4 := Lib.hid i2
                have HB4 := Lib.hid i4
                have HK5 := Lib.hid i5
                have hcx := i3.cell
                have hcn := i2.n.cell
                have r1 := i2.r1.cell
                have r2 := i2.r2.cell
                have f1 := i2.r1.frozen
                have f2 := i2.r2.frozen
                obtain ⟨q0, q1, q2, q3⟩ := i4
                obtain ⟨p0, p1, p2, p3⟩ := hra2
                have HO := Lib.hid i3
                clear i1 i2 i3 i5
                by_cases hxy : x.val < y.val
                · have hx1 := x.isLt
                  have hy1 := y.isLt
                  have hcl := Lib.hid (fun Z => clash_any x.val y.val cs.length (corner cs x.val) (nextC cs x.val) (corner cs y.val) (nextC cs y.val) Z (by omega) (by omega) (by omega) (corner_inP (inP_all HG.out) _) (nextC_inP (inP_all HG.out) _) (corner_inP (inP_all HG.out) _) (nextC_inP (inP_all HG.out) _))
                  have HCB := Lib.hid (show clashB cs x.val y.val = clashS x.val (corner cs x.val) (nextC cs x.val) y.val (corner cs y.val) (nextC cs y.val) cs.length by unfold clashB; simp [hxy])
                  obtain ⟨cl, hcl2⟩ : ∃ cl, cl = clashS x.val (corner cs x.val) (nextC cs x.val) y.val (corner cs y.val) (nextC cs y.val) cs.length := ⟨_, rfl⟩
                  rw [← hcl2] at hcl HCB
                  clear hcl2
                  gi_wp2_with fail
                  refine ⟨trivial, ?_⟩
                  refine (calls_in _ _ (hcl.out _)).mono ?_
                  rintro e w3 ⟨rfl, hb3⟩
                  have hcp3 := HCP4.out.later hb3
                  have r1' := hcp3.r1.cell
                  have r2' := hcp3.r2.cell
                  have f1' := hcp3.r1.frozen
                  have f2' := hcp3.r2.frozen
                  have hcx' := (HO.out.below hb3).cell
                  have HCP5 := Lib.hid hcp3
                  have HK6 := Lib.hid (HK5.out.trans (Kept.of_below hb3 (by intro k hk; omega)))
                  clear hcp3
                  cases cl
                  · gi_wp2_with fail
                    refine ⟨Kept.of_below hb3 (by intro k hk; omega), ?_, HCP5.out, HO.out.below hb3, HB4.out.later hb3, HK6.out⟩
                    intro z hz
                    rcases List.mem_append.1 hz with h | h
                    · exact HI1'.out z h
                    · rw [List.mem_singleton.1 h]; exact HCB.out
                  · gi_wp2_with fail
                    refine ⟨?_, rfl, pre2, y, rfl, HCB.out, HCP5.out.set x.val 13, ?_⟩
                    · exact (Kept.of_below (S := fun _ => False) hb3 (fun _ h => h.elim)).keeps.trans (((KeepsOthers.setCell w3 ⟨w.heap.size + 1, 0, none⟩ _).trans (KeepsOthers.setCell _ ⟨w.heap.size + 1 + 1, 0, none⟩ _)).from _)
                    · exact HK6.out.keeps.trans (((KeepsOthers.setCell w3 ⟨w.heap.size + 1, 0, none⟩ _).trans (KeepsOthers.setCell _ ⟨w.heap.size + 1 + 1, 0, none⟩ _)).from _)
                · have HCB := Lib.hid (show clashB cs x.val y.val = false by unfold clashB; simp [hxy])
                  gi_wp2_with fail
                  refine ⟨trivial, ?_⟩
                  gi_wp2_with fail
                  refine ⟨Kept.refl _ _ _, ?_, HCP4.out, HO.out, HB4.out, HK5.out⟩
                  intro z hz
                  rcases List.mem_append.1 hz with h | h
                  · exact HI1'.out z h
                  · rw [List.mem_singleton.1 h]; exact HCB.out
              case done2 =>
                intro xs W2 hS hi hsz2
                obtain ⟨i1, i2, i3, i4, i5⟩ := hi
                have HI1' := Lib.hid i1
                have HCP4 := Lib.hid i2
                have HK5 := Lib.hid i5
                clear i1 i2 i4 i5
                subst ha1
                gi_wp2_with fail
                refine ⟨by simpa only [World.size_alloc] using HK5.out, ?_, HCP4.out, by have := HK5.out.same.size; omega⟩
                intro z hz
                rcases List.mem_append.1 hz with h | h
                · exact HI1.out z h
                · rw [List.mem_singleton.1 h]
                  refine badS_not HNE.out fun k hk => ?_
                  have : xs = allFin cs.length := hS
                  subst this
                  exact HI1'.out ⟨k, hk⟩ (by simp [allFin])
              case stop2 =>
                intro c pre2 W2 hS hi
                obtain ⟨rfl, pre0, y, hp, hcl, hcp4, hk⟩ := hi
                have HCP4 := Lib.hid hcp4
                clear hcp4
                subst ha1
                gi_wp2_with fail
                exact ⟨by simpa only [World.size_alloc] using hk, rfl, pre, x, rfl, HI1.out, badS_clash y.isLt hcl, HCP4.out⟩
        case done =>
          intro D xs W hD hS hi hk
          obtain ⟨hi1, hi2, hi3⟩ := hi
          have HCP3 := Lib.hid hi2
          have r1 := hi2.r1.cell
          have r2 := hi2.r2.cell
          have f1 := hi2.r1.frozen
          have f2 := hi2.r2.frozen
          have HI1 := Lib.hid hi1
          clear hi1 hi2
          subst ha0
          go_wp2_with fail
          simp only [World.size_alloc] at hD
          refine ret_marks (v := .tuple #[(.int .i64 (0)), (.int .i64 (0))]) (B := w.heap.size) ⟨⟨D, rfl, by have := HCP.out.below.size; omega, ?hm, by simp⟩, trivial⟩ (fun W' hck => ?_)
          case hm =>
            have := HCP.out.below.size
            have := zP
            exact (Below.heap_setCell _ _ _ D (by dsimp only; have := HCP.out.n.lt; omega)).trans ((Below.heap_setCell _ _ _ D (by dsimp only; have := HCP.out.n.lt; omega)).trans hk)
          have hc' := Stable.cpst (Nat.le_refl _) _ _ (HCP3.out.set 0 0) hck
          refine ⟨cp_results hc' rfl rfl, ?_, hc'.below⟩
          have : xs = allFin cs.length := hS
          subst this
          rw [polyCheck_ok HEE.out HG.out fun j hj => HI1.out ⟨j, hj⟩ (by simp [allFin])]
        case stop =>
          intro D c pre W hD hS hi hk
          obtain ⟨rfl, pre0, x, hp, hg, hb, hcp⟩ := hi
          have HCP3 := Lib.hid hcp
          have HG2 := Lib.hid hg
          clear hcp hg
          subst ha0
          refine wpIn_wide.2 ?_
          go_wp2_with fail
          simp only [World.size_alloc] at hD
          refine ret_marks (v := .tuple #[(.int .i64 ((x.val : Int))), (.int .i64 (13))]) (B := w.heap.size) ⟨⟨D, rfl, by have := HCP.out.below.size; omega, hk, by simp⟩, trivial⟩ (fun W' hck => ?_)
          have hc' := Stable.cpst (Nat.le_refl _) _ _ HCP3.out hck
          refine ⟨cp_results hc' rfl rfl, ?_, hc'.below⟩
          have hS' : pre <+: allFin cs.length := hS
          rw [polyCheck_side HEE.out HG.out x.isLt (fun j hj => HG2.out ⟨j, Nat.lt_trans hj x.isLt⟩ ?_) hb]
          rw [hp] at hS'
          exact pre_small hS' j hj

end Go.Proofs.Ytgjpdjihjphbdaa
