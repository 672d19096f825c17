/- The law LevelClosed: for every net, corrections and walk it returns true; the arguments read as before; where the listed tables lie as the program's text lays them. -/
import Derived.Test.YtfchdbghjeophaaGreatDoorCards
import Derived.Test.YtfchdbghjeophaaGreatDoorTie
import Derived.LaidMore
import Derived.LaidOnce
import Derived.SevenTiedAt
import Derived.Stop.Joined
import Derived.Test.YtfchdbghjeophaaGreatDoorClosedProofsPf
namespace Go.Proofs.YtfchdbghjeophaaGreatDoor
open Go.ChangeShapes Go.WideShapes Go.ChangeAt Go.RowKit
def closedShs : List Sh := [netSh, .slice (.int .i64), .slice (.int .i64)]
theorem closed_runs (ms : List MV) (h : FitsL closedShs ms) : runZ MT (orP LP 13) (itA 14) 4000000 3 ms [] = some (.lit (.bool true), []) := by
 obtain ⟨m1, r1, rfl, h1, h⟩ := fitsL_cons h
 obtain ⟨m2, r2, rfl, h2, h⟩ := fitsL_cons h
 obtain ⟨m3, r3, rfl, h3, h⟩ := fitsL_cons h
 obtain rfl := fitsL_nil h
 obtain ⟨n, rfl, q1, q2⟩ := fits_net h1
 obtain ⟨a, rfl, q3, -⟩ := fits_ints h2
 obtain ⟨b, rfl, q4, -⟩ := fits_ints h3
 exact LevelClosed_z n a b q1 q2 (Nat.le_trans q3 maxLen_le) (Nat.le_trans q4 maxLen_le)
set_option maxRecDepth 100000 in
theorem closed_lifted (os : Os) (started : os.Started) (H : Type) (enc : TypeId × Value → H) :
  ReturnsInHanded {} Tryz.checked os 3 .any (fun w args => (Rows.levelClosedSpec.pre enc Tryz.prog Tryz.f3 [] false w args ∧ laidMetH Tryz.prog Rows.levelClosedRow.laid w) ∧ sizedMet enc Tryz.prog Tryz.f3 (OpenSpec.ofChange Rows.levelClosedSpec) false w args)
   (Rows.levelClosedSpec.post enc Tryz.prog Tryz.f3 false true false false) := by
 refine returnsInHanded_of_change_and (C := Tryz.checked) (X := fun w _ => laidMetH Tryz.prog Rows.levelClosedRow.laid w) (fun _ _ _ hh h => h.of_heap hh) Tryz.own started (by kernel_rfl) Tryz.func3
  (ChangeSpec.witness_shaped (enc := enc) (C := Tryz.checked) (os := os) (X := fun w _ => laidMetH Tryz.prog Rows.levelClosedRow.laid w) false (World.doorLaid Tryz.prog 200 os) #[.agg #[.slice none 0 0, .slice none 0 0], .slice none 0 0, .slice none 0 0] 8 rfl (World.shaped_of_RefB (by kernel_rfl) (by kernel_rfl)) (by kernel_rfl) (by kernel_rfl) (by kernel_rfl)
   (laidMetH_of_parts3 (fuel := 8) (laidMet_of_run' 8 (by kernel_rfl) (by kernel_rfl)) (by kernel_rfl) (by kernel_rfl))) ?_
 intro W base args ds gs before hval hW _ _ hL _
 exact law_contractT (orP_ok LP 13) closedShs (by kernel_rfl) (by kernel_rfl) rfl rfl (fun ds h => by match ds, h with | [_, _, _], _ => exact ⟨rfl, rfl, rfl⟩) closed_runs W base args ds gs before hval hW
  (tabs_laid hL (List.mem_cons_of_mem _ (List.mem_cons_self ..)))
theorem levelClosed_row : Rows.levelClosedRow.holds Tryz.pinned (OpenSpec.ofChange Rows.levelClosedSpec) :=
 OpenClaim.holds_of_wide 3 Tryz.f3 rfl rfl rfl rfl rfl rfl rfl ⟨rfl, rfl, rfl, rfl, rfl⟩ rfl rfl rfl rfl rfl (by kernel_rfl) Tryz.func3 (by kernel_rfl)
  (of_decide_eq_true (by kernel_rfl)) (by unfold Func.isWrapper; rw [if_neg (of_decide_eq_false (by kernel_rfl))]; exact ⟨rfl, rfl⟩)
  (fun os started H enc _ => closed_lifted os started H enc)
theorem levelClosed_card : Rows.LevelClosedCardSaid :=
 Claim7.holds_tied_plain_at .later [] [.data, .data] true Rows.levelClosedCard.stood.harness Rows.levelClosedCard.stood.looks
  levelClosed_row (fun _ h => by cases h) (by kernel_rfl) (fun _ h => by cases h) levelClosed_row_tie rfl ⟨rfl, rfl⟩ (by kernel_rfl) rfl
  (fun f fn hf hfn => by
   obtain rfl : f = 3 := Option.some.inj ((show Tryz.prog.funcNamed Rows.levelClosedRow.func = some 3 by kernel_rfl).symm.trans hf) |>.symm
   obtain rfl : fn = Tryz.f3 := (Option.some.inj (Tryz.func3.symm.trans hfn)).symm
   refine ⟨by kernel_rfl, fun j t ht => ?_⟩
   have hm : t ∈ Tryz.f3.params.toList := by simpa using Array.mem_of_getElem? ht
   have hall : (Tryz.f3.params.toList.all fun u => !Tryz.prog.wantsStandIn u) = true := by kernel_rfl
   exact (show Tryz.prog.wantsStandIn t = false by simpa using List.all_eq_true.1 hall t hm))
  (by kernel_rfl)
#print axioms levelClosed_card
end Go.Proofs.YtfchdbghjeophaaGreatDoor
