/- The law TopLevelFeature: for every net and two anomalies it returns true; the arguments read as before; where the listed tables lie as the program's text lays them. -/
import Derived.Test.YtfchdbghjeophaaDoorCards
import Derived.Test.YtfchdbghjeophaaDoorTie
import Derived.LaidMore
import Derived.LaidOnce
import Derived.SevenTiedAt
import Derived.Stop.Joined
import Derived.Test.YtfchdbghjeophaaDoorFeatureProofsPe
namespace Go.Proofs.YtfchdbghjeophaaDoor
open Go.ChangeShapes Go.WideShapes Go.ChangeAt Go.RowKit
def featShs : List Sh := [netSh, .slice (.int .i64), .slice (.int .i64)]
theorem feat_runs (ms : List MV) (h : FitsL featShs ms) : runZ MT (orC LZ 13) (itA 14) 4000000 3 ms [] = some (.lit (.bool true), []) := by
 obtain ⟨m1, r1, rfl, h1, h⟩ := fitsL_cons h
 obtain ⟨m2, r2, rfl, h2, h⟩ := fitsL_cons h
 obtain ⟨m3, r3, rfl, h3, h⟩ := fitsL_cons h
 obtain rfl := fitsL_nil h
 obtain ⟨n, rfl, q1, q2⟩ := fits_net h1
 obtain ⟨a, rfl, q3, -⟩ := fits_ints h2
 obtain ⟨b, rfl, q4, -⟩ := fits_ints h3
 exact Feature_z n a b q1 q2 (Nat.le_trans q3 maxLen_le) (Nat.le_trans q4 maxLen_le)
set_option maxRecDepth 100000 in
theorem feat_lifted (os : Os) (started : os.Started) (H : Type) (enc : TypeId × Value → H) :
  ReturnsInHanded {} Tryd.checked os 3 .any (fun w args => (Rows.topLevelFeatureSpec.pre enc Tryd.prog Tryd.f3 [] false w args ∧ laidMetH Tryd.prog Rows.topLevelFeatureRow.laid w) ∧ sizedMet enc Tryd.prog Tryd.f3 (OpenSpec.ofChange Rows.topLevelFeatureSpec) false w args)
   (Rows.topLevelFeatureSpec.post enc Tryd.prog Tryd.f3 false true false false) := by
 refine returnsInHanded_of_change_and (C := Tryd.checked) (X := fun w _ => laidMetH Tryd.prog Rows.topLevelFeatureRow.laid w) (fun _ _ _ hh h => h.of_heap hh) Tryd.own started (by kernel_rfl) Tryd.func3
  (ChangeSpec.witness_shaped (enc := enc) (C := Tryd.checked) (os := os) (X := fun w _ => laidMetH Tryd.prog Rows.topLevelFeatureRow.laid w) false (World.doorLaid Tryd.prog 200 os) #[.agg #[.slice none 0 0, .slice none 0 0], .slice none 0 0, .slice none 0 0] 8 rfl (World.shaped_of_RefB (by kernel_rfl) (by kernel_rfl)) (by kernel_rfl) (by kernel_rfl) (by kernel_rfl)
   (laidMetH_of_parts3 (fuel := 8) (laidMet_of_run' 8 (by kernel_rfl) (by kernel_rfl)) (by kernel_rfl) (by kernel_rfl))) ?_
 intro W base args ds gs before hval hW _ _ hL _
 exact law_contractT (orC_ok LZ 13) featShs (by kernel_rfl) (by kernel_rfl) rfl rfl (fun ds h => by match ds, h with | [_, _, _], _ => exact ⟨rfl, rfl, rfl⟩) feat_runs W base args ds gs before hval hW
  (tabs_laid hL (List.mem_cons_of_mem _ (List.mem_cons_self ..)))
theorem topLevelFeature_row : Rows.topLevelFeatureRow.holds Tryd.pinned (OpenSpec.ofChange Rows.topLevelFeatureSpec) :=
 OpenClaim.holds_of_wide 3 Tryd.f3 rfl rfl rfl rfl rfl rfl rfl ⟨rfl, rfl, rfl, rfl, rfl⟩ rfl rfl rfl rfl rfl (by kernel_rfl) Tryd.func3 (by kernel_rfl)
  (of_decide_eq_true (by kernel_rfl)) (by unfold Func.isWrapper; rw [if_neg (of_decide_eq_false (by kernel_rfl))]; exact ⟨rfl, rfl⟩)
  (fun os started H enc _ => feat_lifted os started H enc)
theorem topLevelFeature_card : Rows.TopLevelFeatureCardSaid :=
 Claim7.holds_tied_plain_at .later [] [.data, .data] true Rows.topLevelFeatureCard.stood.harness Rows.topLevelFeatureCard.stood.looks
  topLevelFeature_row (fun _ h => by cases h) (by kernel_rfl) (fun _ h => by cases h) topLevelFeature_row_tie rfl ⟨rfl, rfl⟩ (by kernel_rfl) rfl
  (fun f fn hf hfn => by
   obtain rfl : f = 3 := Option.some.inj ((show Tryd.prog.funcNamed Rows.topLevelFeatureRow.func = some 3 by kernel_rfl).symm.trans hf) |>.symm
   obtain rfl : fn = Tryd.f3 := (Option.some.inj (Tryd.func3.symm.trans hfn)).symm
   refine ⟨by kernel_rfl, fun j t ht => ?_⟩
   have hm : t ∈ Tryd.f3.params.toList := by simpa using Array.mem_of_getElem? ht
   have hall : (Tryd.f3.params.toList.all fun u => !Tryd.prog.wantsStandIn u) = true := by kernel_rfl
   exact (show Tryd.prog.wantsStandIn t = false by simpa using List.all_eq_true.1 hall t hm))
  (by kernel_rfl)
#print axioms topLevelFeature_card
end Go.Proofs.YtfchdbghjeophaaDoor
