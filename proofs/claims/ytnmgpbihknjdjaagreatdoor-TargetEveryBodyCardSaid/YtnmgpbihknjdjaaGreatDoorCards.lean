/-
  DERIVED. GIVEN WITH THE SEED: THE CARDS: each row of YtnmgpbihknjdjaaGreatDoorRows.lean that lists a variable, with what it lists TIED to the program's text (the seventh form; the later family's looks); each row that meets fmt, with fmt's text TOLD by the authors' own Lean function (tested against real Go, not proved from fmt's source: count such statements apart). THE CARD IS WHAT COUNTS. Prove the row's statement (the work); the ties are given (YtnmgpbihknjdjaaGreatDoorTie.lean); close each card by the builder's one call (the guide's Derived/Test/ToyasCard.lean, 'card_holds'). Laid BY PROGRAM, IN A SANDBOX (cutbox-door.mjs). By AI agents, Wed Nov 11 2026. No macro, syntax, notation, axiom, sorry.
-/
import Derived.Test.YtnmgpbihknjdjaaGreatDoorRows
import GoSem.ClaimSeven
namespace Go.Proofs.YtnmgpbihknjdjaaGreatDoor
namespace Rows

/-- THE TIED CARD OF 'cloverleaflaw09.TargetSets'. -/
def targetSetsCard : Claim7 := { stood := { row := targetSetsRow, standIns := [], harness := (true, "e12705f7bd0e7ba157e59de9380293f3d8977ddedefc76a9f84b3f8080e4736b"), looks := false }, kinds := [], alts := [], laidByText := true, laidKinds := [.data, .data], laidTests := true, laidLooks := .later }
def TargetSetsCardSaid : Prop := Claim7.holds Tryz.pinned (.plain (OpenSpec.ofChange targetSetsSpec)) targetSetsCard

/-- THE TIED CARD OF 'cloverleaflaw09.TargetCuts'. -/
def targetCutsCard : Claim7 := { stood := { row := targetCutsRow, standIns := [], harness := (true, "e12705f7bd0e7ba157e59de9380293f3d8977ddedefc76a9f84b3f8080e4736b"), looks := false }, kinds := [], alts := [], laidByText := true, laidKinds := [.data, .data], laidTests := true, laidLooks := .later }
def TargetCutsCardSaid : Prop := Claim7.holds Tryz.pinned (.plain (OpenSpec.ofChange targetCutsSpec)) targetCutsCard

/-- THE TIED CARD OF 'cloverleaflaw09.TargetPrices'. -/
def targetPricesCard : Claim7 := { stood := { row := targetPricesRow, standIns := [], harness := (true, "e12705f7bd0e7ba157e59de9380293f3d8977ddedefc76a9f84b3f8080e4736b"), looks := false }, kinds := [], alts := [], laidByText := true, laidKinds := [.data, .data], laidTests := true, laidLooks := .later }
def TargetPricesCardSaid : Prop := Claim7.holds Tryz.pinned (.plain (OpenSpec.ofChange targetPricesSpec)) targetPricesCard

/-- THE TIED CARD OF 'cloverleaflaw09.TargetBounded'. -/
def targetBoundedCard : Claim7 := { stood := { row := targetBoundedRow, standIns := [], harness := (true, "e12705f7bd0e7ba157e59de9380293f3d8977ddedefc76a9f84b3f8080e4736b"), looks := false }, kinds := [], alts := [], laidByText := true, laidKinds := [.data, .data], laidTests := true, laidLooks := .later }
def TargetBoundedCardSaid : Prop := Claim7.holds Tryz.pinned (.plain (OpenSpec.ofChange targetBoundedSpec)) targetBoundedCard

/-- THE TIED CARD OF 'cloverleaflaw09.TargetDates'. -/
def targetDatesCard : Claim7 := { stood := { row := targetDatesRow, standIns := [], harness := (true, "e12705f7bd0e7ba157e59de9380293f3d8977ddedefc76a9f84b3f8080e4736b"), looks := false }, kinds := [], alts := [], laidByText := true, laidKinds := [.data, .data], laidTests := true, laidLooks := .later }
def TargetDatesCardSaid : Prop := Claim7.holds Tryz.pinned (.plain (OpenSpec.ofChange targetDatesSpec)) targetDatesCard

/-- THE TIED CARD OF 'cloverleaflaw09.TargetBodies'. -/
def targetBodiesCard : Claim7 := { stood := { row := targetBodiesRow, standIns := [], harness := (true, "e12705f7bd0e7ba157e59de9380293f3d8977ddedefc76a9f84b3f8080e4736b"), looks := false }, kinds := [], alts := [], laidByText := true, laidKinds := [.data, .data], laidTests := true, laidLooks := .later }
def TargetBodiesCardSaid : Prop := Claim7.holds Tryz.pinned (.plain (OpenSpec.ofChange targetBodiesSpec)) targetBodiesCard

/-- THE TIED CARD OF 'cloverleaflaw09.TargetEverySlope'. -/
def targetEverySlopeCard : Claim7 := { stood := { row := targetEverySlopeRow, standIns := [], harness := (true, "e12705f7bd0e7ba157e59de9380293f3d8977ddedefc76a9f84b3f8080e4736b"), looks := false }, kinds := [], alts := [], laidByText := true, laidKinds := [.data, .data], laidTests := true, laidLooks := .later }
def TargetEverySlopeCardSaid : Prop := Claim7.holds Tryz.pinned (.plain (OpenSpec.ofChange targetEverySlopeSpec)) targetEverySlopeCard

/-- THE TIED CARD OF 'cloverleaflaw09.TargetHoles'. -/
def targetHolesCard : Claim7 := { stood := { row := targetHolesRow, standIns := [], harness := (true, "e12705f7bd0e7ba157e59de9380293f3d8977ddedefc76a9f84b3f8080e4736b"), looks := false }, kinds := [], alts := [], laidByText := true, laidKinds := [.data, .data], laidTests := true, laidLooks := .later }
def TargetHolesCardSaid : Prop := Claim7.holds Tryz.pinned (.plain (OpenSpec.ofChange targetHolesSpec)) targetHolesCard

/-- THE TIED CARD OF 'cloverleaflaw09.TargetCalls'. -/
def targetCallsCard : Claim7 := { stood := { row := targetCallsRow, standIns := [], harness := (true, "e12705f7bd0e7ba157e59de9380293f3d8977ddedefc76a9f84b3f8080e4736b"), looks := false }, kinds := [], alts := [], laidByText := true, laidKinds := [.data, .data], laidTests := true, laidLooks := .later }
def TargetCallsCardSaid : Prop := Claim7.holds Tryz.pinned (.plain (OpenSpec.ofChange targetCallsSpec)) targetCallsCard

/-- THE TIED CARD OF 'cloverleaflaw09.TargetHonest'. -/
def targetHonestCard : Claim7 := { stood := { row := targetHonestRow, standIns := [], harness := (true, "e12705f7bd0e7ba157e59de9380293f3d8977ddedefc76a9f84b3f8080e4736b"), looks := false }, kinds := [], alts := [], laidByText := true, laidKinds := [.data, .data], laidTests := true, laidLooks := .later }
def TargetHonestCardSaid : Prop := Claim7.holds Tryz.pinned (.plain (OpenSpec.ofChange targetHonestSpec)) targetHonestCard

/-- THE TIED CARD OF 'cloverleaflaw09.TargetKnown'. -/
def targetKnownCard : Claim7 := { stood := { row := targetKnownRow, standIns := [], harness := (true, "e12705f7bd0e7ba157e59de9380293f3d8977ddedefc76a9f84b3f8080e4736b"), looks := false }, kinds := [], alts := [], laidByText := true, laidKinds := [.data, .data], laidTests := true, laidLooks := .later }
def TargetKnownCardSaid : Prop := Claim7.holds Tryz.pinned (.plain (OpenSpec.ofChange targetKnownSpec)) targetKnownCard

/-- THE TIED CARD OF 'cloverleaflaw09.TargetEveryBody'. -/
def targetEveryBodyCard : Claim7 := { stood := { row := targetEveryBodyRow, standIns := [], harness := (true, "e12705f7bd0e7ba157e59de9380293f3d8977ddedefc76a9f84b3f8080e4736b"), looks := false }, kinds := [], alts := [], laidByText := true, laidKinds := [.data, .data], laidTests := true, laidLooks := .later }
def TargetEveryBodyCardSaid : Prop := Claim7.holds Tryz.pinned (.plain (OpenSpec.ofChange targetEveryBodySpec)) targetEveryBodyCard

/-- THE SECOND FORM's CARD OF 'cloverleaflaw09.TargetSets'. -/
def targetSetsUptoCard : Claim7 := { stood := { row := targetSetsUptoRow, standIns := [], harness := (true, "e12705f7bd0e7ba157e59de9380293f3d8977ddedefc76a9f84b3f8080e4736b"), looks := false }, kinds := [], alts := [], laidByText := true, laidKinds := [.data, .data], laidTests := true, laidLooks := .later }
def TargetSetsUptoCardSaid : Prop := Claim7.holds Tryz.pinned (.plain (OpenSpec.upto targetSetsSpec)) targetSetsUptoCard

/-- THE SECOND FORM's CARD OF 'cloverleaflaw09.TargetCuts'. -/
def targetCutsUptoCard : Claim7 := { stood := { row := targetCutsUptoRow, standIns := [], harness := (true, "e12705f7bd0e7ba157e59de9380293f3d8977ddedefc76a9f84b3f8080e4736b"), looks := false }, kinds := [], alts := [], laidByText := true, laidKinds := [.data, .data], laidTests := true, laidLooks := .later }
def TargetCutsUptoCardSaid : Prop := Claim7.holds Tryz.pinned (.plain (OpenSpec.upto targetCutsSpec)) targetCutsUptoCard

/-- THE SECOND FORM's CARD OF 'cloverleaflaw09.TargetPrices'. -/
def targetPricesUptoCard : Claim7 := { stood := { row := targetPricesUptoRow, standIns := [], harness := (true, "e12705f7bd0e7ba157e59de9380293f3d8977ddedefc76a9f84b3f8080e4736b"), looks := false }, kinds := [], alts := [], laidByText := true, laidKinds := [.data, .data], laidTests := true, laidLooks := .later }
def TargetPricesUptoCardSaid : Prop := Claim7.holds Tryz.pinned (.plain (OpenSpec.upto targetPricesSpec)) targetPricesUptoCard

/-- THE SECOND FORM's CARD OF 'cloverleaflaw09.TargetBounded'. -/
def targetBoundedUptoCard : Claim7 := { stood := { row := targetBoundedUptoRow, standIns := [], harness := (true, "e12705f7bd0e7ba157e59de9380293f3d8977ddedefc76a9f84b3f8080e4736b"), looks := false }, kinds := [], alts := [], laidByText := true, laidKinds := [.data, .data], laidTests := true, laidLooks := .later }
def TargetBoundedUptoCardSaid : Prop := Claim7.holds Tryz.pinned (.plain (OpenSpec.upto targetBoundedSpec)) targetBoundedUptoCard

/-- THE SECOND FORM's CARD OF 'cloverleaflaw09.TargetDates'. -/
def targetDatesUptoCard : Claim7 := { stood := { row := targetDatesUptoRow, standIns := [], harness := (true, "e12705f7bd0e7ba157e59de9380293f3d8977ddedefc76a9f84b3f8080e4736b"), looks := false }, kinds := [], alts := [], laidByText := true, laidKinds := [.data, .data], laidTests := true, laidLooks := .later }
def TargetDatesUptoCardSaid : Prop := Claim7.holds Tryz.pinned (.plain (OpenSpec.upto targetDatesSpec)) targetDatesUptoCard

/-- THE SECOND FORM's CARD OF 'cloverleaflaw09.TargetBodies'. -/
def targetBodiesUptoCard : Claim7 := { stood := { row := targetBodiesUptoRow, standIns := [], harness := (true, "e12705f7bd0e7ba157e59de9380293f3d8977ddedefc76a9f84b3f8080e4736b"), looks := false }, kinds := [], alts := [], laidByText := true, laidKinds := [.data, .data], laidTests := true, laidLooks := .later }
def TargetBodiesUptoCardSaid : Prop := Claim7.holds Tryz.pinned (.plain (OpenSpec.upto targetBodiesSpec)) targetBodiesUptoCard

/-- THE SECOND FORM's CARD OF 'cloverleaflaw09.TargetEverySlope'. -/
def targetEverySlopeUptoCard : Claim7 := { stood := { row := targetEverySlopeUptoRow, standIns := [], harness := (true, "e12705f7bd0e7ba157e59de9380293f3d8977ddedefc76a9f84b3f8080e4736b"), looks := false }, kinds := [], alts := [], laidByText := true, laidKinds := [.data, .data], laidTests := true, laidLooks := .later }
def TargetEverySlopeUptoCardSaid : Prop := Claim7.holds Tryz.pinned (.plain (OpenSpec.upto targetEverySlopeSpec)) targetEverySlopeUptoCard

/-- THE SECOND FORM's CARD OF 'cloverleaflaw09.TargetHoles'. -/
def targetHolesUptoCard : Claim7 := { stood := { row := targetHolesUptoRow, standIns := [], harness := (true, "e12705f7bd0e7ba157e59de9380293f3d8977ddedefc76a9f84b3f8080e4736b"), looks := false }, kinds := [], alts := [], laidByText := true, laidKinds := [.data, .data], laidTests := true, laidLooks := .later }
def TargetHolesUptoCardSaid : Prop := Claim7.holds Tryz.pinned (.plain (OpenSpec.upto targetHolesSpec)) targetHolesUptoCard

/-- THE SECOND FORM's CARD OF 'cloverleaflaw09.TargetCalls'. -/
def targetCallsUptoCard : Claim7 := { stood := { row := targetCallsUptoRow, standIns := [], harness := (true, "e12705f7bd0e7ba157e59de9380293f3d8977ddedefc76a9f84b3f8080e4736b"), looks := false }, kinds := [], alts := [], laidByText := true, laidKinds := [.data, .data], laidTests := true, laidLooks := .later }
def TargetCallsUptoCardSaid : Prop := Claim7.holds Tryz.pinned (.plain (OpenSpec.upto targetCallsSpec)) targetCallsUptoCard

/-- THE SECOND FORM's CARD OF 'cloverleaflaw09.TargetHonest'. -/
def targetHonestUptoCard : Claim7 := { stood := { row := targetHonestUptoRow, standIns := [], harness := (true, "e12705f7bd0e7ba157e59de9380293f3d8977ddedefc76a9f84b3f8080e4736b"), looks := false }, kinds := [], alts := [], laidByText := true, laidKinds := [.data, .data], laidTests := true, laidLooks := .later }
def TargetHonestUptoCardSaid : Prop := Claim7.holds Tryz.pinned (.plain (OpenSpec.upto targetHonestSpec)) targetHonestUptoCard

/-- THE SECOND FORM's CARD OF 'cloverleaflaw09.TargetKnown'. -/
def targetKnownUptoCard : Claim7 := { stood := { row := targetKnownUptoRow, standIns := [], harness := (true, "e12705f7bd0e7ba157e59de9380293f3d8977ddedefc76a9f84b3f8080e4736b"), looks := false }, kinds := [], alts := [], laidByText := true, laidKinds := [.data, .data], laidTests := true, laidLooks := .later }
def TargetKnownUptoCardSaid : Prop := Claim7.holds Tryz.pinned (.plain (OpenSpec.upto targetKnownSpec)) targetKnownUptoCard

/-- THE SECOND FORM's CARD OF 'cloverleaflaw09.TargetEveryBody'. -/
def targetEveryBodyUptoCard : Claim7 := { stood := { row := targetEveryBodyUptoRow, standIns := [], harness := (true, "e12705f7bd0e7ba157e59de9380293f3d8977ddedefc76a9f84b3f8080e4736b"), looks := false }, kinds := [], alts := [], laidByText := true, laidKinds := [.data, .data], laidTests := true, laidLooks := .later }
def TargetEveryBodyUptoCardSaid : Prop := Claim7.holds Tryz.pinned (.plain (OpenSpec.upto targetEveryBodySpec)) targetEveryBodyUptoCard
end Rows
end Go.Proofs.YtnmgpbihknjdjaaGreatDoor
