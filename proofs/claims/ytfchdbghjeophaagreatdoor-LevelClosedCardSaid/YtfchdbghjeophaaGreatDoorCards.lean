/-
  DERIVED. GIVEN WITH THE SEED: THE CARDS: each row of YtfchdbghjeophaaGreatDoorRows.lean that lists a variable, with what it lists TIED to the program's text (the seventh form; the later family's looks); each row that meets fmt, with fmt's text TOLD by the authors' own Lean function (tested against real Go, not proved from fmt's source: count such statements apart). THE CARD IS WHAT COUNTS. Prove the row's statement (the work); the ties are given (YtfchdbghjeophaaGreatDoorTie.lean); close each card by the builder's one call (the guide's Derived/Test/ToyasCard.lean, 'card_holds'). Laid BY PROGRAM, IN A SANDBOX (cutbox-door.mjs). By AI agents, Wed Nov 11 2026. No macro, syntax, notation, axiom, sorry.
-/
import Derived.Test.YtfchdbghjeophaaGreatDoorRows
import GoSem.ClaimSeven
namespace Go.Proofs.YtfchdbghjeophaaGreatDoor
namespace Rows

/-- THE TIED CARD OF 'cloverleaflaw07.LevelClosed'. -/
def levelClosedCard : Claim7 := { stood := { row := levelClosedRow, standIns := [], harness := (true, "7e59eff49dfcccf690e6c96f810caa9084e3a6a4ed0d38676b3b46c2da75fbe1"), looks := true }, kinds := [], alts := [], laidByText := true, laidKinds := [.data, .data], laidTests := true, laidLooks := .later }
def LevelClosedCardSaid : Prop := Claim7.holds Tryz.pinned (.plain (OpenSpec.ofChange levelClosedSpec)) levelClosedCard

/-- THE TIED CARD OF 'cloverleaflaw07.LevelContradictions'. -/
def levelContradictionsCard : Claim7 := { stood := { row := levelContradictionsRow, standIns := [], harness := (true, "7e59eff49dfcccf690e6c96f810caa9084e3a6a4ed0d38676b3b46c2da75fbe1"), looks := true }, kinds := [], alts := [], laidByText := true, laidKinds := [.data, .data], laidTests := true, laidLooks := .later }
def LevelContradictionsCardSaid : Prop := Claim7.holds Tryz.pinned (.plain (OpenSpec.ofChange levelContradictionsSpec)) levelContradictionsCard

/-- THE TIED CARD OF 'cloverleaftop.TopLevelClosed'. -/
def topLevelClosedCard : Claim7 := { stood := { row := topLevelClosedRow, standIns := [], harness := (true, "7e59eff49dfcccf690e6c96f810caa9084e3a6a4ed0d38676b3b46c2da75fbe1"), looks := true }, kinds := [], alts := [], laidByText := true, laidKinds := [.data, .data, .data, .data, .sentinel, .sentinel, .pinned], laidTests := true, laidLooks := .later }
def TopLevelClosedCardSaid : Prop := Claim7.holds Tryz.pinned (.plain (OpenSpec.ofChange topLevelClosedSpec)) topLevelClosedCard

/-- THE SECOND FORM's CARD OF 'cloverleaflaw07.LevelClosed'. -/
def levelClosedUptoCard : Claim7 := { stood := { row := levelClosedUptoRow, standIns := [], harness := (true, "7e59eff49dfcccf690e6c96f810caa9084e3a6a4ed0d38676b3b46c2da75fbe1"), looks := true }, kinds := [], alts := [], laidByText := true, laidKinds := [.data, .data], laidTests := true, laidLooks := .later }
def LevelClosedUptoCardSaid : Prop := Claim7.holds Tryz.pinned (.plain (OpenSpec.upto levelClosedSpec)) levelClosedUptoCard

/-- THE SECOND FORM's CARD OF 'cloverleaflaw07.LevelContradictions'. -/
def levelContradictionsUptoCard : Claim7 := { stood := { row := levelContradictionsUptoRow, standIns := [], harness := (true, "7e59eff49dfcccf690e6c96f810caa9084e3a6a4ed0d38676b3b46c2da75fbe1"), looks := true }, kinds := [], alts := [], laidByText := true, laidKinds := [.data, .data], laidTests := true, laidLooks := .later }
def LevelContradictionsUptoCardSaid : Prop := Claim7.holds Tryz.pinned (.plain (OpenSpec.upto levelContradictionsSpec)) levelContradictionsUptoCard

/-- THE SECOND FORM's CARD OF 'cloverleaftop.TopLevelClosed'. -/
def topLevelClosedUptoCard : Claim7 := { stood := { row := topLevelClosedUptoRow, standIns := [], harness := (true, "7e59eff49dfcccf690e6c96f810caa9084e3a6a4ed0d38676b3b46c2da75fbe1"), looks := true }, kinds := [], alts := [], laidByText := true, laidKinds := [.data, .data, .data, .data, .sentinel, .sentinel, .pinned], laidTests := true, laidLooks := .later }
def TopLevelClosedUptoCardSaid : Prop := Claim7.holds Tryz.pinned (.plain (OpenSpec.upto topLevelClosedSpec)) topLevelClosedUptoCard
end Rows
end Go.Proofs.YtfchdbghjeophaaGreatDoor
