/-
  DERIVED. GIVEN WITH THE SEED: THE CARDS: each row of YtfchdbghjeophaaDoorRows.lean that lists a variable, with what it lists TIED to the program's text (the seventh form; the later family's looks); each row that meets fmt, with fmt's text TOLD by the authors' own Lean function (tested against real Go, not proved from fmt's source: count such statements apart). THE CARD IS WHAT COUNTS. Prove the row's statement (the work); the ties are given (YtfchdbghjeophaaDoorTie.lean); close each card by the builder's one call (the guide's Derived/Test/ToyasCard.lean, 'card_holds'). Laid BY PROGRAM, IN A SANDBOX (cutbox-door.mjs). By AI agents, Wed Nov 11 2026. No macro, syntax, notation, axiom, sorry.
-/
import Derived.Test.YtfchdbghjeophaaDoorRows
import GoSem.ClaimSeven
namespace Go.Proofs.YtfchdbghjeophaaDoor
namespace Rows

/-- THE TIED CARD OF 'cloverleaftop.TopLevelFeature'. -/
def topLevelFeatureCard : Claim7 := { stood := { row := topLevelFeatureRow, standIns := [], harness := (true, "3721585ca888ce38270f51e92b559b188f48950c7241f957912d6c6c3dc7993a"), looks := false }, kinds := [], alts := [], laidByText := true, laidKinds := [.data, .data], laidTests := true, laidLooks := .later }
def TopLevelFeatureCardSaid : Prop := Claim7.holds Tryd.pinned (.plain (OpenSpec.ofChange topLevelFeatureSpec)) topLevelFeatureCard

/-- THE SECOND FORM's CARD OF 'cloverleaftop.TopLevelFeature'. -/
def topLevelFeatureUptoCard : Claim7 := { stood := { row := topLevelFeatureUptoRow, standIns := [], harness := (true, "3721585ca888ce38270f51e92b559b188f48950c7241f957912d6c6c3dc7993a"), looks := false }, kinds := [], alts := [], laidByText := true, laidKinds := [.data, .data], laidTests := true, laidLooks := .later }
def TopLevelFeatureUptoCardSaid : Prop := Claim7.holds Tryd.pinned (.plain (OpenSpec.upto topLevelFeatureSpec)) topLevelFeatureUptoCard
end Rows
end Go.Proofs.YtfchdbghjeophaaDoor
