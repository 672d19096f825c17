/-
  DERIVED. GIVEN WITH THE SEED: THE CARDS: each row of YtnmgpbihknjdjaaDoorRows.lean that lists a variable, with what it lists TIED to the program's text (the seventh form; the later family's looks); each row that meets fmt, with fmt's text TOLD by the authors' own Lean function (tested against real Go, not proved from fmt's source: count such statements apart). THE CARD IS WHAT COUNTS. Prove the row's statement (the work); the ties are given (YtnmgpbihknjdjaaDoorTie.lean); close each card by the builder's one call (the guide's Derived/Test/ToyasCard.lean, 'card_holds'). Laid BY PROGRAM, IN A SANDBOX (cutbox-door.mjs). By AI agents, Wed Nov 11 2026. No macro, syntax, notation, axiom, sorry.
-/
import Derived.Test.YtnmgpbihknjdjaaDoorRows
import GoSem.ClaimSeven
namespace Go.Proofs.YtnmgpbihknjdjaaDoor
namespace Rows

/-- THE TIED CARD OF 'cloverleaftop.TopTargetMirror'. -/
def topTargetMirrorCard : Claim7 := { stood := { row := topTargetMirrorRow, standIns := [], harness := (true, "762a2ae9c5d00603b4f66a1b844ba20f80b62eff0deacd2c7a888f6def4f6726"), looks := false }, kinds := [], alts := [], laidByText := true, laidKinds := [.data, .data], laidTests := true, laidLooks := .later }
def TopTargetMirrorCardSaid : Prop := Claim7.holds Tryd.pinned (.plain (OpenSpec.ofChange topTargetMirrorSpec)) topTargetMirrorCard

/-- THE SECOND FORM's CARD OF 'cloverleaftop.TopTargetMirror'. -/
def topTargetMirrorUptoCard : Claim7 := { stood := { row := topTargetMirrorUptoRow, standIns := [], harness := (true, "762a2ae9c5d00603b4f66a1b844ba20f80b62eff0deacd2c7a888f6def4f6726"), looks := false }, kinds := [], alts := [], laidByText := true, laidKinds := [.data, .data], laidTests := true, laidLooks := .later }
def TopTargetMirrorUptoCardSaid : Prop := Claim7.holds Tryd.pinned (.plain (OpenSpec.upto topTargetMirrorSpec)) topTargetMirrorUptoCard
end Rows
end Go.Proofs.YtnmgpbihknjdjaaDoor
