/-
  No cell of these rows narrows 'for every input' (looked for: loops, veiled, ifaces, maps, wideKeys, modest, calm, conditions, laid).
  DERIVED. THE GIVEN ROWS OF THIS SEAT. 12 by the template 'for every input the law returns true; each argument reads behind the call as it read before'; 0 by the template 'total and deterministic' (their statements: YtgjpdjihjphbdaaTotals.lean).
  GIVEN WITH THE SEED: the statements are not yours to turn. If you find one false, say at which input.
  Laid BY PROGRAM, IN A SANDBOX (cutbox-rows.mjs): the forced cells as the released guide's own fill.sh prints them over the translation 5c98a9d23b7c3c94… (all of the seat's roots in one cut). By AI agents, Wed Nov 11 2026. No macro, syntax, notation, axiom, sorry.
-/
import Derived.Test.YtgjpdjihjphbdaaChecked
import GoSem.Claim
import GoSem.ClaimJoined
import GoSem.ClaimMapViews
import Derived.JoinedTies
import Derived.KernelRfl
namespace Go.Proofs.Ytgjpdjihjphbdaa
/- THE CELL 'sum', in the pinned program and in every row, IS THE sha256 OF THE DUMP (.gsa) THAT YtgjpdjihjphbdaaProg.lean LOADS. Nothing in Lean hashes anything: it is a label: what it is worth is what the hold of that sum in a sandbox is worth. -/
noncomputable def Try.pinned : Pinned := { name := "ytgjpdjihjphbdaa", sum := "5c98a9d23b7c3c9436014843939df10bc2607a192308ad3286bbbfd351e8b0dc", checked := Try.checked }
namespace Rows
def none {H : Type} : Left H := { results := [], args := [] }

/-- 'cloverleaflaw01.DrapeGroups': WHATEVER THE INPUT: true; the input reads as it did. -/
def drapeGroupsSpec : ChangeSpec := { name := "drapeGroups", fn := fun _ => fun
  | [d1, d2, d3] => { results := [.lit (.bool true)], args := [d1, d2, d3] }
  | _ => none }
def drapeGroupsRow : OpenClaim := { program := "ytgjpdjihjphbdaa", sum := "5c98a9d23b7c3c9436014843939df10bc2607a192308ad3286bbbfd351e8b0dc", func := "cloverleaf/cloverleaflaw01.DrapeGroups", spec := "drapeGroups", unfollowed := true, recurses := true, plainKeys := false, apart := false }
def DrapeGroupsSaid : Prop := drapeGroupsRow.holds Try.pinned (OpenSpec.ofChange drapeGroupsSpec)

/-- ITS FALSE NEIGHBOUR: 'it returns false'. Refute it at one input. -/
def drapeGroupsWrong : ChangeSpec := { name := "drapeGroups", fn := fun _ => fun
  | [d1, d2, d3] => { results := [.lit (.bool false)], args := [d1, d2, d3] }
  | _ => none }
def DrapeGroupsWrongFalsely : Prop := drapeGroupsRow.holds Try.pinned (OpenSpec.ofChange drapeGroupsWrong)

/-- 'cloverleaflaw01.DrapePolygons': WHATEVER THE INPUT: true; the input reads as it did. -/
def drapePolygonsSpec : ChangeSpec := { name := "drapePolygons", fn := fun _ => fun
  | [d1, d2] => { results := [.lit (.bool true)], args := [d1, d2] }
  | _ => none }
def drapePolygonsRow : OpenClaim := { program := "ytgjpdjihjphbdaa", sum := "5c98a9d23b7c3c9436014843939df10bc2607a192308ad3286bbbfd351e8b0dc", func := "cloverleaf/cloverleaflaw01.DrapePolygons", spec := "drapePolygons", unfollowed := true, recurses := true, plainKeys := false, apart := false }
def DrapePolygonsSaid : Prop := drapePolygonsRow.holds Try.pinned (OpenSpec.ofChange drapePolygonsSpec)

/-- ITS FALSE NEIGHBOUR: 'it returns false'. Refute it at one input. -/
def drapePolygonsWrong : ChangeSpec := { name := "drapePolygons", fn := fun _ => fun
  | [d1, d2] => { results := [.lit (.bool false)], args := [d1, d2] }
  | _ => none }
def DrapePolygonsWrongFalsely : Prop := drapePolygonsRow.holds Try.pinned (OpenSpec.ofChange drapePolygonsWrong)

/-- 'cloverleaflaw01.DrapeSurfaces': WHATEVER THE INPUT: true; the input reads as it did. -/
def drapeSurfacesSpec : ChangeSpec := { name := "drapeSurfaces", fn := fun _ => fun
  | [d] => { results := [.lit (.bool true)], args := [d] }
  | _ => none }
def drapeSurfacesRow : OpenClaim := { program := "ytgjpdjihjphbdaa", sum := "5c98a9d23b7c3c9436014843939df10bc2607a192308ad3286bbbfd351e8b0dc", func := "cloverleaf/cloverleaflaw01.DrapeSurfaces", spec := "drapeSurfaces", unfollowed := true, recurses := true, plainKeys := false, apart := false }
def DrapeSurfacesSaid : Prop := drapeSurfacesRow.holds Try.pinned (OpenSpec.ofChange drapeSurfacesSpec)

/-- ITS FALSE NEIGHBOUR: 'it returns false'. Refute it at one input. -/
def drapeSurfacesWrong : ChangeSpec := { name := "drapeSurfaces", fn := fun _ => fun
  | [d] => { results := [.lit (.bool false)], args := [d] }
  | _ => none }
def DrapeSurfacesWrongFalsely : Prop := drapeSurfacesRow.holds Try.pinned (OpenSpec.ofChange drapeSurfacesWrong)

/-- 'cloverleaflaw01.DrapeForces': WHATEVER THE INPUT: true; the input reads as it did. -/
def drapeForcesSpec : ChangeSpec := { name := "drapeForces", fn := fun _ => fun
  | [d1, d2] => { results := [.lit (.bool true)], args := [d1, d2] }
  | _ => none }
def drapeForcesRow : OpenClaim := { program := "ytgjpdjihjphbdaa", sum := "5c98a9d23b7c3c9436014843939df10bc2607a192308ad3286bbbfd351e8b0dc", func := "cloverleaf/cloverleaflaw01.DrapeForces", spec := "drapeForces", unfollowed := true, recurses := true, plainKeys := false, apart := false }
def DrapeForcesSaid : Prop := drapeForcesRow.holds Try.pinned (OpenSpec.ofChange drapeForcesSpec)

/-- ITS FALSE NEIGHBOUR: 'it returns false'. Refute it at one input. -/
def drapeForcesWrong : ChangeSpec := { name := "drapeForces", fn := fun _ => fun
  | [d1, d2] => { results := [.lit (.bool false)], args := [d1, d2] }
  | _ => none }
def DrapeForcesWrongFalsely : Prop := drapeForcesRow.holds Try.pinned (OpenSpec.ofChange drapeForcesWrong)

/-- 'cloverleaflaw01.DrapeCalendars': WHATEVER THE INPUT: true; the input reads as it did. -/
def drapeCalendarsSpec : ChangeSpec := { name := "drapeCalendars", fn := fun _ => fun
  | [d1, d2, d3] => { results := [.lit (.bool true)], args := [d1, d2, d3] }
  | _ => none }
def drapeCalendarsRow : OpenClaim := { program := "ytgjpdjihjphbdaa", sum := "5c98a9d23b7c3c9436014843939df10bc2607a192308ad3286bbbfd351e8b0dc", func := "cloverleaf/cloverleaflaw01.DrapeCalendars", spec := "drapeCalendars", unfollowed := true, recurses := true, plainKeys := false, apart := false }
def DrapeCalendarsSaid : Prop := drapeCalendarsRow.holds Try.pinned (OpenSpec.ofChange drapeCalendarsSpec)

/-- ITS FALSE NEIGHBOUR: 'it returns false'. Refute it at one input. -/
def drapeCalendarsWrong : ChangeSpec := { name := "drapeCalendars", fn := fun _ => fun
  | [d1, d2, d3] => { results := [.lit (.bool false)], args := [d1, d2, d3] }
  | _ => none }
def DrapeCalendarsWrongFalsely : Prop := drapeCalendarsRow.holds Try.pinned (OpenSpec.ofChange drapeCalendarsWrong)

/-- 'cloverleaflaw01.DrapeInfills': WHATEVER THE INPUT: true; the input reads as it did. -/
def drapeInfillsSpec : ChangeSpec := { name := "drapeInfills", fn := fun _ => fun
  | [d1, d2, d3] => { results := [.lit (.bool true)], args := [d1, d2, d3] }
  | _ => none }
def drapeInfillsRow : OpenClaim := { program := "ytgjpdjihjphbdaa", sum := "5c98a9d23b7c3c9436014843939df10bc2607a192308ad3286bbbfd351e8b0dc", func := "cloverleaf/cloverleaflaw01.DrapeInfills", spec := "drapeInfills", unfollowed := true, recurses := true, plainKeys := false, apart := false }
def DrapeInfillsSaid : Prop := drapeInfillsRow.holds Try.pinned (OpenSpec.ofChange drapeInfillsSpec)

/-- ITS FALSE NEIGHBOUR: 'it returns false'. Refute it at one input. -/
def drapeInfillsWrong : ChangeSpec := { name := "drapeInfills", fn := fun _ => fun
  | [d1, d2, d3] => { results := [.lit (.bool false)], args := [d1, d2, d3] }
  | _ => none }
def DrapeInfillsWrongFalsely : Prop := drapeInfillsRow.holds Try.pinned (OpenSpec.ofChange drapeInfillsWrong)

/-- 'cloverleaflaw01.DrapeWindows': WHATEVER THE INPUT: true; the input reads as it did. -/
def drapeWindowsSpec : ChangeSpec := { name := "drapeWindows", fn := fun _ => fun
  | [d1, d2, d3] => { results := [.lit (.bool true)], args := [d1, d2, d3] }
  | _ => none }
def drapeWindowsRow : OpenClaim := { program := "ytgjpdjihjphbdaa", sum := "5c98a9d23b7c3c9436014843939df10bc2607a192308ad3286bbbfd351e8b0dc", func := "cloverleaf/cloverleaflaw01.DrapeWindows", spec := "drapeWindows", unfollowed := true, recurses := true, plainKeys := false, apart := false }
def DrapeWindowsSaid : Prop := drapeWindowsRow.holds Try.pinned (OpenSpec.ofChange drapeWindowsSpec)

/-- ITS FALSE NEIGHBOUR: 'it returns false'. Refute it at one input. -/
def drapeWindowsWrong : ChangeSpec := { name := "drapeWindows", fn := fun _ => fun
  | [d1, d2, d3] => { results := [.lit (.bool false)], args := [d1, d2, d3] }
  | _ => none }
def DrapeWindowsWrongFalsely : Prop := drapeWindowsRow.holds Try.pinned (OpenSpec.ofChange drapeWindowsWrong)

/-- 'cloverleaflaw01.DrapeProofs': WHATEVER THE INPUT: true; the input reads as it did. -/
def drapeProofsSpec : ChangeSpec := { name := "drapeProofs", fn := fun _ => fun
  | [d1, d2] => { results := [.lit (.bool true)], args := [d1, d2] }
  | _ => none }
def drapeProofsRow : OpenClaim := { program := "ytgjpdjihjphbdaa", sum := "5c98a9d23b7c3c9436014843939df10bc2607a192308ad3286bbbfd351e8b0dc", func := "cloverleaf/cloverleaflaw01.DrapeProofs", spec := "drapeProofs", unfollowed := true, recurses := true, plainKeys := false, apart := false }
def DrapeProofsSaid : Prop := drapeProofsRow.holds Try.pinned (OpenSpec.ofChange drapeProofsSpec)

/-- ITS FALSE NEIGHBOUR: 'it returns false'. Refute it at one input. -/
def drapeProofsWrong : ChangeSpec := { name := "drapeProofs", fn := fun _ => fun
  | [d1, d2] => { results := [.lit (.bool false)], args := [d1, d2] }
  | _ => none }
def DrapeProofsWrongFalsely : Prop := drapeProofsRow.holds Try.pinned (OpenSpec.ofChange drapeProofsWrong)

/-- 'cloverleaflaw01.DrapeNoLower': WHATEVER THE INPUT: true; the input reads as it did. -/
def drapeNoLowerSpec : ChangeSpec := { name := "drapeNoLower", fn := fun _ => fun
  | [d1, d2, d3] => { results := [.lit (.bool true)], args := [d1, d2, d3] }
  | _ => none }
def drapeNoLowerRow : OpenClaim := { program := "ytgjpdjihjphbdaa", sum := "5c98a9d23b7c3c9436014843939df10bc2607a192308ad3286bbbfd351e8b0dc", func := "cloverleaf/cloverleaflaw01.DrapeNoLower", spec := "drapeNoLower", unfollowed := true, recurses := true, plainKeys := false, apart := false }
def DrapeNoLowerSaid : Prop := drapeNoLowerRow.holds Try.pinned (OpenSpec.ofChange drapeNoLowerSpec)

/-- ITS FALSE NEIGHBOUR: 'it returns false'. Refute it at one input. -/
def drapeNoLowerWrong : ChangeSpec := { name := "drapeNoLower", fn := fun _ => fun
  | [d1, d2, d3] => { results := [.lit (.bool false)], args := [d1, d2, d3] }
  | _ => none }
def DrapeNoLowerWrongFalsely : Prop := drapeNoLowerRow.holds Try.pinned (OpenSpec.ofChange drapeNoLowerWrong)

/-- 'cloverleaflaw01.DrapeFixes': WHATEVER THE INPUT: true; the input reads as it did. -/
def drapeFixesSpec : ChangeSpec := { name := "drapeFixes", fn := fun _ => fun
  | [d1, d2] => { results := [.lit (.bool true)], args := [d1, d2] }
  | _ => none }
def drapeFixesRow : OpenClaim := { program := "ytgjpdjihjphbdaa", sum := "5c98a9d23b7c3c9436014843939df10bc2607a192308ad3286bbbfd351e8b0dc", func := "cloverleaf/cloverleaflaw01.DrapeFixes", spec := "drapeFixes", unfollowed := true, recurses := true, plainKeys := false, apart := false }
def DrapeFixesSaid : Prop := drapeFixesRow.holds Try.pinned (OpenSpec.ofChange drapeFixesSpec)

/-- ITS FALSE NEIGHBOUR: 'it returns false'. Refute it at one input. -/
def drapeFixesWrong : ChangeSpec := { name := "drapeFixes", fn := fun _ => fun
  | [d1, d2] => { results := [.lit (.bool false)], args := [d1, d2] }
  | _ => none }
def DrapeFixesWrongFalsely : Prop := drapeFixesRow.holds Try.pinned (OpenSpec.ofChange drapeFixesWrong)

/-- 'cloverleaftop.TopDrapeKept': WHATEVER THE INPUT: true; the input reads as it did. -/
def topDrapeKeptSpec : ChangeSpec := { name := "topDrapeKept", fn := fun _ => fun
  | [d1, d2] => { results := [.lit (.bool true)], args := [d1, d2] }
  | _ => none }
def topDrapeKeptRow : OpenClaim := { program := "ytgjpdjihjphbdaa", sum := "5c98a9d23b7c3c9436014843939df10bc2607a192308ad3286bbbfd351e8b0dc", func := "cloverleaf/cloverleaftop.TopDrapeKept", spec := "topDrapeKept", unfollowed := true, recurses := true, plainKeys := false, apart := false }
def TopDrapeKeptSaid : Prop := topDrapeKeptRow.holds Try.pinned (OpenSpec.ofChange topDrapeKeptSpec)

/-- ITS FALSE NEIGHBOUR: 'it returns false'. Refute it at one input. -/
def topDrapeKeptWrong : ChangeSpec := { name := "topDrapeKept", fn := fun _ => fun
  | [d1, d2] => { results := [.lit (.bool false)], args := [d1, d2] }
  | _ => none }
def TopDrapeKeptWrongFalsely : Prop := topDrapeKeptRow.holds Try.pinned (OpenSpec.ofChange topDrapeKeptWrong)

/-- 'cloverleaftop.TopDrapeInfill': WHATEVER THE INPUT: true; the input reads as it did. -/
def topDrapeInfillSpec : ChangeSpec := { name := "topDrapeInfill", fn := fun _ => fun
  | [d1, d2, d3] => { results := [.lit (.bool true)], args := [d1, d2, d3] }
  | _ => none }
def topDrapeInfillRow : OpenClaim := { program := "ytgjpdjihjphbdaa", sum := "5c98a9d23b7c3c9436014843939df10bc2607a192308ad3286bbbfd351e8b0dc", func := "cloverleaf/cloverleaftop.TopDrapeInfill", spec := "topDrapeInfill", unfollowed := true, recurses := true, plainKeys := false, apart := false }
def TopDrapeInfillSaid : Prop := topDrapeInfillRow.holds Try.pinned (OpenSpec.ofChange topDrapeInfillSpec)

/-- ITS FALSE NEIGHBOUR: 'it returns false'. Refute it at one input. -/
def topDrapeInfillWrong : ChangeSpec := { name := "topDrapeInfill", fn := fun _ => fun
  | [d1, d2, d3] => { results := [.lit (.bool false)], args := [d1, d2, d3] }
  | _ => none }
def TopDrapeInfillWrongFalsely : Prop := topDrapeInfillRow.holds Try.pinned (OpenSpec.ofChange topDrapeInfillWrong)

/- THE SECOND FORM. 'bulk': how many values and letters a reading holds, each counted each time it is reached (what is shared counts as often as it is met; a slice's spare places count too). A statement '..UptoSaid' is the law's where the arguments, and the package variables that the reading takes, are together of bulk at most 1048576: NARROWER than '..Said'. Prove '..Said' where nothing that the law and all that it calls make is longer than what came in: it says more and counts as full. Else prove '..UptoSaid'. A law counts once. -/
mutual
def uptoBulk {H : Type} : DataW H → Nat
  | .lit (.string bytes) => bytes.length + 1
  | .lit _ => 1
  | .nil => 1
  | .ptr d => uptoBulk d + 1
  | .slice elems spare => uptoBulkAll elems + uptoBulkAll spare + 1
  | .agg parts => uptoBulkAll parts + 1
  | .iface _ d => uptoBulk d + 1
  | .map entries => uptoBulkEntries entries + 1
  | .held _ => 1
def uptoBulkAll {H : Type} : List (DataW H) → Nat
  | [] => 0
  | d :: r => uptoBulk d + uptoBulkAll r
def uptoBulkEntries {H : Type} : List (Lit × DataW H) → Nat
  | [] => 0
  | x :: r => uptoBulkEntry x + uptoBulkEntries r
def uptoBulkEntry {H : Type} : Lit × DataW H → Nat
  | (.string bytes, d) => bytes.length + uptoBulk d + 1
  | (_, d) => uptoBulk d + 1
 end
def uptoSmall : (H : Type) → List (DataW H) → Bool := fun _ ds => decide (uptoBulkAll ds ≤ 1048576)
def OpenSpec.upto (s : _root_.Go.ChangeSpec) : _root_.Go.OpenSpec := { _root_.Go.OpenSpec.ofChange s with cond := some uptoSmall }

/-- 'cloverleaflaw01.DrapeGroups', WHERE WHAT IT READS IS OF BULK AT MOST 1048576: true; the input reads as it did. -/
def drapeGroupsUptoRow : OpenClaim := { program := "ytgjpdjihjphbdaa", sum := "5c98a9d23b7c3c9436014843939df10bc2607a192308ad3286bbbfd351e8b0dc", func := "cloverleaf/cloverleaflaw01.DrapeGroups", spec := "drapeGroups", unfollowed := true, recurses := true, plainKeys := false, apart := false, narrowed := true }
def DrapeGroupsUptoSaid : Prop := drapeGroupsUptoRow.holds Try.pinned (OpenSpec.upto drapeGroupsSpec)

/-- 'cloverleaflaw01.DrapePolygons', WHERE WHAT IT READS IS OF BULK AT MOST 1048576: true; the input reads as it did. -/
def drapePolygonsUptoRow : OpenClaim := { program := "ytgjpdjihjphbdaa", sum := "5c98a9d23b7c3c9436014843939df10bc2607a192308ad3286bbbfd351e8b0dc", func := "cloverleaf/cloverleaflaw01.DrapePolygons", spec := "drapePolygons", unfollowed := true, recurses := true, plainKeys := false, apart := false, narrowed := true }
def DrapePolygonsUptoSaid : Prop := drapePolygonsUptoRow.holds Try.pinned (OpenSpec.upto drapePolygonsSpec)

/-- 'cloverleaflaw01.DrapeSurfaces', WHERE WHAT IT READS IS OF BULK AT MOST 1048576: true; the input reads as it did. -/
def drapeSurfacesUptoRow : OpenClaim := { program := "ytgjpdjihjphbdaa", sum := "5c98a9d23b7c3c9436014843939df10bc2607a192308ad3286bbbfd351e8b0dc", func := "cloverleaf/cloverleaflaw01.DrapeSurfaces", spec := "drapeSurfaces", unfollowed := true, recurses := true, plainKeys := false, apart := false, narrowed := true }
def DrapeSurfacesUptoSaid : Prop := drapeSurfacesUptoRow.holds Try.pinned (OpenSpec.upto drapeSurfacesSpec)

/-- 'cloverleaflaw01.DrapeForces', WHERE WHAT IT READS IS OF BULK AT MOST 1048576: true; the input reads as it did. -/
def drapeForcesUptoRow : OpenClaim := { program := "ytgjpdjihjphbdaa", sum := "5c98a9d23b7c3c9436014843939df10bc2607a192308ad3286bbbfd351e8b0dc", func := "cloverleaf/cloverleaflaw01.DrapeForces", spec := "drapeForces", unfollowed := true, recurses := true, plainKeys := false, apart := false, narrowed := true }
def DrapeForcesUptoSaid : Prop := drapeForcesUptoRow.holds Try.pinned (OpenSpec.upto drapeForcesSpec)

/-- 'cloverleaflaw01.DrapeCalendars', WHERE WHAT IT READS IS OF BULK AT MOST 1048576: true; the input reads as it did. -/
def drapeCalendarsUptoRow : OpenClaim := { program := "ytgjpdjihjphbdaa", sum := "5c98a9d23b7c3c9436014843939df10bc2607a192308ad3286bbbfd351e8b0dc", func := "cloverleaf/cloverleaflaw01.DrapeCalendars", spec := "drapeCalendars", unfollowed := true, recurses := true, plainKeys := false, apart := false, narrowed := true }
def DrapeCalendarsUptoSaid : Prop := drapeCalendarsUptoRow.holds Try.pinned (OpenSpec.upto drapeCalendarsSpec)

/-- 'cloverleaflaw01.DrapeInfills', WHERE WHAT IT READS IS OF BULK AT MOST 1048576: true; the input reads as it did. -/
def drapeInfillsUptoRow : OpenClaim := { program := "ytgjpdjihjphbdaa", sum := "5c98a9d23b7c3c9436014843939df10bc2607a192308ad3286bbbfd351e8b0dc", func := "cloverleaf/cloverleaflaw01.DrapeInfills", spec := "drapeInfills", unfollowed := true, recurses := true, plainKeys := false, apart := false, narrowed := true }
def DrapeInfillsUptoSaid : Prop := drapeInfillsUptoRow.holds Try.pinned (OpenSpec.upto drapeInfillsSpec)

/-- 'cloverleaflaw01.DrapeWindows', WHERE WHAT IT READS IS OF BULK AT MOST 1048576: true; the input reads as it did. -/
def drapeWindowsUptoRow : OpenClaim := { program := "ytgjpdjihjphbdaa", sum := "5c98a9d23b7c3c9436014843939df10bc2607a192308ad3286bbbfd351e8b0dc", func := "cloverleaf/cloverleaflaw01.DrapeWindows", spec := "drapeWindows", unfollowed := true, recurses := true, plainKeys := false, apart := false, narrowed := true }
def DrapeWindowsUptoSaid : Prop := drapeWindowsUptoRow.holds Try.pinned (OpenSpec.upto drapeWindowsSpec)

/-- 'cloverleaflaw01.DrapeProofs', WHERE WHAT IT READS IS OF BULK AT MOST 1048576: true; the input reads as it did. -/
def drapeProofsUptoRow : OpenClaim := { program := "ytgjpdjihjphbdaa", sum := "5c98a9d23b7c3c9436014843939df10bc2607a192308ad3286bbbfd351e8b0dc", func := "cloverleaf/cloverleaflaw01.DrapeProofs", spec := "drapeProofs", unfollowed := true, recurses := true, plainKeys := false, apart := false, narrowed := true }
def DrapeProofsUptoSaid : Prop := drapeProofsUptoRow.holds Try.pinned (OpenSpec.upto drapeProofsSpec)

/-- 'cloverleaflaw01.DrapeNoLower', WHERE WHAT IT READS IS OF BULK AT MOST 1048576: true; the input reads as it did. -/
def drapeNoLowerUptoRow : OpenClaim := { program := "ytgjpdjihjphbdaa", sum := "5c98a9d23b7c3c9436014843939df10bc2607a192308ad3286bbbfd351e8b0dc", func := "cloverleaf/cloverleaflaw01.DrapeNoLower", spec := "drapeNoLower", unfollowed := true, recurses := true, plainKeys := false, apart := false, narrowed := true }
def DrapeNoLowerUptoSaid : Prop := drapeNoLowerUptoRow.holds Try.pinned (OpenSpec.upto drapeNoLowerSpec)

/-- 'cloverleaflaw01.DrapeFixes', WHERE WHAT IT READS IS OF BULK AT MOST 1048576: true; the input reads as it did. -/
def drapeFixesUptoRow : OpenClaim := { program := "ytgjpdjihjphbdaa", sum := "5c98a9d23b7c3c9436014843939df10bc2607a192308ad3286bbbfd351e8b0dc", func := "cloverleaf/cloverleaflaw01.DrapeFixes", spec := "drapeFixes", unfollowed := true, recurses := true, plainKeys := false, apart := false, narrowed := true }
def DrapeFixesUptoSaid : Prop := drapeFixesUptoRow.holds Try.pinned (OpenSpec.upto drapeFixesSpec)

/-- 'cloverleaftop.TopDrapeKept', WHERE WHAT IT READS IS OF BULK AT MOST 1048576: true; the input reads as it did. -/
def topDrapeKeptUptoRow : OpenClaim := { program := "ytgjpdjihjphbdaa", sum := "5c98a9d23b7c3c9436014843939df10bc2607a192308ad3286bbbfd351e8b0dc", func := "cloverleaf/cloverleaftop.TopDrapeKept", spec := "topDrapeKept", unfollowed := true, recurses := true, plainKeys := false, apart := false, narrowed := true }
def TopDrapeKeptUptoSaid : Prop := topDrapeKeptUptoRow.holds Try.pinned (OpenSpec.upto topDrapeKeptSpec)

/-- 'cloverleaftop.TopDrapeInfill', WHERE WHAT IT READS IS OF BULK AT MOST 1048576: true; the input reads as it did. -/
def topDrapeInfillUptoRow : OpenClaim := { program := "ytgjpdjihjphbdaa", sum := "5c98a9d23b7c3c9436014843939df10bc2607a192308ad3286bbbfd351e8b0dc", func := "cloverleaf/cloverleaftop.TopDrapeInfill", spec := "topDrapeInfill", unfollowed := true, recurses := true, plainKeys := false, apart := false, narrowed := true }
def TopDrapeInfillUptoSaid : Prop := topDrapeInfillUptoRow.holds Try.pinned (OpenSpec.upto topDrapeInfillSpec)

end Rows
end Go.Proofs.Ytgjpdjihjphbdaa
