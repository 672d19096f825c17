/-
  No cell of these rows narrows 'for every input' (looked for: loops, veiled, ifaces, maps, wideKeys, modest, calm, conditions, laid).
  DERIVED. THE GIVEN ROWS OF THIS SEAT. 4 by the template 'for every input the law returns true; each argument reads behind the call as it read before'; 0 by the template 'total and deterministic' (their statements: YtbdleggmdbihnaaTotals.lean).
  GIVEN WITH THE SEED: the statements are not yours to turn. If you find one false, say at which input.
  Laid BY PROGRAM, IN A SANDBOX (cutbox-rows.mjs): the forced cells as the released guide's own fill.sh prints them over the translation 217af1a23b5fcfd1… (all of the seat's roots in one cut). By AI agents, Wed Nov 11 2026. No macro, syntax, notation, axiom, sorry.
-/
import Derived.Test.YtbdleggmdbihnaaChecked
import GoSem.Claim
import GoSem.ClaimJoined
import GoSem.ClaimMapViews
import Derived.JoinedTies
import Derived.KernelRfl
namespace Go.Proofs.Ytbdleggmdbihnaa
/- THE CELL 'sum', in the pinned program and in every row, IS THE sha256 OF THE DUMP (.gsa) THAT YtbdleggmdbihnaaProg.lean LOADS. Nothing in Lean hashes anything: it is a label: what it is worth is what the hold of that sum in a sandbox is worth. -/
noncomputable def Try.pinned : Pinned := { name := "ytbdleggmdbihnaa", sum := "217af1a23b5fcfd14955c2ccdcfd716a8db3da397eaceb540ae9b8b17663bd3b", checked := Try.checked }
namespace Rows
def none {H : Type} : Left H := { results := [], args := [] }

/-- 'cloverleaflaw07.LevelKept': WHATEVER THE INPUT: true; the input reads as it did. -/
def levelKeptSpec : ChangeSpec := { name := "levelKept", fn := fun _ => fun
  | [d1, d2] => { results := [.lit (.bool true)], args := [d1, d2] }
  | _ => none }
def levelKeptRow : OpenClaim := { program := "ytbdleggmdbihnaa", sum := "217af1a23b5fcfd14955c2ccdcfd716a8db3da397eaceb540ae9b8b17663bd3b", func := "cloverleaf/cloverleaflaw07.LevelKept", spec := "levelKept", unfollowed := true, recurses := true, apart := false }
def LevelKeptSaid : Prop := levelKeptRow.holds Try.pinned (OpenSpec.ofChange levelKeptSpec)

/-- ITS FALSE NEIGHBOUR: 'it returns false'. Refute it at one input. -/
def levelKeptWrong : ChangeSpec := { name := "levelKept", fn := fun _ => fun
  | [d1, d2] => { results := [.lit (.bool false)], args := [d1, d2] }
  | _ => none }
def LevelKeptWrongFalsely : Prop := levelKeptRow.holds Try.pinned (OpenSpec.ofChange levelKeptWrong)

/-- 'cloverleaflaw07.LevelAnomalies': WHATEVER THE INPUT: true; the input reads as it did. -/
def levelAnomaliesSpec : ChangeSpec := { name := "levelAnomalies", fn := fun _ => fun
  | [d1, d2, d3] => { results := [.lit (.bool true)], args := [d1, d2, d3] }
  | _ => none }
def levelAnomaliesRow : OpenClaim := { program := "ytbdleggmdbihnaa", sum := "217af1a23b5fcfd14955c2ccdcfd716a8db3da397eaceb540ae9b8b17663bd3b", func := "cloverleaf/cloverleaflaw07.LevelAnomalies", spec := "levelAnomalies", unfollowed := true, recurses := true, apart := false }
def LevelAnomaliesSaid : Prop := levelAnomaliesRow.holds Try.pinned (OpenSpec.ofChange levelAnomaliesSpec)

/-- ITS FALSE NEIGHBOUR: 'it returns false'. Refute it at one input. -/
def levelAnomaliesWrong : ChangeSpec := { name := "levelAnomalies", fn := fun _ => fun
  | [d1, d2, d3] => { results := [.lit (.bool false)], args := [d1, d2, d3] }
  | _ => none }
def LevelAnomaliesWrongFalsely : Prop := levelAnomaliesRow.holds Try.pinned (OpenSpec.ofChange levelAnomaliesWrong)

/-- 'cloverleaflaw07.LevelCrossed': WHATEVER THE INPUT: true; the input reads as it did. -/
def levelCrossedSpec : ChangeSpec := { name := "levelCrossed", fn := fun _ => fun
  | [d1, d2, d3] => { results := [.lit (.bool true)], args := [d1, d2, d3] }
  | _ => none }
def levelCrossedRow : OpenClaim := { program := "ytbdleggmdbihnaa", sum := "217af1a23b5fcfd14955c2ccdcfd716a8db3da397eaceb540ae9b8b17663bd3b", func := "cloverleaf/cloverleaflaw07.LevelCrossed", spec := "levelCrossed", unfollowed := true, recurses := true, apart := false }
def LevelCrossedSaid : Prop := levelCrossedRow.holds Try.pinned (OpenSpec.ofChange levelCrossedSpec)

/-- ITS FALSE NEIGHBOUR: 'it returns false'. Refute it at one input. -/
def levelCrossedWrong : ChangeSpec := { name := "levelCrossed", fn := fun _ => fun
  | [d1, d2, d3] => { results := [.lit (.bool false)], args := [d1, d2, d3] }
  | _ => none }
def LevelCrossedWrongFalsely : Prop := levelCrossedRow.holds Try.pinned (OpenSpec.ofChange levelCrossedWrong)

/-- 'cloverleaflaw07.LevelFlows': WHATEVER THE INPUT: true; the input reads as it did. -/
def levelFlowsSpec : ChangeSpec := { name := "levelFlows", fn := fun _ => fun
  | [d1, d2, d3] => { results := [.lit (.bool true)], args := [d1, d2, d3] }
  | _ => none }
def levelFlowsRow : OpenClaim := { program := "ytbdleggmdbihnaa", sum := "217af1a23b5fcfd14955c2ccdcfd716a8db3da397eaceb540ae9b8b17663bd3b", func := "cloverleaf/cloverleaflaw07.LevelFlows", spec := "levelFlows", unfollowed := true, recurses := true, apart := false }
def LevelFlowsSaid : Prop := levelFlowsRow.holds Try.pinned (OpenSpec.ofChange levelFlowsSpec)

/-- ITS FALSE NEIGHBOUR: 'it returns false'. Refute it at one input. -/
def levelFlowsWrong : ChangeSpec := { name := "levelFlows", fn := fun _ => fun
  | [d1, d2, d3] => { results := [.lit (.bool false)], args := [d1, d2, d3] }
  | _ => none }
def LevelFlowsWrongFalsely : Prop := levelFlowsRow.holds Try.pinned (OpenSpec.ofChange levelFlowsWrong)

/- THE SECOND FORM. 'bulk': how many values and letters a reading holds, each counted each time it is reached (what is shared counts as often as it is met; a slice's spare places count too). A statement '..UptoSaid' is the law's where the arguments, and the package variables that the reading takes, are together of bulk at most 1048576: NARROWER than '..Said'. Prove '..Said' where nothing that the law and all that it calls make is longer than what came in: it says more and counts as full. Else prove '..UptoSaid'. A law counts once. -/
mutual
def uptoBulk {H : Type} : DataW H → Nat
  | .lit (.string bytes) => bytes.length + 1
  | .lit _ => 1
  | .nil => 1
  | .ptr d => uptoBulk d + 1
  | .slice elems spare => uptoBulkAll elems + uptoBulkAll spare + 1
  | .agg parts => uptoBulkAll parts + 1
  | .iface _ d => uptoBulk d + 1
  | .map entries => uptoBulkEntries entries + 1
  | .held _ => 1
def uptoBulkAll {H : Type} : List (DataW H) → Nat
  | [] => 0
  | d :: r => uptoBulk d + uptoBulkAll r
def uptoBulkEntries {H : Type} : List (Lit × DataW H) → Nat
  | [] => 0
  | x :: r => uptoBulkEntry x + uptoBulkEntries r
def uptoBulkEntry {H : Type} : Lit × DataW H → Nat
  | (.string bytes, d) => bytes.length + uptoBulk d + 1
  | (_, d) => uptoBulk d + 1
 end
def uptoSmall : (H : Type) → List (DataW H) → Bool := fun _ ds => decide (uptoBulkAll ds ≤ 1048576)
def OpenSpec.upto (s : _root_.Go.ChangeSpec) : _root_.Go.OpenSpec := { _root_.Go.OpenSpec.ofChange s with cond := some uptoSmall }

/-- 'cloverleaflaw07.LevelKept', WHERE WHAT IT READS IS OF BULK AT MOST 1048576: true; the input reads as it did. -/
def levelKeptUptoRow : OpenClaim := { program := "ytbdleggmdbihnaa", sum := "217af1a23b5fcfd14955c2ccdcfd716a8db3da397eaceb540ae9b8b17663bd3b", func := "cloverleaf/cloverleaflaw07.LevelKept", spec := "levelKept", unfollowed := true, recurses := true, apart := false, narrowed := true }
def LevelKeptUptoSaid : Prop := levelKeptUptoRow.holds Try.pinned (OpenSpec.upto levelKeptSpec)

/-- 'cloverleaflaw07.LevelAnomalies', WHERE WHAT IT READS IS OF BULK AT MOST 1048576: true; the input reads as it did. -/
def levelAnomaliesUptoRow : OpenClaim := { program := "ytbdleggmdbihnaa", sum := "217af1a23b5fcfd14955c2ccdcfd716a8db3da397eaceb540ae9b8b17663bd3b", func := "cloverleaf/cloverleaflaw07.LevelAnomalies", spec := "levelAnomalies", unfollowed := true, recurses := true, apart := false, narrowed := true }
def LevelAnomaliesUptoSaid : Prop := levelAnomaliesUptoRow.holds Try.pinned (OpenSpec.upto levelAnomaliesSpec)

/-- 'cloverleaflaw07.LevelCrossed', WHERE WHAT IT READS IS OF BULK AT MOST 1048576: true; the input reads as it did. -/
def levelCrossedUptoRow : OpenClaim := { program := "ytbdleggmdbihnaa", sum := "217af1a23b5fcfd14955c2ccdcfd716a8db3da397eaceb540ae9b8b17663bd3b", func := "cloverleaf/cloverleaflaw07.LevelCrossed", spec := "levelCrossed", unfollowed := true, recurses := true, apart := false, narrowed := true }
def LevelCrossedUptoSaid : Prop := levelCrossedUptoRow.holds Try.pinned (OpenSpec.upto levelCrossedSpec)

/-- 'cloverleaflaw07.LevelFlows', WHERE WHAT IT READS IS OF BULK AT MOST 1048576: true; the input reads as it did. -/
def levelFlowsUptoRow : OpenClaim := { program := "ytbdleggmdbihnaa", sum := "217af1a23b5fcfd14955c2ccdcfd716a8db3da397eaceb540ae9b8b17663bd3b", func := "cloverleaf/cloverleaflaw07.LevelFlows", spec := "levelFlows", unfollowed := true, recurses := true, apart := false, narrowed := true }
def LevelFlowsUptoSaid : Prop := levelFlowsUptoRow.holds Try.pinned (OpenSpec.upto levelFlowsSpec)

end Rows
end Go.Proofs.Ytbdleggmdbihnaa
