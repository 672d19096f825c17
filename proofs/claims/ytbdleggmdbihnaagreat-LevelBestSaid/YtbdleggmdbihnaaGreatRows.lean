/-
  No cell of these rows narrows 'for every input' (looked for: loops, veiled, ifaces, maps, wideKeys, modest, calm, conditions, laid).
  DERIVED. THE GIVEN ROWS OF THIS SEAT. 4 by the template 'for every input the law returns true; each argument reads behind the call as it read before'; 0 by the template 'total and deterministic' (their statements: YtbdleggmdbihnaaGreatTotals.lean).
  GIVEN WITH THE SEED: the statements are not yours to turn. If you find one false, say at which input.
  Laid BY PROGRAM, IN A SANDBOX (cutbox-rows.mjs): the forced cells as the released guide's own fill.sh prints them over the translation dc966bd97b79514e… (all of the seat's roots in one cut). By AI agents, Wed Nov 11 2026. No macro, syntax, notation, axiom, sorry.
-/
import Derived.Test.YtbdleggmdbihnaaGreatChecked
import GoSem.Claim
import GoSem.ClaimJoined
import GoSem.ClaimMapViews
import Derived.JoinedTies
import Derived.KernelRfl
namespace Go.Proofs.YtbdleggmdbihnaaGreat
/- THE CELL 'sum', in the pinned program and in every row, IS THE sha256 OF THE DUMP (.gsa) THAT YtbdleggmdbihnaaGreatProg.lean LOADS. Nothing in Lean hashes anything: it is a label: what it is worth is what the hold of that sum in a sandbox is worth. -/
noncomputable def Tryz.pinned : Pinned := { name := "ytbdleggmdbihnaagreat", sum := "dc966bd97b79514eb821724186c95dda287415f2311ff5b2cef08ba084675a00", checked := Tryz.checked }
namespace Rows
def none {H : Type} : Left H := { results := [], args := [] }

/-- 'cloverleaflaw07.LevelBest': WHATEVER THE INPUT: true; the input reads as it did. -/
def levelBestSpec : ChangeSpec := { name := "levelBest", fn := fun _ => fun
  | [d] => { results := [.lit (.bool true)], args := [d] }
  | _ => none }
def levelBestRow : OpenClaim := { program := "ytbdleggmdbihnaagreat", sum := "dc966bd97b79514eb821724186c95dda287415f2311ff5b2cef08ba084675a00", func := "cloverleaf/cloverleaflaw07.LevelBest", spec := "levelBest", unfollowed := true, recurses := true, apart := false }
def LevelBestSaid : Prop := levelBestRow.holds Tryz.pinned (OpenSpec.ofChange levelBestSpec)

/-- ITS FALSE NEIGHBOUR: 'it returns false'. Refute it at one input. -/
def levelBestWrong : ChangeSpec := { name := "levelBest", fn := fun _ => fun
  | [d] => { results := [.lit (.bool false)], args := [d] }
  | _ => none }
def LevelBestWrongFalsely : Prop := levelBestRow.holds Tryz.pinned (OpenSpec.ofChange levelBestWrong)

/-- 'cloverleaflaw07.LevelTracks': WHATEVER THE INPUT: true; the input reads as it did. -/
def levelTracksSpec : ChangeSpec := { name := "levelTracks", fn := fun _ => fun
  | [d1, d2, d3] => { results := [.lit (.bool true)], args := [d1, d2, d3] }
  | _ => none }
def levelTracksRow : OpenClaim := { program := "ytbdleggmdbihnaagreat", sum := "dc966bd97b79514eb821724186c95dda287415f2311ff5b2cef08ba084675a00", func := "cloverleaf/cloverleaflaw07.LevelTracks", spec := "levelTracks", unfollowed := true, recurses := true, apart := false }
def LevelTracksSaid : Prop := levelTracksRow.holds Tryz.pinned (OpenSpec.ofChange levelTracksSpec)

/-- ITS FALSE NEIGHBOUR: 'it returns false'. Refute it at one input. -/
def levelTracksWrong : ChangeSpec := { name := "levelTracks", fn := fun _ => fun
  | [d1, d2, d3] => { results := [.lit (.bool false)], args := [d1, d2, d3] }
  | _ => none }
def LevelTracksWrongFalsely : Prop := levelTracksRow.holds Tryz.pinned (OpenSpec.ofChange levelTracksWrong)

/-- 'cloverleaflaw07.LevelNets': WHATEVER THE INPUT: true; the input reads as it did. -/
def levelNetsSpec : ChangeSpec := { name := "levelNets", fn := fun _ => fun
  | [d1, d2] => { results := [.lit (.bool true)], args := [d1, d2] }
  | _ => none }
def levelNetsRow : OpenClaim := { program := "ytbdleggmdbihnaagreat", sum := "dc966bd97b79514eb821724186c95dda287415f2311ff5b2cef08ba084675a00", func := "cloverleaf/cloverleaflaw07.LevelNets", spec := "levelNets", unfollowed := true, recurses := true, apart := false }
def LevelNetsSaid : Prop := levelNetsRow.holds Tryz.pinned (OpenSpec.ofChange levelNetsSpec)

/-- ITS FALSE NEIGHBOUR: 'it returns false'. Refute it at one input. -/
def levelNetsWrong : ChangeSpec := { name := "levelNets", fn := fun _ => fun
  | [d1, d2] => { results := [.lit (.bool false)], args := [d1, d2] }
  | _ => none }
def LevelNetsWrongFalsely : Prop := levelNetsRow.holds Tryz.pinned (OpenSpec.ofChange levelNetsWrong)

/-- 'cloverleaflaw07.LevelNoCheaper': WHATEVER THE INPUT: true; the input reads as it did. -/
def levelNoCheaperSpec : ChangeSpec := { name := "levelNoCheaper", fn := fun _ => fun
  | [d1, d2, d3] => { results := [.lit (.bool true)], args := [d1, d2, d3] }
  | _ => none }
def levelNoCheaperRow : OpenClaim := { program := "ytbdleggmdbihnaagreat", sum := "dc966bd97b79514eb821724186c95dda287415f2311ff5b2cef08ba084675a00", func := "cloverleaf/cloverleaflaw07.LevelNoCheaper", spec := "levelNoCheaper", unfollowed := true, recurses := true, apart := false }
def LevelNoCheaperSaid : Prop := levelNoCheaperRow.holds Tryz.pinned (OpenSpec.ofChange levelNoCheaperSpec)

/-- ITS FALSE NEIGHBOUR: 'it returns false'. Refute it at one input. -/
def levelNoCheaperWrong : ChangeSpec := { name := "levelNoCheaper", fn := fun _ => fun
  | [d1, d2, d3] => { results := [.lit (.bool false)], args := [d1, d2, d3] }
  | _ => none }
def LevelNoCheaperWrongFalsely : Prop := levelNoCheaperRow.holds Tryz.pinned (OpenSpec.ofChange levelNoCheaperWrong)

/- THE SECOND FORM. 'bulk': how many values and letters a reading holds, each counted each time it is reached (what is shared counts as often as it is met; a slice's spare places count too). A statement '..UptoSaid' is the law's where the arguments, and the package variables that the reading takes, are together of bulk at most 1048576: NARROWER than '..Said'. Prove '..Said' where nothing that the law and all that it calls make is longer than what came in: it says more and counts as full. Else prove '..UptoSaid'. A law counts once. -/
mutual
def uptoBulk {H : Type} : DataW H → Nat
  | .lit (.string bytes) => bytes.length + 1
  | .lit _ => 1
  | .nil => 1
  | .ptr d => uptoBulk d + 1
  | .slice elems spare => uptoBulkAll elems + uptoBulkAll spare + 1
  | .agg parts => uptoBulkAll parts + 1
  | .iface _ d => uptoBulk d + 1
  | .map entries => uptoBulkEntries entries + 1
  | .held _ => 1
def uptoBulkAll {H : Type} : List (DataW H) → Nat
  | [] => 0
  | d :: r => uptoBulk d + uptoBulkAll r
def uptoBulkEntries {H : Type} : List (Lit × DataW H) → Nat
  | [] => 0
  | x :: r => uptoBulkEntry x + uptoBulkEntries r
def uptoBulkEntry {H : Type} : Lit × DataW H → Nat
  | (.string bytes, d) => bytes.length + uptoBulk d + 1
  | (_, d) => uptoBulk d + 1
 end
def uptoSmall : (H : Type) → List (DataW H) → Bool := fun _ ds => decide (uptoBulkAll ds ≤ 1048576)
def OpenSpec.upto (s : _root_.Go.ChangeSpec) : _root_.Go.OpenSpec := { _root_.Go.OpenSpec.ofChange s with cond := some uptoSmall }

/-- 'cloverleaflaw07.LevelBest', WHERE WHAT IT READS IS OF BULK AT MOST 1048576: true; the input reads as it did. -/
def levelBestUptoRow : OpenClaim := { program := "ytbdleggmdbihnaagreat", sum := "dc966bd97b79514eb821724186c95dda287415f2311ff5b2cef08ba084675a00", func := "cloverleaf/cloverleaflaw07.LevelBest", spec := "levelBest", unfollowed := true, recurses := true, apart := false, narrowed := true }
def LevelBestUptoSaid : Prop := levelBestUptoRow.holds Tryz.pinned (OpenSpec.upto levelBestSpec)

/-- 'cloverleaflaw07.LevelTracks', WHERE WHAT IT READS IS OF BULK AT MOST 1048576: true; the input reads as it did. -/
def levelTracksUptoRow : OpenClaim := { program := "ytbdleggmdbihnaagreat", sum := "dc966bd97b79514eb821724186c95dda287415f2311ff5b2cef08ba084675a00", func := "cloverleaf/cloverleaflaw07.LevelTracks", spec := "levelTracks", unfollowed := true, recurses := true, apart := false, narrowed := true }
def LevelTracksUptoSaid : Prop := levelTracksUptoRow.holds Tryz.pinned (OpenSpec.upto levelTracksSpec)

/-- 'cloverleaflaw07.LevelNets', WHERE WHAT IT READS IS OF BULK AT MOST 1048576: true; the input reads as it did. -/
def levelNetsUptoRow : OpenClaim := { program := "ytbdleggmdbihnaagreat", sum := "dc966bd97b79514eb821724186c95dda287415f2311ff5b2cef08ba084675a00", func := "cloverleaf/cloverleaflaw07.LevelNets", spec := "levelNets", unfollowed := true, recurses := true, apart := false, narrowed := true }
def LevelNetsUptoSaid : Prop := levelNetsUptoRow.holds Tryz.pinned (OpenSpec.upto levelNetsSpec)

/-- 'cloverleaflaw07.LevelNoCheaper', WHERE WHAT IT READS IS OF BULK AT MOST 1048576: true; the input reads as it did. -/
def levelNoCheaperUptoRow : OpenClaim := { program := "ytbdleggmdbihnaagreat", sum := "dc966bd97b79514eb821724186c95dda287415f2311ff5b2cef08ba084675a00", func := "cloverleaf/cloverleaflaw07.LevelNoCheaper", spec := "levelNoCheaper", unfollowed := true, recurses := true, apart := false, narrowed := true }
def LevelNoCheaperUptoSaid : Prop := levelNoCheaperUptoRow.holds Tryz.pinned (OpenSpec.upto levelNoCheaperSpec)

end Rows
end Go.Proofs.YtbdleggmdbihnaaGreat
