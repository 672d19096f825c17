/-
  NARROWER THAN 'FOR EVERY INPUT', by the rows' own cells (each row's printed sentence says how): TargetSets: laid · TargetCuts: laid · TargetPrices: laid · TargetBounded: laid · TargetDates: laid · TargetBodies: laid · TargetEverySlope: laid · TargetHoles: laid · TargetCalls: laid · TargetHonest: laid · TargetKnown: laid · TargetEveryBody: laid.
  DERIVED. THE GIVEN ROWS OF THIS SEAT. 12 by the template 'for every input the law returns true; each argument reads behind the call as it read before'; 0 by the template 'total and deterministic' (their statements: YtnmgpbihknjdjaaGreatDoorTotals.lean).
  GIVEN WITH THE SEED: the statements are not yours to turn. If you find one false, say at which input.
  Laid BY PROGRAM, IN A SANDBOX (cutbox-rows.mjs): the forced cells as the released guide's own fill.sh prints them over the translation a159c18741c40639… (all of the seat's roots in one cut). By AI agents, Wed Nov 11 2026. No macro, syntax, notation, axiom, sorry.
-/
import Derived.Test.YtnmgpbihknjdjaaGreatDoorChecked
import GoSem.Claim
import GoSem.ClaimJoined
import GoSem.ClaimMapViews
import Derived.JoinedTies
import Derived.KernelRfl
namespace Go.Proofs.YtnmgpbihknjdjaaGreatDoor
/- THE CELL 'sum', in the pinned program and in every row, IS THE sha256 OF THE DUMP (.gsa) THAT YtnmgpbihknjdjaaGreatDoorProg.lean LOADS. Nothing in Lean hashes anything: it is a label: what it is worth is what the hold of that sum in a sandbox is worth. -/
noncomputable def Tryz.pinned : Pinned := { name := "ytnmgpbihknjdjaagreatdoor", sum := "a159c18741c406398fc5301b4c8077493827be26f1f8659e520097838abe68a8", checked := Tryz.checked }
namespace Rows
def none {H : Type} : Left H := { results := [], args := [] }

/- WHAT THE LISTED PACKAGE-LEVEL VARIABLES READ AS WHEN THE CALL BEGINS. Each datum BY PROGRAM (the guide's laid-datum.mjs) off the statement by which the dump's own 'gosem.cut.vars' lays the variable. In a bare row this is a premise. The card (YtnmgpbihknjdjaaGreatDoorCards.lean) ties it to the program's text. -/
def laid_math_bits_deBruijn32tab {H : Type} : DataW H := .agg [.lit (.int .u8 0), .lit (.int .u8 1), .lit (.int .u8 28), .lit (.int .u8 2), .lit (.int .u8 29), .lit (.int .u8 14), .lit (.int .u8 24), .lit (.int .u8 3), .lit (.int .u8 30), .lit (.int .u8 22), .lit (.int .u8 20), .lit (.int .u8 15), .lit (.int .u8 25), .lit (.int .u8 17), .lit (.int .u8 4), .lit (.int .u8 8), .lit (.int .u8 31), .lit (.int .u8 27), .lit (.int .u8 13), .lit (.int .u8 23), .lit (.int .u8 21), .lit (.int .u8 19), .lit (.int .u8 16), .lit (.int .u8 7), .lit (.int .u8 26), .lit (.int .u8 12), .lit (.int .u8 18), .lit (.int .u8 6), .lit (.int .u8 11), .lit (.int .u8 5), .lit (.int .u8 10), .lit (.int .u8 9)]
def laid_math_bits_deBruijn64tab {H : Type} : DataW H := .agg [.lit (.int .u8 0), .lit (.int .u8 1), .lit (.int .u8 56), .lit (.int .u8 2), .lit (.int .u8 57), .lit (.int .u8 49), .lit (.int .u8 28), .lit (.int .u8 3), .lit (.int .u8 61), .lit (.int .u8 58), .lit (.int .u8 42), .lit (.int .u8 50), .lit (.int .u8 38), .lit (.int .u8 29), .lit (.int .u8 17), .lit (.int .u8 4), .lit (.int .u8 62), .lit (.int .u8 47), .lit (.int .u8 59), .lit (.int .u8 36), .lit (.int .u8 45), .lit (.int .u8 43), .lit (.int .u8 51), .lit (.int .u8 22), .lit (.int .u8 53), .lit (.int .u8 39), .lit (.int .u8 33), .lit (.int .u8 30), .lit (.int .u8 24), .lit (.int .u8 18), .lit (.int .u8 12), .lit (.int .u8 5), .lit (.int .u8 63), .lit (.int .u8 55), .lit (.int .u8 48), .lit (.int .u8 27), .lit (.int .u8 60), .lit (.int .u8 41), .lit (.int .u8 37), .lit (.int .u8 16), .lit (.int .u8 46), .lit (.int .u8 35), .lit (.int .u8 44), .lit (.int .u8 21), .lit (.int .u8 52), .lit (.int .u8 32), .lit (.int .u8 23), .lit (.int .u8 11), .lit (.int .u8 54), .lit (.int .u8 26), .lit (.int .u8 40), .lit (.int .u8 15), .lit (.int .u8 34), .lit (.int .u8 20), .lit (.int .u8 31), .lit (.int .u8 10), .lit (.int .u8 25), .lit (.int .u8 14), .lit (.int .u8 19), .lit (.int .u8 9), .lit (.int .u8 13), .lit (.int .u8 8), .lit (.int .u8 7), .lit (.int .u8 6)]

/-- 'cloverleaflaw09.TargetSets': WHATEVER THE INPUT: true; the input reads as it did. -/
def targetSetsSpec : ChangeSpec := { name := "targetSets", fn := fun _ => fun
  | [d1, d2] => { results := [.lit (.bool true)], args := [d1, d2] }
  | _ => none }
def targetSetsRow : OpenClaim := { program := "ytnmgpbihknjdjaagreatdoor", sum := "a159c18741c406398fc5301b4c8077493827be26f1f8659e520097838abe68a8", func := "cloverleaf/cloverleaflaw09.TargetSets", spec := "targetSets", unfollowed := true, recurses := true, named := ["math/bits.deBruijn32tab", "math/bits.deBruijn64tab"], plainKeys := false, apart := false, laid := [("math/bits.deBruijn32tab", laid_math_bits_deBruijn32tab), ("math/bits.deBruijn64tab", laid_math_bits_deBruijn64tab)] }
def TargetSetsSaid : Prop := targetSetsRow.holds Tryz.pinned (OpenSpec.ofChange targetSetsSpec)

/-- ITS FALSE NEIGHBOUR: 'it returns false'. Refute it at one input. -/
def targetSetsWrong : ChangeSpec := { name := "targetSets", fn := fun _ => fun
  | [d1, d2] => { results := [.lit (.bool false)], args := [d1, d2] }
  | _ => none }
def TargetSetsWrongFalsely : Prop := targetSetsRow.holds Tryz.pinned (OpenSpec.ofChange targetSetsWrong)

/-- 'cloverleaflaw09.TargetCuts': WHATEVER THE INPUT: true; the input reads as it did. -/
def targetCutsSpec : ChangeSpec := { name := "targetCuts", fn := fun _ => fun
  | [d1, d2, d3] => { results := [.lit (.bool true)], args := [d1, d2, d3] }
  | _ => none }
def targetCutsRow : OpenClaim := { program := "ytnmgpbihknjdjaagreatdoor", sum := "a159c18741c406398fc5301b4c8077493827be26f1f8659e520097838abe68a8", func := "cloverleaf/cloverleaflaw09.TargetCuts", spec := "targetCuts", unfollowed := true, recurses := true, named := ["math/bits.deBruijn32tab", "math/bits.deBruijn64tab"], plainKeys := false, apart := false, laid := [("math/bits.deBruijn32tab", laid_math_bits_deBruijn32tab), ("math/bits.deBruijn64tab", laid_math_bits_deBruijn64tab)] }
def TargetCutsSaid : Prop := targetCutsRow.holds Tryz.pinned (OpenSpec.ofChange targetCutsSpec)

/-- ITS FALSE NEIGHBOUR: 'it returns false'. Refute it at one input. -/
def targetCutsWrong : ChangeSpec := { name := "targetCuts", fn := fun _ => fun
  | [d1, d2, d3] => { results := [.lit (.bool false)], args := [d1, d2, d3] }
  | _ => none }
def TargetCutsWrongFalsely : Prop := targetCutsRow.holds Tryz.pinned (OpenSpec.ofChange targetCutsWrong)

/-- 'cloverleaflaw09.TargetPrices': WHATEVER THE INPUT: true; the input reads as it did. -/
def targetPricesSpec : ChangeSpec := { name := "targetPrices", fn := fun _ => fun
  | [d1, d2, d3] => { results := [.lit (.bool true)], args := [d1, d2, d3] }
  | _ => none }
def targetPricesRow : OpenClaim := { program := "ytnmgpbihknjdjaagreatdoor", sum := "a159c18741c406398fc5301b4c8077493827be26f1f8659e520097838abe68a8", func := "cloverleaf/cloverleaflaw09.TargetPrices", spec := "targetPrices", unfollowed := true, recurses := true, named := ["math/bits.deBruijn32tab", "math/bits.deBruijn64tab"], plainKeys := false, apart := false, laid := [("math/bits.deBruijn32tab", laid_math_bits_deBruijn32tab), ("math/bits.deBruijn64tab", laid_math_bits_deBruijn64tab)] }
def TargetPricesSaid : Prop := targetPricesRow.holds Tryz.pinned (OpenSpec.ofChange targetPricesSpec)

/-- ITS FALSE NEIGHBOUR: 'it returns false'. Refute it at one input. -/
def targetPricesWrong : ChangeSpec := { name := "targetPrices", fn := fun _ => fun
  | [d1, d2, d3] => { results := [.lit (.bool false)], args := [d1, d2, d3] }
  | _ => none }
def TargetPricesWrongFalsely : Prop := targetPricesRow.holds Tryz.pinned (OpenSpec.ofChange targetPricesWrong)

/-- 'cloverleaflaw09.TargetBounded': WHATEVER THE INPUT: true; the input reads as it did. -/
def targetBoundedSpec : ChangeSpec := { name := "targetBounded", fn := fun _ => fun
  | [d1, d2, d3] => { results := [.lit (.bool true)], args := [d1, d2, d3] }
  | _ => none }
def targetBoundedRow : OpenClaim := { program := "ytnmgpbihknjdjaagreatdoor", sum := "a159c18741c406398fc5301b4c8077493827be26f1f8659e520097838abe68a8", func := "cloverleaf/cloverleaflaw09.TargetBounded", spec := "targetBounded", unfollowed := true, recurses := true, named := ["math/bits.deBruijn32tab", "math/bits.deBruijn64tab"], plainKeys := false, apart := false, laid := [("math/bits.deBruijn32tab", laid_math_bits_deBruijn32tab), ("math/bits.deBruijn64tab", laid_math_bits_deBruijn64tab)] }
def TargetBoundedSaid : Prop := targetBoundedRow.holds Tryz.pinned (OpenSpec.ofChange targetBoundedSpec)

/-- ITS FALSE NEIGHBOUR: 'it returns false'. Refute it at one input. -/
def targetBoundedWrong : ChangeSpec := { name := "targetBounded", fn := fun _ => fun
  | [d1, d2, d3] => { results := [.lit (.bool false)], args := [d1, d2, d3] }
  | _ => none }
def TargetBoundedWrongFalsely : Prop := targetBoundedRow.holds Tryz.pinned (OpenSpec.ofChange targetBoundedWrong)

/-- 'cloverleaflaw09.TargetDates': WHATEVER THE INPUT: true; the input reads as it did. -/
def targetDatesSpec : ChangeSpec := { name := "targetDates", fn := fun _ => fun
  | [d1, d2, d3] => { results := [.lit (.bool true)], args := [d1, d2, d3] }
  | _ => none }
def targetDatesRow : OpenClaim := { program := "ytnmgpbihknjdjaagreatdoor", sum := "a159c18741c406398fc5301b4c8077493827be26f1f8659e520097838abe68a8", func := "cloverleaf/cloverleaflaw09.TargetDates", spec := "targetDates", unfollowed := true, recurses := true, named := ["math/bits.deBruijn32tab", "math/bits.deBruijn64tab"], plainKeys := false, apart := false, laid := [("math/bits.deBruijn32tab", laid_math_bits_deBruijn32tab), ("math/bits.deBruijn64tab", laid_math_bits_deBruijn64tab)] }
def TargetDatesSaid : Prop := targetDatesRow.holds Tryz.pinned (OpenSpec.ofChange targetDatesSpec)

/-- ITS FALSE NEIGHBOUR: 'it returns false'. Refute it at one input. -/
def targetDatesWrong : ChangeSpec := { name := "targetDates", fn := fun _ => fun
  | [d1, d2, d3] => { results := [.lit (.bool false)], args := [d1, d2, d3] }
  | _ => none }
def TargetDatesWrongFalsely : Prop := targetDatesRow.holds Tryz.pinned (OpenSpec.ofChange targetDatesWrong)

/-- 'cloverleaflaw09.TargetBodies': WHATEVER THE INPUT: true; the input reads as it did. -/
def targetBodiesSpec : ChangeSpec := { name := "targetBodies", fn := fun _ => fun
  | [d1, d2] => { results := [.lit (.bool true)], args := [d1, d2] }
  | _ => none }
def targetBodiesRow : OpenClaim := { program := "ytnmgpbihknjdjaagreatdoor", sum := "a159c18741c406398fc5301b4c8077493827be26f1f8659e520097838abe68a8", func := "cloverleaf/cloverleaflaw09.TargetBodies", spec := "targetBodies", unfollowed := true, recurses := true, named := ["math/bits.deBruijn32tab", "math/bits.deBruijn64tab"], plainKeys := false, apart := false, laid := [("math/bits.deBruijn32tab", laid_math_bits_deBruijn32tab), ("math/bits.deBruijn64tab", laid_math_bits_deBruijn64tab)] }
def TargetBodiesSaid : Prop := targetBodiesRow.holds Tryz.pinned (OpenSpec.ofChange targetBodiesSpec)

/-- ITS FALSE NEIGHBOUR: 'it returns false'. Refute it at one input. -/
def targetBodiesWrong : ChangeSpec := { name := "targetBodies", fn := fun _ => fun
  | [d1, d2] => { results := [.lit (.bool false)], args := [d1, d2] }
  | _ => none }
def TargetBodiesWrongFalsely : Prop := targetBodiesRow.holds Tryz.pinned (OpenSpec.ofChange targetBodiesWrong)

/-- 'cloverleaflaw09.TargetEverySlope': WHATEVER THE INPUT: true; the input reads as it did. -/
def targetEverySlopeSpec : ChangeSpec := { name := "targetEverySlope", fn := fun _ => fun
  | [d1, d2, d3] => { results := [.lit (.bool true)], args := [d1, d2, d3] }
  | _ => none }
def targetEverySlopeRow : OpenClaim := { program := "ytnmgpbihknjdjaagreatdoor", sum := "a159c18741c406398fc5301b4c8077493827be26f1f8659e520097838abe68a8", func := "cloverleaf/cloverleaflaw09.TargetEverySlope", spec := "targetEverySlope", unfollowed := true, recurses := true, named := ["math/bits.deBruijn32tab", "math/bits.deBruijn64tab"], plainKeys := false, apart := false, laid := [("math/bits.deBruijn32tab", laid_math_bits_deBruijn32tab), ("math/bits.deBruijn64tab", laid_math_bits_deBruijn64tab)] }
def TargetEverySlopeSaid : Prop := targetEverySlopeRow.holds Tryz.pinned (OpenSpec.ofChange targetEverySlopeSpec)

/-- ITS FALSE NEIGHBOUR: 'it returns false'. Refute it at one input. -/
def targetEverySlopeWrong : ChangeSpec := { name := "targetEverySlope", fn := fun _ => fun
  | [d1, d2, d3] => { results := [.lit (.bool false)], args := [d1, d2, d3] }
  | _ => none }
def TargetEverySlopeWrongFalsely : Prop := targetEverySlopeRow.holds Tryz.pinned (OpenSpec.ofChange targetEverySlopeWrong)

/-- 'cloverleaflaw09.TargetHoles': WHATEVER THE INPUT: true; the input reads as it did. -/
def targetHolesSpec : ChangeSpec := { name := "targetHoles", fn := fun _ => fun
  | [d1, d2, d3] => { results := [.lit (.bool true)], args := [d1, d2, d3] }
  | _ => none }
def targetHolesRow : OpenClaim := { program := "ytnmgpbihknjdjaagreatdoor", sum := "a159c18741c406398fc5301b4c8077493827be26f1f8659e520097838abe68a8", func := "cloverleaf/cloverleaflaw09.TargetHoles", spec := "targetHoles", unfollowed := true, recurses := true, named := ["math/bits.deBruijn32tab", "math/bits.deBruijn64tab"], plainKeys := false, apart := false, laid := [("math/bits.deBruijn32tab", laid_math_bits_deBruijn32tab), ("math/bits.deBruijn64tab", laid_math_bits_deBruijn64tab)] }
def TargetHolesSaid : Prop := targetHolesRow.holds Tryz.pinned (OpenSpec.ofChange targetHolesSpec)

/-- ITS FALSE NEIGHBOUR: 'it returns false'. Refute it at one input. -/
def targetHolesWrong : ChangeSpec := { name := "targetHoles", fn := fun _ => fun
  | [d1, d2, d3] => { results := [.lit (.bool false)], args := [d1, d2, d3] }
  | _ => none }
def TargetHolesWrongFalsely : Prop := targetHolesRow.holds Tryz.pinned (OpenSpec.ofChange targetHolesWrong)

/-- 'cloverleaflaw09.TargetCalls': WHATEVER THE INPUT: true; the input reads as it did. -/
def targetCallsSpec : ChangeSpec := { name := "targetCalls", fn := fun _ => fun
  | [d1, d2, d3] => { results := [.lit (.bool true)], args := [d1, d2, d3] }
  | _ => none }
def targetCallsRow : OpenClaim := { program := "ytnmgpbihknjdjaagreatdoor", sum := "a159c18741c406398fc5301b4c8077493827be26f1f8659e520097838abe68a8", func := "cloverleaf/cloverleaflaw09.TargetCalls", spec := "targetCalls", unfollowed := true, recurses := true, named := ["math/bits.deBruijn32tab", "math/bits.deBruijn64tab"], plainKeys := false, apart := false, laid := [("math/bits.deBruijn32tab", laid_math_bits_deBruijn32tab), ("math/bits.deBruijn64tab", laid_math_bits_deBruijn64tab)] }
def TargetCallsSaid : Prop := targetCallsRow.holds Tryz.pinned (OpenSpec.ofChange targetCallsSpec)

/-- ITS FALSE NEIGHBOUR: 'it returns false'. Refute it at one input. -/
def targetCallsWrong : ChangeSpec := { name := "targetCalls", fn := fun _ => fun
  | [d1, d2, d3] => { results := [.lit (.bool false)], args := [d1, d2, d3] }
  | _ => none }
def TargetCallsWrongFalsely : Prop := targetCallsRow.holds Tryz.pinned (OpenSpec.ofChange targetCallsWrong)

/-- 'cloverleaflaw09.TargetHonest': WHATEVER THE INPUT: true; the input reads as it did. -/
def targetHonestSpec : ChangeSpec := { name := "targetHonest", fn := fun _ => fun
  | [d1, d2, d3] => { results := [.lit (.bool true)], args := [d1, d2, d3] }
  | _ => none }
def targetHonestRow : OpenClaim := { program := "ytnmgpbihknjdjaagreatdoor", sum := "a159c18741c406398fc5301b4c8077493827be26f1f8659e520097838abe68a8", func := "cloverleaf/cloverleaflaw09.TargetHonest", spec := "targetHonest", unfollowed := true, recurses := true, named := ["math/bits.deBruijn32tab", "math/bits.deBruijn64tab"], plainKeys := false, apart := false, laid := [("math/bits.deBruijn32tab", laid_math_bits_deBruijn32tab), ("math/bits.deBruijn64tab", laid_math_bits_deBruijn64tab)] }
def TargetHonestSaid : Prop := targetHonestRow.holds Tryz.pinned (OpenSpec.ofChange targetHonestSpec)

/-- ITS FALSE NEIGHBOUR: 'it returns false'. Refute it at one input. -/
def targetHonestWrong : ChangeSpec := { name := "targetHonest", fn := fun _ => fun
  | [d1, d2, d3] => { results := [.lit (.bool false)], args := [d1, d2, d3] }
  | _ => none }
def TargetHonestWrongFalsely : Prop := targetHonestRow.holds Tryz.pinned (OpenSpec.ofChange targetHonestWrong)

/-- 'cloverleaflaw09.TargetKnown': WHATEVER THE INPUT: true; the input reads as it did. -/
def targetKnownSpec : ChangeSpec := { name := "targetKnown", fn := fun _ => fun
  | [d] => { results := [.lit (.bool true)], args := [d] }
  | _ => none }
def targetKnownRow : OpenClaim := { program := "ytnmgpbihknjdjaagreatdoor", sum := "a159c18741c406398fc5301b4c8077493827be26f1f8659e520097838abe68a8", func := "cloverleaf/cloverleaflaw09.TargetKnown", spec := "targetKnown", unfollowed := true, recurses := true, named := ["math/bits.deBruijn32tab", "math/bits.deBruijn64tab"], plainKeys := false, apart := false, laid := [("math/bits.deBruijn32tab", laid_math_bits_deBruijn32tab), ("math/bits.deBruijn64tab", laid_math_bits_deBruijn64tab)] }
def TargetKnownSaid : Prop := targetKnownRow.holds Tryz.pinned (OpenSpec.ofChange targetKnownSpec)

/-- ITS FALSE NEIGHBOUR: 'it returns false'. Refute it at one input. -/
def targetKnownWrong : ChangeSpec := { name := "targetKnown", fn := fun _ => fun
  | [d] => { results := [.lit (.bool false)], args := [d] }
  | _ => none }
def TargetKnownWrongFalsely : Prop := targetKnownRow.holds Tryz.pinned (OpenSpec.ofChange targetKnownWrong)

/-- 'cloverleaflaw09.TargetEveryBody': WHATEVER THE INPUT: true; the input reads as it did. -/
def targetEveryBodySpec : ChangeSpec := { name := "targetEveryBody", fn := fun _ => fun
  | [d1, d2] => { results := [.lit (.bool true)], args := [d1, d2] }
  | _ => none }
def targetEveryBodyRow : OpenClaim := { program := "ytnmgpbihknjdjaagreatdoor", sum := "a159c18741c406398fc5301b4c8077493827be26f1f8659e520097838abe68a8", func := "cloverleaf/cloverleaflaw09.TargetEveryBody", spec := "targetEveryBody", unfollowed := true, recurses := true, named := ["math/bits.deBruijn32tab", "math/bits.deBruijn64tab"], plainKeys := false, apart := false, laid := [("math/bits.deBruijn32tab", laid_math_bits_deBruijn32tab), ("math/bits.deBruijn64tab", laid_math_bits_deBruijn64tab)] }
def TargetEveryBodySaid : Prop := targetEveryBodyRow.holds Tryz.pinned (OpenSpec.ofChange targetEveryBodySpec)

/-- ITS FALSE NEIGHBOUR: 'it returns false'. Refute it at one input. -/
def targetEveryBodyWrong : ChangeSpec := { name := "targetEveryBody", fn := fun _ => fun
  | [d1, d2] => { results := [.lit (.bool false)], args := [d1, d2] }
  | _ => none }
def TargetEveryBodyWrongFalsely : Prop := targetEveryBodyRow.holds Tryz.pinned (OpenSpec.ofChange targetEveryBodyWrong)

/- THE SECOND FORM. 'bulk': how many values and letters a reading holds, each counted each time it is reached (what is shared counts as often as it is met; a slice's spare places count too). A statement '..UptoSaid' is the law's where the arguments, and the package variables that the reading takes, are together of bulk at most 1048576: NARROWER than '..Said'. Prove '..Said' where nothing that the law and all that it calls make is longer than what came in: it says more and counts as full. Else prove '..UptoSaid'. A law counts once. -/
mutual
def uptoBulk {H : Type} : DataW H → Nat
  | .lit (.string bytes) => bytes.length + 1
  | .lit _ => 1
  | .nil => 1
  | .ptr d => uptoBulk d + 1
  | .slice elems spare => uptoBulkAll elems + uptoBulkAll spare + 1
  | .agg parts => uptoBulkAll parts + 1
  | .iface _ d => uptoBulk d + 1
  | .map entries => uptoBulkEntries entries + 1
  | .held _ => 1
def uptoBulkAll {H : Type} : List (DataW H) → Nat
  | [] => 0
  | d :: r => uptoBulk d + uptoBulkAll r
def uptoBulkEntries {H : Type} : List (Lit × DataW H) → Nat
  | [] => 0
  | x :: r => uptoBulkEntry x + uptoBulkEntries r
def uptoBulkEntry {H : Type} : Lit × DataW H → Nat
  | (.string bytes, d) => bytes.length + uptoBulk d + 1
  | (_, d) => uptoBulk d + 1
 end
def uptoSmall : (H : Type) → List (DataW H) → Bool := fun _ ds => decide (uptoBulkAll ds ≤ 1048576)
def OpenSpec.upto (s : _root_.Go.ChangeSpec) : _root_.Go.OpenSpec := { _root_.Go.OpenSpec.ofChange s with cond := some uptoSmall }

/-- 'cloverleaflaw09.TargetSets', WHERE WHAT IT READS IS OF BULK AT MOST 1048576: true; the input reads as it did. -/
def targetSetsUptoRow : OpenClaim := { program := "ytnmgpbihknjdjaagreatdoor", sum := "a159c18741c406398fc5301b4c8077493827be26f1f8659e520097838abe68a8", func := "cloverleaf/cloverleaflaw09.TargetSets", spec := "targetSets", unfollowed := true, recurses := true, named := ["math/bits.deBruijn32tab", "math/bits.deBruijn64tab"], plainKeys := false, apart := false, laid := [("math/bits.deBruijn32tab", laid_math_bits_deBruijn32tab), ("math/bits.deBruijn64tab", laid_math_bits_deBruijn64tab)], narrowed := true }
def TargetSetsUptoSaid : Prop := targetSetsUptoRow.holds Tryz.pinned (OpenSpec.upto targetSetsSpec)

/-- 'cloverleaflaw09.TargetCuts', WHERE WHAT IT READS IS OF BULK AT MOST 1048576: true; the input reads as it did. -/
def targetCutsUptoRow : OpenClaim := { program := "ytnmgpbihknjdjaagreatdoor", sum := "a159c18741c406398fc5301b4c8077493827be26f1f8659e520097838abe68a8", func := "cloverleaf/cloverleaflaw09.TargetCuts", spec := "targetCuts", unfollowed := true, recurses := true, named := ["math/bits.deBruijn32tab", "math/bits.deBruijn64tab"], plainKeys := false, apart := false, laid := [("math/bits.deBruijn32tab", laid_math_bits_deBruijn32tab), ("math/bits.deBruijn64tab", laid_math_bits_deBruijn64tab)], narrowed := true }
def TargetCutsUptoSaid : Prop := targetCutsUptoRow.holds Tryz.pinned (OpenSpec.upto targetCutsSpec)

/-- 'cloverleaflaw09.TargetPrices', WHERE WHAT IT READS IS OF BULK AT MOST 1048576: true; the input reads as it did. -/
def targetPricesUptoRow : OpenClaim := { program := "ytnmgpbihknjdjaagreatdoor", sum := "a159c18741c406398fc5301b4c8077493827be26f1f8659e520097838abe68a8", func := "cloverleaf/cloverleaflaw09.TargetPrices", spec := "targetPrices", unfollowed := true, recurses := true, named := ["math/bits.deBruijn32tab", "math/bits.deBruijn64tab"], plainKeys := false, apart := false, laid := [("math/bits.deBruijn32tab", laid_math_bits_deBruijn32tab), ("math/bits.deBruijn64tab", laid_math_bits_deBruijn64tab)], narrowed := true }
def TargetPricesUptoSaid : Prop := targetPricesUptoRow.holds Tryz.pinned (OpenSpec.upto targetPricesSpec)

/-- 'cloverleaflaw09.TargetBounded', WHERE WHAT IT READS IS OF BULK AT MOST 1048576: true; the input reads as it did. -/
def targetBoundedUptoRow : OpenClaim := { program := "ytnmgpbihknjdjaagreatdoor", sum := "a159c18741c406398fc5301b4c8077493827be26f1f8659e520097838abe68a8", func := "cloverleaf/cloverleaflaw09.TargetBounded", spec := "targetBounded", unfollowed := true, recurses := true, named := ["math/bits.deBruijn32tab", "math/bits.deBruijn64tab"], plainKeys := false, apart := false, laid := [("math/bits.deBruijn32tab", laid_math_bits_deBruijn32tab), ("math/bits.deBruijn64tab", laid_math_bits_deBruijn64tab)], narrowed := true }
def TargetBoundedUptoSaid : Prop := targetBoundedUptoRow.holds Tryz.pinned (OpenSpec.upto targetBoundedSpec)

/-- 'cloverleaflaw09.TargetDates', WHERE WHAT IT READS IS OF BULK AT MOST 1048576: true; the input reads as it did. -/
def targetDatesUptoRow : OpenClaim := { program := "ytnmgpbihknjdjaagreatdoor", sum := "a159c18741c406398fc5301b4c8077493827be26f1f8659e520097838abe68a8", func := "cloverleaf/cloverleaflaw09.TargetDates", spec := "targetDates", unfollowed := true, recurses := true, named := ["math/bits.deBruijn32tab", "math/bits.deBruijn64tab"], plainKeys := false, apart := false, laid := [("math/bits.deBruijn32tab", laid_math_bits_deBruijn32tab), ("math/bits.deBruijn64tab", laid_math_bits_deBruijn64tab)], narrowed := true }
def TargetDatesUptoSaid : Prop := targetDatesUptoRow.holds Tryz.pinned (OpenSpec.upto targetDatesSpec)

/-- 'cloverleaflaw09.TargetBodies', WHERE WHAT IT READS IS OF BULK AT MOST 1048576: true; the input reads as it did. -/
def targetBodiesUptoRow : OpenClaim := { program := "ytnmgpbihknjdjaagreatdoor", sum := "a159c18741c406398fc5301b4c8077493827be26f1f8659e520097838abe68a8", func := "cloverleaf/cloverleaflaw09.TargetBodies", spec := "targetBodies", unfollowed := true, recurses := true, named := ["math/bits.deBruijn32tab", "math/bits.deBruijn64tab"], plainKeys := false, apart := false, laid := [("math/bits.deBruijn32tab", laid_math_bits_deBruijn32tab), ("math/bits.deBruijn64tab", laid_math_bits_deBruijn64tab)], narrowed := true }
def TargetBodiesUptoSaid : Prop := targetBodiesUptoRow.holds Tryz.pinned (OpenSpec.upto targetBodiesSpec)

/-- 'cloverleaflaw09.TargetEverySlope', WHERE WHAT IT READS IS OF BULK AT MOST 1048576: true; the input reads as it did. -/
def targetEverySlopeUptoRow : OpenClaim := { program := "ytnmgpbihknjdjaagreatdoor", sum := "a159c18741c406398fc5301b4c8077493827be26f1f8659e520097838abe68a8", func := "cloverleaf/cloverleaflaw09.TargetEverySlope", spec := "targetEverySlope", unfollowed := true, recurses := true, named := ["math/bits.deBruijn32tab", "math/bits.deBruijn64tab"], plainKeys := false, apart := false, laid := [("math/bits.deBruijn32tab", laid_math_bits_deBruijn32tab), ("math/bits.deBruijn64tab", laid_math_bits_deBruijn64tab)], narrowed := true }
def TargetEverySlopeUptoSaid : Prop := targetEverySlopeUptoRow.holds Tryz.pinned (OpenSpec.upto targetEverySlopeSpec)

/-- 'cloverleaflaw09.TargetHoles', WHERE WHAT IT READS IS OF BULK AT MOST 1048576: true; the input reads as it did. -/
def targetHolesUptoRow : OpenClaim := { program := "ytnmgpbihknjdjaagreatdoor", sum := "a159c18741c406398fc5301b4c8077493827be26f1f8659e520097838abe68a8", func := "cloverleaf/cloverleaflaw09.TargetHoles", spec := "targetHoles", unfollowed := true, recurses := true, named := ["math/bits.deBruijn32tab", "math/bits.deBruijn64tab"], plainKeys := false, apart := false, laid := [("math/bits.deBruijn32tab", laid_math_bits_deBruijn32tab), ("math/bits.deBruijn64tab", laid_math_bits_deBruijn64tab)], narrowed := true }
def TargetHolesUptoSaid : Prop := targetHolesUptoRow.holds Tryz.pinned (OpenSpec.upto targetHolesSpec)

/-- 'cloverleaflaw09.TargetCalls', WHERE WHAT IT READS IS OF BULK AT MOST 1048576: true; the input reads as it did. -/
def targetCallsUptoRow : OpenClaim := { program := "ytnmgpbihknjdjaagreatdoor", sum := "a159c18741c406398fc5301b4c8077493827be26f1f8659e520097838abe68a8", func := "cloverleaf/cloverleaflaw09.TargetCalls", spec := "targetCalls", unfollowed := true, recurses := true, named := ["math/bits.deBruijn32tab", "math/bits.deBruijn64tab"], plainKeys := false, apart := false, laid := [("math/bits.deBruijn32tab", laid_math_bits_deBruijn32tab), ("math/bits.deBruijn64tab", laid_math_bits_deBruijn64tab)], narrowed := true }
def TargetCallsUptoSaid : Prop := targetCallsUptoRow.holds Tryz.pinned (OpenSpec.upto targetCallsSpec)

/-- 'cloverleaflaw09.TargetHonest', WHERE WHAT IT READS IS OF BULK AT MOST 1048576: true; the input reads as it did. -/
def targetHonestUptoRow : OpenClaim := { program := "ytnmgpbihknjdjaagreatdoor", sum := "a159c18741c406398fc5301b4c8077493827be26f1f8659e520097838abe68a8", func := "cloverleaf/cloverleaflaw09.TargetHonest", spec := "targetHonest", unfollowed := true, recurses := true, named := ["math/bits.deBruijn32tab", "math/bits.deBruijn64tab"], plainKeys := false, apart := false, laid := [("math/bits.deBruijn32tab", laid_math_bits_deBruijn32tab), ("math/bits.deBruijn64tab", laid_math_bits_deBruijn64tab)], narrowed := true }
def TargetHonestUptoSaid : Prop := targetHonestUptoRow.holds Tryz.pinned (OpenSpec.upto targetHonestSpec)

/-- 'cloverleaflaw09.TargetKnown', WHERE WHAT IT READS IS OF BULK AT MOST 1048576: true; the input reads as it did. -/
def targetKnownUptoRow : OpenClaim := { program := "ytnmgpbihknjdjaagreatdoor", sum := "a159c18741c406398fc5301b4c8077493827be26f1f8659e520097838abe68a8", func := "cloverleaf/cloverleaflaw09.TargetKnown", spec := "targetKnown", unfollowed := true, recurses := true, named := ["math/bits.deBruijn32tab", "math/bits.deBruijn64tab"], plainKeys := false, apart := false, laid := [("math/bits.deBruijn32tab", laid_math_bits_deBruijn32tab), ("math/bits.deBruijn64tab", laid_math_bits_deBruijn64tab)], narrowed := true }
def TargetKnownUptoSaid : Prop := targetKnownUptoRow.holds Tryz.pinned (OpenSpec.upto targetKnownSpec)

/-- 'cloverleaflaw09.TargetEveryBody', WHERE WHAT IT READS IS OF BULK AT MOST 1048576: true; the input reads as it did. -/
def targetEveryBodyUptoRow : OpenClaim := { program := "ytnmgpbihknjdjaagreatdoor", sum := "a159c18741c406398fc5301b4c8077493827be26f1f8659e520097838abe68a8", func := "cloverleaf/cloverleaflaw09.TargetEveryBody", spec := "targetEveryBody", unfollowed := true, recurses := true, named := ["math/bits.deBruijn32tab", "math/bits.deBruijn64tab"], plainKeys := false, apart := false, laid := [("math/bits.deBruijn32tab", laid_math_bits_deBruijn32tab), ("math/bits.deBruijn64tab", laid_math_bits_deBruijn64tab)], narrowed := true }
def TargetEveryBodyUptoSaid : Prop := targetEveryBodyUptoRow.holds Tryz.pinned (OpenSpec.upto targetEveryBodySpec)

end Rows
end Go.Proofs.YtnmgpbihknjdjaaGreatDoor
