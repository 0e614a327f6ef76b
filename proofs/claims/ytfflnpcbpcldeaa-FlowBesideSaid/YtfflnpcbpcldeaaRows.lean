/-
  No cell of these rows narrows 'for every input' (looked for: loops, veiled, ifaces, maps, wideKeys, modest, calm, conditions, laid).
  DERIVED. THE GIVEN ROWS OF THIS SEAT. 8 by the template 'for every input the law returns true; each argument reads behind the call as it read before'; 0 by the template 'total and deterministic' (their statements: YtfflnpcbpcldeaaTotals.lean).
  GIVEN WITH THE SEED: the statements are not yours to turn. If you find one false, say at which input.
  Laid BY PROGRAM, IN A SANDBOX (cutbox-rows.mjs): the forced cells as the released guide's own fill.sh prints them over the translation 248477614814cf3b… (all of the seat's roots in one cut). By AI agents, Wed Nov 11 2026. No macro, syntax, notation, axiom, sorry.
-/
import Derived.Test.YtfflnpcbpcldeaaChecked
import GoSem.Claim
import GoSem.ClaimJoined
import GoSem.ClaimMapViews
import Derived.JoinedTies
import Derived.KernelRfl
namespace Go.Proofs.Ytfflnpcbpcldeaa
/- THE CELL 'sum', in the pinned program and in every row, IS THE sha256 OF THE DUMP (.gsa) THAT YtfflnpcbpcldeaaProg.lean LOADS. Nothing in Lean hashes anything: it is a label: what it is worth is what the hold of that sum in a sandbox is worth. -/
noncomputable def Try.pinned : Pinned := { name := "ytfflnpcbpcldeaa", sum := "248477614814cf3b5c20d9e44496bd76b4e74ff05d54ffc7c9d7bcc3eb1ee8a5", checked := Try.checked }
namespace Rows
def none {H : Type} : Left H := { results := [], args := [] }

/-- 'arborlaw.GraphPuts': WHATEVER THE INPUT: true; the input reads as it did. -/
def graphPutsSpec : ChangeSpec := { name := "graphPuts", fn := fun _ => fun
  | [d1, d2] => { results := [.lit (.bool true)], args := [d1, d2] }
  | _ => none }
def graphPutsRow : OpenClaim := { program := "ytfflnpcbpcldeaa", sum := "248477614814cf3b5c20d9e44496bd76b4e74ff05d54ffc7c9d7bcc3eb1ee8a5", func := "arbor/arborlaw.GraphPuts", spec := "graphPuts", unfollowed := true, recurses := true, plainKeys := false, apart := false }
def GraphPutsSaid : Prop := graphPutsRow.holds Try.pinned (OpenSpec.ofChange graphPutsSpec)

/-- ITS FALSE NEIGHBOUR: 'it returns false'. Refute it at one input. -/
def graphPutsWrong : ChangeSpec := { name := "graphPuts", fn := fun _ => fun
  | [d1, d2] => { results := [.lit (.bool false)], args := [d1, d2] }
  | _ => none }
def GraphPutsWrongFalsely : Prop := graphPutsRow.holds Try.pinned (OpenSpec.ofChange graphPutsWrong)

/-- 'arborlaw.PolyTutte': WHATEVER THE INPUT: true; the input reads as it did. -/
def polyTutteSpec : ChangeSpec := { name := "polyTutte", fn := fun _ => fun
  | [d] => { results := [.lit (.bool true)], args := [d] }
  | _ => none }
def polyTutteRow : OpenClaim := { program := "ytfflnpcbpcldeaa", sum := "248477614814cf3b5c20d9e44496bd76b4e74ff05d54ffc7c9d7bcc3eb1ee8a5", func := "arbor/arborlaw.PolyTutte", spec := "polyTutte", recurses := true, plainKeys := false, apart := false }
def PolyTutteSaid : Prop := polyTutteRow.holds Try.pinned (OpenSpec.ofChange polyTutteSpec)

/-- ITS FALSE NEIGHBOUR: 'it returns false'. Refute it at one input. -/
def polyTutteWrong : ChangeSpec := { name := "polyTutte", fn := fun _ => fun
  | [d] => { results := [.lit (.bool false)], args := [d] }
  | _ => none }
def PolyTutteWrongFalsely : Prop := polyTutteRow.holds Try.pinned (OpenSpec.ofChange polyTutteWrong)

/-- 'arborlaw.FlowMost': WHATEVER THE INPUT: true; the input reads as it did. -/
def flowMostSpec : ChangeSpec := { name := "flowMost", fn := fun _ => fun
  | [d1, d2, d3] => { results := [.lit (.bool true)], args := [d1, d2, d3] }
  | _ => none }
def flowMostRow : OpenClaim := { program := "ytfflnpcbpcldeaa", sum := "248477614814cf3b5c20d9e44496bd76b4e74ff05d54ffc7c9d7bcc3eb1ee8a5", func := "arbor/arborlaw.FlowMost", spec := "flowMost", recurses := true, plainKeys := false, apart := false }
def FlowMostSaid : Prop := flowMostRow.holds Try.pinned (OpenSpec.ofChange flowMostSpec)

/-- ITS FALSE NEIGHBOUR: 'it returns false'. Refute it at one input. -/
def flowMostWrong : ChangeSpec := { name := "flowMost", fn := fun _ => fun
  | [d1, d2, d3] => { results := [.lit (.bool false)], args := [d1, d2, d3] }
  | _ => none }
def FlowMostWrongFalsely : Prop := flowMostRow.holds Try.pinned (OpenSpec.ofChange flowMostWrong)

/-- 'arborlaw.MinorMinors': WHATEVER THE INPUT: true; the input reads as it did. -/
def minorMinorsSpec : ChangeSpec := { name := "minorMinors", fn := fun _ => fun
  | [d1, d2] => { results := [.lit (.bool true)], args := [d1, d2] }
  | _ => none }
def minorMinorsRow : OpenClaim := { program := "ytfflnpcbpcldeaa", sum := "248477614814cf3b5c20d9e44496bd76b4e74ff05d54ffc7c9d7bcc3eb1ee8a5", func := "arbor/arborlaw.MinorMinors", spec := "minorMinors", unfollowed := true, recurses := true, plainKeys := false, apart := false }
def MinorMinorsSaid : Prop := minorMinorsRow.holds Try.pinned (OpenSpec.ofChange minorMinorsSpec)

/-- ITS FALSE NEIGHBOUR: 'it returns false'. Refute it at one input. -/
def minorMinorsWrong : ChangeSpec := { name := "minorMinors", fn := fun _ => fun
  | [d1, d2] => { results := [.lit (.bool false)], args := [d1, d2] }
  | _ => none }
def MinorMinorsWrongFalsely : Prop := minorMinorsRow.holds Try.pinned (OpenSpec.ofChange minorMinorsWrong)

/-- 'arborlaw.MinorWithin': WHATEVER THE INPUT: true; the input reads as it did. -/
def minorWithinSpec : ChangeSpec := { name := "minorWithin", fn := fun _ => fun
  | [d1, d2] => { results := [.lit (.bool true)], args := [d1, d2] }
  | _ => none }
def minorWithinRow : OpenClaim := { program := "ytfflnpcbpcldeaa", sum := "248477614814cf3b5c20d9e44496bd76b4e74ff05d54ffc7c9d7bcc3eb1ee8a5", func := "arbor/arborlaw.MinorWithin", spec := "minorWithin", unfollowed := true, recurses := true, plainKeys := false, apart := false }
def MinorWithinSaid : Prop := minorWithinRow.holds Try.pinned (OpenSpec.ofChange minorWithinSpec)

/-- ITS FALSE NEIGHBOUR: 'it returns false'. Refute it at one input. -/
def minorWithinWrong : ChangeSpec := { name := "minorWithin", fn := fun _ => fun
  | [d1, d2] => { results := [.lit (.bool false)], args := [d1, d2] }
  | _ => none }
def MinorWithinWrongFalsely : Prop := minorWithinRow.holds Try.pinned (OpenSpec.ofChange minorWithinWrong)

/-- 'arborlaw.FlowTree': WHATEVER THE INPUT: true; the input reads as it did. -/
def flowTreeSpec : ChangeSpec := { name := "flowTree", fn := fun _ => fun
  | [d1, d2] => { results := [.lit (.bool true)], args := [d1, d2] }
  | _ => none }
def flowTreeRow : OpenClaim := { program := "ytfflnpcbpcldeaa", sum := "248477614814cf3b5c20d9e44496bd76b4e74ff05d54ffc7c9d7bcc3eb1ee8a5", func := "arbor/arborlaw.FlowTree", spec := "flowTree", recurses := true, plainKeys := false, apart := false }
def FlowTreeSaid : Prop := flowTreeRow.holds Try.pinned (OpenSpec.ofChange flowTreeSpec)

/-- ITS FALSE NEIGHBOUR: 'it returns false'. Refute it at one input. -/
def flowTreeWrong : ChangeSpec := { name := "flowTree", fn := fun _ => fun
  | [d1, d2] => { results := [.lit (.bool false)], args := [d1, d2] }
  | _ => none }
def FlowTreeWrongFalsely : Prop := flowTreeRow.holds Try.pinned (OpenSpec.ofChange flowTreeWrong)

/-- 'arborlaw.PolyCounts': WHATEVER THE INPUT: true; the input reads as it did. -/
def polyCountsSpec : ChangeSpec := { name := "polyCounts", fn := fun _ => fun
  | [d] => { results := [.lit (.bool true)], args := [d] }
  | _ => none }
def polyCountsRow : OpenClaim := { program := "ytfflnpcbpcldeaa", sum := "248477614814cf3b5c20d9e44496bd76b4e74ff05d54ffc7c9d7bcc3eb1ee8a5", func := "arbor/arborlaw.PolyCounts", spec := "polyCounts", unfollowed := true, recurses := true, plainKeys := false, apart := false }
def PolyCountsSaid : Prop := polyCountsRow.holds Try.pinned (OpenSpec.ofChange polyCountsSpec)

/-- ITS FALSE NEIGHBOUR: 'it returns false'. Refute it at one input. -/
def polyCountsWrong : ChangeSpec := { name := "polyCounts", fn := fun _ => fun
  | [d] => { results := [.lit (.bool false)], args := [d] }
  | _ => none }
def PolyCountsWrongFalsely : Prop := polyCountsRow.holds Try.pinned (OpenSpec.ofChange polyCountsWrong)

/-- 'arborlaw.FlowBeside': WHATEVER THE INPUT: true; the input reads as it did. -/
def flowBesideSpec : ChangeSpec := { name := "flowBeside", fn := fun _ => fun
  | [d1, d2, d3] => { results := [.lit (.bool true)], args := [d1, d2, d3] }
  | _ => none }
def flowBesideRow : OpenClaim := { program := "ytfflnpcbpcldeaa", sum := "248477614814cf3b5c20d9e44496bd76b4e74ff05d54ffc7c9d7bcc3eb1ee8a5", func := "arbor/arborlaw.FlowBeside", spec := "flowBeside", recurses := true, plainKeys := false, apart := false }
def FlowBesideSaid : Prop := flowBesideRow.holds Try.pinned (OpenSpec.ofChange flowBesideSpec)

/-- ITS FALSE NEIGHBOUR: 'it returns false'. Refute it at one input. -/
def flowBesideWrong : ChangeSpec := { name := "flowBeside", fn := fun _ => fun
  | [d1, d2, d3] => { results := [.lit (.bool false)], args := [d1, d2, d3] }
  | _ => none }
def FlowBesideWrongFalsely : Prop := flowBesideRow.holds Try.pinned (OpenSpec.ofChange flowBesideWrong)

/- THE SECOND FORM. 'bulk': how many values and letters a reading holds, each counted each time it is reached (what is shared counts as often as it is met; a slice's spare places count too). A statement '..UptoSaid' is the law's where the arguments, and the package variables that the reading takes, are together of bulk at most 1048576: NARROWER than '..Said'. Prove '..Said' where nothing that the law and all that it calls make is longer than what came in: it says more and counts as full. Else prove '..UptoSaid'. A law counts once. -/
mutual
def uptoBulk {H : Type} : DataW H → Nat
  | .lit (.string bytes) => bytes.length + 1
  | .lit _ => 1
  | .nil => 1
  | .ptr d => uptoBulk d + 1
  | .slice elems spare => uptoBulkAll elems + uptoBulkAll spare + 1
  | .agg parts => uptoBulkAll parts + 1
  | .iface _ d => uptoBulk d + 1
  | .map entries => uptoBulkEntries entries + 1
  | .held _ => 1
def uptoBulkAll {H : Type} : List (DataW H) → Nat
  | [] => 0
  | d :: r => uptoBulk d + uptoBulkAll r
def uptoBulkEntries {H : Type} : List (Lit × DataW H) → Nat
  | [] => 0
  | x :: r => uptoBulkEntry x + uptoBulkEntries r
def uptoBulkEntry {H : Type} : Lit × DataW H → Nat
  | (.string bytes, d) => bytes.length + uptoBulk d + 1
  | (_, d) => uptoBulk d + 1
 end
def uptoSmall : (H : Type) → List (DataW H) → Bool := fun _ ds => decide (uptoBulkAll ds ≤ 1048576)
def OpenSpec.upto (s : _root_.Go.ChangeSpec) : _root_.Go.OpenSpec := { _root_.Go.OpenSpec.ofChange s with cond := some uptoSmall }

/-- 'arborlaw.GraphPuts', WHERE WHAT IT READS IS OF BULK AT MOST 1048576: true; the input reads as it did. -/
def graphPutsUptoRow : OpenClaim := { program := "ytfflnpcbpcldeaa", sum := "248477614814cf3b5c20d9e44496bd76b4e74ff05d54ffc7c9d7bcc3eb1ee8a5", func := "arbor/arborlaw.GraphPuts", spec := "graphPuts", unfollowed := true, recurses := true, plainKeys := false, apart := false, narrowed := true }
def GraphPutsUptoSaid : Prop := graphPutsUptoRow.holds Try.pinned (OpenSpec.upto graphPutsSpec)

/-- 'arborlaw.PolyTutte', WHERE WHAT IT READS IS OF BULK AT MOST 1048576: true; the input reads as it did. -/
def polyTutteUptoRow : OpenClaim := { program := "ytfflnpcbpcldeaa", sum := "248477614814cf3b5c20d9e44496bd76b4e74ff05d54ffc7c9d7bcc3eb1ee8a5", func := "arbor/arborlaw.PolyTutte", spec := "polyTutte", recurses := true, plainKeys := false, apart := false, narrowed := true }
def PolyTutteUptoSaid : Prop := polyTutteUptoRow.holds Try.pinned (OpenSpec.upto polyTutteSpec)

/-- 'arborlaw.FlowMost', WHERE WHAT IT READS IS OF BULK AT MOST 1048576: true; the input reads as it did. -/
def flowMostUptoRow : OpenClaim := { program := "ytfflnpcbpcldeaa", sum := "248477614814cf3b5c20d9e44496bd76b4e74ff05d54ffc7c9d7bcc3eb1ee8a5", func := "arbor/arborlaw.FlowMost", spec := "flowMost", recurses := true, plainKeys := false, apart := false, narrowed := true }
def FlowMostUptoSaid : Prop := flowMostUptoRow.holds Try.pinned (OpenSpec.upto flowMostSpec)

/-- 'arborlaw.MinorMinors', WHERE WHAT IT READS IS OF BULK AT MOST 1048576: true; the input reads as it did. -/
def minorMinorsUptoRow : OpenClaim := { program := "ytfflnpcbpcldeaa", sum := "248477614814cf3b5c20d9e44496bd76b4e74ff05d54ffc7c9d7bcc3eb1ee8a5", func := "arbor/arborlaw.MinorMinors", spec := "minorMinors", unfollowed := true, recurses := true, plainKeys := false, apart := false, narrowed := true }
def MinorMinorsUptoSaid : Prop := minorMinorsUptoRow.holds Try.pinned (OpenSpec.upto minorMinorsSpec)

/-- 'arborlaw.MinorWithin', WHERE WHAT IT READS IS OF BULK AT MOST 1048576: true; the input reads as it did. -/
def minorWithinUptoRow : OpenClaim := { program := "ytfflnpcbpcldeaa", sum := "248477614814cf3b5c20d9e44496bd76b4e74ff05d54ffc7c9d7bcc3eb1ee8a5", func := "arbor/arborlaw.MinorWithin", spec := "minorWithin", unfollowed := true, recurses := true, plainKeys := false, apart := false, narrowed := true }
def MinorWithinUptoSaid : Prop := minorWithinUptoRow.holds Try.pinned (OpenSpec.upto minorWithinSpec)

/-- 'arborlaw.FlowTree', WHERE WHAT IT READS IS OF BULK AT MOST 1048576: true; the input reads as it did. -/
def flowTreeUptoRow : OpenClaim := { program := "ytfflnpcbpcldeaa", sum := "248477614814cf3b5c20d9e44496bd76b4e74ff05d54ffc7c9d7bcc3eb1ee8a5", func := "arbor/arborlaw.FlowTree", spec := "flowTree", recurses := true, plainKeys := false, apart := false, narrowed := true }
def FlowTreeUptoSaid : Prop := flowTreeUptoRow.holds Try.pinned (OpenSpec.upto flowTreeSpec)

/-- 'arborlaw.PolyCounts', WHERE WHAT IT READS IS OF BULK AT MOST 1048576: true; the input reads as it did. -/
def polyCountsUptoRow : OpenClaim := { program := "ytfflnpcbpcldeaa", sum := "248477614814cf3b5c20d9e44496bd76b4e74ff05d54ffc7c9d7bcc3eb1ee8a5", func := "arbor/arborlaw.PolyCounts", spec := "polyCounts", unfollowed := true, recurses := true, plainKeys := false, apart := false, narrowed := true }
def PolyCountsUptoSaid : Prop := polyCountsUptoRow.holds Try.pinned (OpenSpec.upto polyCountsSpec)

/-- 'arborlaw.FlowBeside', WHERE WHAT IT READS IS OF BULK AT MOST 1048576: true; the input reads as it did. -/
def flowBesideUptoRow : OpenClaim := { program := "ytfflnpcbpcldeaa", sum := "248477614814cf3b5c20d9e44496bd76b4e74ff05d54ffc7c9d7bcc3eb1ee8a5", func := "arbor/arborlaw.FlowBeside", spec := "flowBeside", recurses := true, plainKeys := false, apart := false, narrowed := true }
def FlowBesideUptoSaid : Prop := flowBesideUptoRow.holds Try.pinned (OpenSpec.upto flowBesideSpec)

end Rows
end Go.Proofs.Ytfflnpcbpcldeaa
