/-
  No cell of these rows narrows 'for every input' (looked for: loops, veiled, ifaces, maps, wideKeys, modest, calm, conditions, laid).
  DERIVED. THE GIVEN ROWS OF THIS SEAT. 7 by the template 'for every input the law returns true; each argument reads behind the call as it read before'; 0 by the template 'total and deterministic' (their statements: YtmhcnekbfngafaaTotals.lean).
  GIVEN WITH THE SEED: the statements are not yours to turn. If you find one false, say at which input.
  Laid BY PROGRAM, IN A SANDBOX (cutbox-rows.mjs): the forced cells as the released guide's own fill.sh prints them over the translation ab5c1ae92e59ddc7… (all of the seat's roots in one cut). By AI agents, Wed Nov 11 2026. No macro, syntax, notation, axiom, sorry.
-/
import Derived.Test.YtmhcnekbfngafaaChecked
import GoSem.Claim
import GoSem.ClaimJoined
import GoSem.ClaimMapViews
import Derived.JoinedTies
import Derived.KernelRfl
namespace Go.Proofs.Ytmhcnekbfngafaa
/- THE CELL 'sum', in the pinned program and in every row, IS THE sha256 OF THE DUMP (.gsa) THAT YtmhcnekbfngafaaProg.lean LOADS. Nothing in Lean hashes anything: it is a label: what it is worth is what the hold of that sum in a sandbox is worth. -/
noncomputable def Try.pinned : Pinned := { name := "ytmhcnekbfngafaa", sum := "ab5c1ae92e59ddc766bf503add51bc5518305c1a4b8ab7cd3b0e704956645168", checked := Try.checked }
namespace Rows
def none {H : Type} : Left H := { results := [], args := [] }

/-- 'arborlaw.PolyTutte': WHATEVER THE INPUT: true; the input reads as it did. -/
def polyTutteSpec : ChangeSpec := { name := "polyTutte", fn := fun _ => fun
  | [d] => { results := [.lit (.bool true)], args := [d] }
  | _ => none }
def polyTutteRow : OpenClaim := { program := "ytmhcnekbfngafaa", sum := "ab5c1ae92e59ddc766bf503add51bc5518305c1a4b8ab7cd3b0e704956645168", func := "arbor/arborlaw.PolyTutte", spec := "polyTutte", recurses := true, plainKeys := false, apart := false }
def PolyTutteSaid : Prop := polyTutteRow.holds Try.pinned (OpenSpec.ofChange polyTutteSpec)

/-- ITS FALSE NEIGHBOUR: 'it returns false'. Refute it at one input. -/
def polyTutteWrong : ChangeSpec := { name := "polyTutte", fn := fun _ => fun
  | [d] => { results := [.lit (.bool false)], args := [d] }
  | _ => none }
def PolyTutteWrongFalsely : Prop := polyTutteRow.holds Try.pinned (OpenSpec.ofChange polyTutteWrong)

/-- 'arborlaw.PolyCounts': WHATEVER THE INPUT: true; the input reads as it did. -/
def polyCountsSpec : ChangeSpec := { name := "polyCounts", fn := fun _ => fun
  | [d] => { results := [.lit (.bool true)], args := [d] }
  | _ => none }
def polyCountsRow : OpenClaim := { program := "ytmhcnekbfngafaa", sum := "ab5c1ae92e59ddc766bf503add51bc5518305c1a4b8ab7cd3b0e704956645168", func := "arbor/arborlaw.PolyCounts", spec := "polyCounts", unfollowed := true, recurses := true, plainKeys := false, apart := false }
def PolyCountsSaid : Prop := polyCountsRow.holds Try.pinned (OpenSpec.ofChange polyCountsSpec)

/-- ITS FALSE NEIGHBOUR: 'it returns false'. Refute it at one input. -/
def polyCountsWrong : ChangeSpec := { name := "polyCounts", fn := fun _ => fun
  | [d] => { results := [.lit (.bool false)], args := [d] }
  | _ => none }
def PolyCountsWrongFalsely : Prop := polyCountsRow.holds Try.pinned (OpenSpec.ofChange polyCountsWrong)

/-- 'arborlaw.PartsBlocks': WHATEVER THE INPUT: true; the input reads as it did. -/
def partsBlocksSpec : ChangeSpec := { name := "partsBlocks", fn := fun _ => fun
  | [d] => { results := [.lit (.bool true)], args := [d] }
  | _ => none }
def partsBlocksRow : OpenClaim := { program := "ytmhcnekbfngafaa", sum := "ab5c1ae92e59ddc766bf503add51bc5518305c1a4b8ab7cd3b0e704956645168", func := "arbor/arborlaw.PartsBlocks", spec := "partsBlocks", unfollowed := true, recurses := true, plainKeys := false, apart := false }
def PartsBlocksSaid : Prop := partsBlocksRow.holds Try.pinned (OpenSpec.ofChange partsBlocksSpec)

/-- ITS FALSE NEIGHBOUR: 'it returns false'. Refute it at one input. -/
def partsBlocksWrong : ChangeSpec := { name := "partsBlocks", fn := fun _ => fun
  | [d] => { results := [.lit (.bool false)], args := [d] }
  | _ => none }
def PartsBlocksWrongFalsely : Prop := partsBlocksRow.holds Try.pinned (OpenSpec.ofChange partsBlocksWrong)

/-- 'arborlaw.PartsWhole': WHATEVER THE INPUT: true; the input reads as it did. -/
def partsWholeSpec : ChangeSpec := { name := "partsWhole", fn := fun _ => fun
  | [d] => { results := [.lit (.bool true)], args := [d] }
  | _ => none }
def partsWholeRow : OpenClaim := { program := "ytmhcnekbfngafaa", sum := "ab5c1ae92e59ddc766bf503add51bc5518305c1a4b8ab7cd3b0e704956645168", func := "arbor/arborlaw.PartsWhole", spec := "partsWhole", unfollowed := true, recurses := true, plainKeys := false, apart := false }
def PartsWholeSaid : Prop := partsWholeRow.holds Try.pinned (OpenSpec.ofChange partsWholeSpec)

/-- ITS FALSE NEIGHBOUR: 'it returns false'. Refute it at one input. -/
def partsWholeWrong : ChangeSpec := { name := "partsWhole", fn := fun _ => fun
  | [d] => { results := [.lit (.bool false)], args := [d] }
  | _ => none }
def PartsWholeWrongFalsely : Prop := partsWholeRow.holds Try.pinned (OpenSpec.ofChange partsWholeWrong)

/-- 'arborlaw.PartsLaws': WHATEVER THE INPUT: true; the input reads as it did. -/
def partsLawsSpec : ChangeSpec := { name := "partsLaws", fn := fun _ => fun
  | [d] => { results := [.lit (.bool true)], args := [d] }
  | _ => none }
def partsLawsRow : OpenClaim := { program := "ytmhcnekbfngafaa", sum := "ab5c1ae92e59ddc766bf503add51bc5518305c1a4b8ab7cd3b0e704956645168", func := "arbor/arborlaw.PartsLaws", spec := "partsLaws", unfollowed := true, recurses := true, plainKeys := false, apart := false }
def PartsLawsSaid : Prop := partsLawsRow.holds Try.pinned (OpenSpec.ofChange partsLawsSpec)

/-- ITS FALSE NEIGHBOUR: 'it returns false'. Refute it at one input. -/
def partsLawsWrong : ChangeSpec := { name := "partsLaws", fn := fun _ => fun
  | [d] => { results := [.lit (.bool false)], args := [d] }
  | _ => none }
def PartsLawsWrongFalsely : Prop := partsLawsRow.holds Try.pinned (OpenSpec.ofChange partsLawsWrong)

/-- 'arborlaw.PartsSides': WHATEVER THE INPUT: true; the input reads as it did. -/
def partsSidesSpec : ChangeSpec := { name := "partsSides", fn := fun _ => fun
  | [d] => { results := [.lit (.bool true)], args := [d] }
  | _ => none }
def partsSidesRow : OpenClaim := { program := "ytmhcnekbfngafaa", sum := "ab5c1ae92e59ddc766bf503add51bc5518305c1a4b8ab7cd3b0e704956645168", func := "arbor/arborlaw.PartsSides", spec := "partsSides", unfollowed := true, recurses := true, plainKeys := false, apart := false }
def PartsSidesSaid : Prop := partsSidesRow.holds Try.pinned (OpenSpec.ofChange partsSidesSpec)

/-- ITS FALSE NEIGHBOUR: 'it returns false'. Refute it at one input. -/
def partsSidesWrong : ChangeSpec := { name := "partsSides", fn := fun _ => fun
  | [d] => { results := [.lit (.bool false)], args := [d] }
  | _ => none }
def PartsSidesWrongFalsely : Prop := partsSidesRow.holds Try.pinned (OpenSpec.ofChange partsSidesWrong)

/-- 'arborlaw.PartsStrong': WHATEVER THE INPUT: true; the input reads as it did. -/
def partsStrongSpec : ChangeSpec := { name := "partsStrong", fn := fun _ => fun
  | [d1, d2] => { results := [.lit (.bool true)], args := [d1, d2] }
  | _ => none }
def partsStrongRow : OpenClaim := { program := "ytmhcnekbfngafaa", sum := "ab5c1ae92e59ddc766bf503add51bc5518305c1a4b8ab7cd3b0e704956645168", func := "arbor/arborlaw.PartsStrong", spec := "partsStrong", unfollowed := true, recurses := true, plainKeys := false, apart := false }
def PartsStrongSaid : Prop := partsStrongRow.holds Try.pinned (OpenSpec.ofChange partsStrongSpec)

/-- ITS FALSE NEIGHBOUR: 'it returns false'. Refute it at one input. -/
def partsStrongWrong : ChangeSpec := { name := "partsStrong", fn := fun _ => fun
  | [d1, d2] => { results := [.lit (.bool false)], args := [d1, d2] }
  | _ => none }
def PartsStrongWrongFalsely : Prop := partsStrongRow.holds Try.pinned (OpenSpec.ofChange partsStrongWrong)

/- THE SECOND FORM. 'bulk': how many values and letters a reading holds, each counted each time it is reached (what is shared counts as often as it is met; a slice's spare places count too). A statement '..UptoSaid' is the law's where the arguments, and the package variables that the reading takes, are together of bulk at most 1048576: NARROWER than '..Said'. Prove '..Said' where nothing that the law and all that it calls make is longer than what came in: it says more and counts as full. Else prove '..UptoSaid'. A law counts once. -/
mutual
def uptoBulk {H : Type} : DataW H → Nat
  | .lit (.string bytes) => bytes.length + 1
  | .lit _ => 1
  | .nil => 1
  | .ptr d => uptoBulk d + 1
  | .slice elems spare => uptoBulkAll elems + uptoBulkAll spare + 1
  | .agg parts => uptoBulkAll parts + 1
  | .iface _ d => uptoBulk d + 1
  | .map entries => uptoBulkEntries entries + 1
  | .held _ => 1
def uptoBulkAll {H : Type} : List (DataW H) → Nat
  | [] => 0
  | d :: r => uptoBulk d + uptoBulkAll r
def uptoBulkEntries {H : Type} : List (Lit × DataW H) → Nat
  | [] => 0
  | x :: r => uptoBulkEntry x + uptoBulkEntries r
def uptoBulkEntry {H : Type} : Lit × DataW H → Nat
  | (.string bytes, d) => bytes.length + uptoBulk d + 1
  | (_, d) => uptoBulk d + 1
 end
def uptoSmall : (H : Type) → List (DataW H) → Bool := fun _ ds => decide (uptoBulkAll ds ≤ 1048576)
def OpenSpec.upto (s : _root_.Go.ChangeSpec) : _root_.Go.OpenSpec := { _root_.Go.OpenSpec.ofChange s with cond := some uptoSmall }

/-- 'arborlaw.PolyTutte', WHERE WHAT IT READS IS OF BULK AT MOST 1048576: true; the input reads as it did. -/
def polyTutteUptoRow : OpenClaim := { program := "ytmhcnekbfngafaa", sum := "ab5c1ae92e59ddc766bf503add51bc5518305c1a4b8ab7cd3b0e704956645168", func := "arbor/arborlaw.PolyTutte", spec := "polyTutte", recurses := true, plainKeys := false, apart := false, narrowed := true }
def PolyTutteUptoSaid : Prop := polyTutteUptoRow.holds Try.pinned (OpenSpec.upto polyTutteSpec)

/-- 'arborlaw.PolyCounts', WHERE WHAT IT READS IS OF BULK AT MOST 1048576: true; the input reads as it did. -/
def polyCountsUptoRow : OpenClaim := { program := "ytmhcnekbfngafaa", sum := "ab5c1ae92e59ddc766bf503add51bc5518305c1a4b8ab7cd3b0e704956645168", func := "arbor/arborlaw.PolyCounts", spec := "polyCounts", unfollowed := true, recurses := true, plainKeys := false, apart := false, narrowed := true }
def PolyCountsUptoSaid : Prop := polyCountsUptoRow.holds Try.pinned (OpenSpec.upto polyCountsSpec)

/-- 'arborlaw.PartsBlocks', WHERE WHAT IT READS IS OF BULK AT MOST 1048576: true; the input reads as it did. -/
def partsBlocksUptoRow : OpenClaim := { program := "ytmhcnekbfngafaa", sum := "ab5c1ae92e59ddc766bf503add51bc5518305c1a4b8ab7cd3b0e704956645168", func := "arbor/arborlaw.PartsBlocks", spec := "partsBlocks", unfollowed := true, recurses := true, plainKeys := false, apart := false, narrowed := true }
def PartsBlocksUptoSaid : Prop := partsBlocksUptoRow.holds Try.pinned (OpenSpec.upto partsBlocksSpec)

/-- 'arborlaw.PartsWhole', WHERE WHAT IT READS IS OF BULK AT MOST 1048576: true; the input reads as it did. -/
def partsWholeUptoRow : OpenClaim := { program := "ytmhcnekbfngafaa", sum := "ab5c1ae92e59ddc766bf503add51bc5518305c1a4b8ab7cd3b0e704956645168", func := "arbor/arborlaw.PartsWhole", spec := "partsWhole", unfollowed := true, recurses := true, plainKeys := false, apart := false, narrowed := true }
def PartsWholeUptoSaid : Prop := partsWholeUptoRow.holds Try.pinned (OpenSpec.upto partsWholeSpec)

/-- 'arborlaw.PartsLaws', WHERE WHAT IT READS IS OF BULK AT MOST 1048576: true; the input reads as it did. -/
def partsLawsUptoRow : OpenClaim := { program := "ytmhcnekbfngafaa", sum := "ab5c1ae92e59ddc766bf503add51bc5518305c1a4b8ab7cd3b0e704956645168", func := "arbor/arborlaw.PartsLaws", spec := "partsLaws", unfollowed := true, recurses := true, plainKeys := false, apart := false, narrowed := true }
def PartsLawsUptoSaid : Prop := partsLawsUptoRow.holds Try.pinned (OpenSpec.upto partsLawsSpec)

/-- 'arborlaw.PartsSides', WHERE WHAT IT READS IS OF BULK AT MOST 1048576: true; the input reads as it did. -/
def partsSidesUptoRow : OpenClaim := { program := "ytmhcnekbfngafaa", sum := "ab5c1ae92e59ddc766bf503add51bc5518305c1a4b8ab7cd3b0e704956645168", func := "arbor/arborlaw.PartsSides", spec := "partsSides", unfollowed := true, recurses := true, plainKeys := false, apart := false, narrowed := true }
def PartsSidesUptoSaid : Prop := partsSidesUptoRow.holds Try.pinned (OpenSpec.upto partsSidesSpec)

/-- 'arborlaw.PartsStrong', WHERE WHAT IT READS IS OF BULK AT MOST 1048576: true; the input reads as it did. -/
def partsStrongUptoRow : OpenClaim := { program := "ytmhcnekbfngafaa", sum := "ab5c1ae92e59ddc766bf503add51bc5518305c1a4b8ab7cd3b0e704956645168", func := "arbor/arborlaw.PartsStrong", spec := "partsStrong", unfollowed := true, recurses := true, plainKeys := false, apart := false, narrowed := true }
def PartsStrongUptoSaid : Prop := partsStrongUptoRow.holds Try.pinned (OpenSpec.upto partsStrongSpec)

end Rows
end Go.Proofs.Ytmhcnekbfngafaa
