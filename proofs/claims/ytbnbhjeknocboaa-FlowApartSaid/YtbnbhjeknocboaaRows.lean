/-
  No cell of these rows narrows 'for every input' (looked for: loops, veiled, ifaces, maps, wideKeys, modest, calm, conditions, laid).
  DERIVED. THE GIVEN ROWS OF THIS SEAT. 4 by the template 'for every input the law returns true; each argument reads behind the call as it read before'; 0 by the template 'total and deterministic' (their statements: YtbnbhjeknocboaaTotals.lean).
  GIVEN WITH THE SEED: the statements are not yours to turn. If you find one false, say at which input.
  Laid BY PROGRAM, IN A SANDBOX (cutbox-rows.mjs): the forced cells as the released guide's own fill.sh prints them over the translation 4df5e1a94a067e81… (all of the seat's roots in one cut). By AI agents, Wed Nov 11 2026. No macro, syntax, notation, axiom, sorry.
-/
import Derived.Test.YtbnbhjeknocboaaChecked
import GoSem.Claim
import GoSem.ClaimJoined
import GoSem.ClaimMapViews
import Derived.JoinedTies
import Derived.KernelRfl
namespace Go.Proofs.Ytbnbhjeknocboaa
/- THE CELL 'sum', in the pinned program and in every row, IS THE sha256 OF THE DUMP (.gsa) THAT YtbnbhjeknocboaaProg.lean LOADS. Nothing in Lean hashes anything: it is a label: what it is worth is what the hold of that sum in a sandbox is worth. -/
noncomputable def Try.pinned : Pinned := { name := "ytbnbhjeknocboaa", sum := "4df5e1a94a067e8111dc9e51b093a8eee49ae21a5a0a5ea30a56e62d01a47ff7", checked := Try.checked }
namespace Rows
def none {H : Type} : Left H := { results := [], args := [] }

/-- 'arborlaw.GraphMakes': WHATEVER THE INPUT: true; the input reads as it did. -/
def graphMakesSpec : ChangeSpec := { name := "graphMakes", fn := fun _ => fun
  | [d1, d2] => { results := [.lit (.bool true)], args := [d1, d2] }
  | _ => none }
def graphMakesRow : OpenClaim := { program := "ytbnbhjeknocboaa", sum := "4df5e1a94a067e8111dc9e51b093a8eee49ae21a5a0a5ea30a56e62d01a47ff7", func := "arbor/arborlaw.GraphMakes", spec := "graphMakes", unfollowed := true, recurses := true, plainKeys := false, apart := false }
def GraphMakesSaid : Prop := graphMakesRow.holds Try.pinned (OpenSpec.ofChange graphMakesSpec)

/-- ITS FALSE NEIGHBOUR: 'it returns false'. Refute it at one input. -/
def graphMakesWrong : ChangeSpec := { name := "graphMakes", fn := fun _ => fun
  | [d1, d2] => { results := [.lit (.bool false)], args := [d1, d2] }
  | _ => none }
def GraphMakesWrongFalsely : Prop := graphMakesRow.holds Try.pinned (OpenSpec.ofChange graphMakesWrong)

/-- 'arborlaw.FlowApart': WHATEVER THE INPUT: true; the input reads as it did. -/
def flowApartSpec : ChangeSpec := { name := "flowApart", fn := fun _ => fun
  | [d1, d2, d3] => { results := [.lit (.bool true)], args := [d1, d2, d3] }
  | _ => none }
def flowApartRow : OpenClaim := { program := "ytbnbhjeknocboaa", sum := "4df5e1a94a067e8111dc9e51b093a8eee49ae21a5a0a5ea30a56e62d01a47ff7", func := "arbor/arborlaw.FlowApart", spec := "flowApart", unfollowed := true, recurses := true, plainKeys := false, apart := false }
def FlowApartSaid : Prop := flowApartRow.holds Try.pinned (OpenSpec.ofChange flowApartSpec)

/-- ITS FALSE NEIGHBOUR: 'it returns false'. Refute it at one input. -/
def flowApartWrong : ChangeSpec := { name := "flowApart", fn := fun _ => fun
  | [d1, d2, d3] => { results := [.lit (.bool false)], args := [d1, d2, d3] }
  | _ => none }
def FlowApartWrongFalsely : Prop := flowApartRow.holds Try.pinned (OpenSpec.ofChange flowApartWrong)

/-- 'arborlaw.GraphChecks': WHATEVER THE INPUT: true; the input reads as it did. -/
def graphChecksSpec : ChangeSpec := { name := "graphChecks", fn := fun _ => fun
  | [d1, d2] => { results := [.lit (.bool true)], args := [d1, d2] }
  | _ => none }
def graphChecksRow : OpenClaim := { program := "ytbnbhjeknocboaa", sum := "4df5e1a94a067e8111dc9e51b093a8eee49ae21a5a0a5ea30a56e62d01a47ff7", func := "arbor/arborlaw.GraphChecks", spec := "graphChecks", unfollowed := true, recurses := true, plainKeys := false, apart := false }
def GraphChecksSaid : Prop := graphChecksRow.holds Try.pinned (OpenSpec.ofChange graphChecksSpec)

/-- ITS FALSE NEIGHBOUR: 'it returns false'. Refute it at one input. -/
def graphChecksWrong : ChangeSpec := { name := "graphChecks", fn := fun _ => fun
  | [d1, d2] => { results := [.lit (.bool false)], args := [d1, d2] }
  | _ => none }
def GraphChecksWrongFalsely : Prop := graphChecksRow.holds Try.pinned (OpenSpec.ofChange graphChecksWrong)

/-- 'arborlaw.GraphLaws': WHATEVER THE INPUT: true; the input reads as it did. -/
def graphLawsSpec : ChangeSpec := { name := "graphLaws", fn := fun _ => fun
  | [d] => { results := [.lit (.bool true)], args := [d] }
  | _ => none }
def graphLawsRow : OpenClaim := { program := "ytbnbhjeknocboaa", sum := "4df5e1a94a067e8111dc9e51b093a8eee49ae21a5a0a5ea30a56e62d01a47ff7", func := "arbor/arborlaw.GraphLaws", spec := "graphLaws", unfollowed := true, recurses := true, plainKeys := false, apart := false }
def GraphLawsSaid : Prop := graphLawsRow.holds Try.pinned (OpenSpec.ofChange graphLawsSpec)

/-- ITS FALSE NEIGHBOUR: 'it returns false'. Refute it at one input. -/
def graphLawsWrong : ChangeSpec := { name := "graphLaws", fn := fun _ => fun
  | [d] => { results := [.lit (.bool false)], args := [d] }
  | _ => none }
def GraphLawsWrongFalsely : Prop := graphLawsRow.holds Try.pinned (OpenSpec.ofChange graphLawsWrong)

/- THE SECOND FORM. 'bulk': how many values and letters a reading holds, each counted each time it is reached (what is shared counts as often as it is met; a slice's spare places count too). A statement '..UptoSaid' is the law's where the arguments, and the package variables that the reading takes, are together of bulk at most 1048576: NARROWER than '..Said'. Prove '..Said' where nothing that the law and all that it calls make is longer than what came in: it says more and counts as full. Else prove '..UptoSaid'. A law counts once. -/
mutual
def uptoBulk {H : Type} : DataW H → Nat
  | .lit (.string bytes) => bytes.length + 1
  | .lit _ => 1
  | .nil => 1
  | .ptr d => uptoBulk d + 1
  | .slice elems spare => uptoBulkAll elems + uptoBulkAll spare + 1
  | .agg parts => uptoBulkAll parts + 1
  | .iface _ d => uptoBulk d + 1
  | .map entries => uptoBulkEntries entries + 1
  | .held _ => 1
def uptoBulkAll {H : Type} : List (DataW H) → Nat
  | [] => 0
  | d :: r => uptoBulk d + uptoBulkAll r
def uptoBulkEntries {H : Type} : List (Lit × DataW H) → Nat
  | [] => 0
  | x :: r => uptoBulkEntry x + uptoBulkEntries r
def uptoBulkEntry {H : Type} : Lit × DataW H → Nat
  | (.string bytes, d) => bytes.length + uptoBulk d + 1
  | (_, d) => uptoBulk d + 1
 end
def uptoSmall : (H : Type) → List (DataW H) → Bool := fun _ ds => decide (uptoBulkAll ds ≤ 1048576)
def OpenSpec.upto (s : _root_.Go.ChangeSpec) : _root_.Go.OpenSpec := { _root_.Go.OpenSpec.ofChange s with cond := some uptoSmall }

/-- 'arborlaw.GraphMakes', WHERE WHAT IT READS IS OF BULK AT MOST 1048576: true; the input reads as it did. -/
def graphMakesUptoRow : OpenClaim := { program := "ytbnbhjeknocboaa", sum := "4df5e1a94a067e8111dc9e51b093a8eee49ae21a5a0a5ea30a56e62d01a47ff7", func := "arbor/arborlaw.GraphMakes", spec := "graphMakes", unfollowed := true, recurses := true, plainKeys := false, apart := false, narrowed := true }
def GraphMakesUptoSaid : Prop := graphMakesUptoRow.holds Try.pinned (OpenSpec.upto graphMakesSpec)

/-- 'arborlaw.FlowApart', WHERE WHAT IT READS IS OF BULK AT MOST 1048576: true; the input reads as it did. -/
def flowApartUptoRow : OpenClaim := { program := "ytbnbhjeknocboaa", sum := "4df5e1a94a067e8111dc9e51b093a8eee49ae21a5a0a5ea30a56e62d01a47ff7", func := "arbor/arborlaw.FlowApart", spec := "flowApart", unfollowed := true, recurses := true, plainKeys := false, apart := false, narrowed := true }
def FlowApartUptoSaid : Prop := flowApartUptoRow.holds Try.pinned (OpenSpec.upto flowApartSpec)

/-- 'arborlaw.GraphChecks', WHERE WHAT IT READS IS OF BULK AT MOST 1048576: true; the input reads as it did. -/
def graphChecksUptoRow : OpenClaim := { program := "ytbnbhjeknocboaa", sum := "4df5e1a94a067e8111dc9e51b093a8eee49ae21a5a0a5ea30a56e62d01a47ff7", func := "arbor/arborlaw.GraphChecks", spec := "graphChecks", unfollowed := true, recurses := true, plainKeys := false, apart := false, narrowed := true }
def GraphChecksUptoSaid : Prop := graphChecksUptoRow.holds Try.pinned (OpenSpec.upto graphChecksSpec)

/-- 'arborlaw.GraphLaws', WHERE WHAT IT READS IS OF BULK AT MOST 1048576: true; the input reads as it did. -/
def graphLawsUptoRow : OpenClaim := { program := "ytbnbhjeknocboaa", sum := "4df5e1a94a067e8111dc9e51b093a8eee49ae21a5a0a5ea30a56e62d01a47ff7", func := "arbor/arborlaw.GraphLaws", spec := "graphLaws", unfollowed := true, recurses := true, plainKeys := false, apart := false, narrowed := true }
def GraphLawsUptoSaid : Prop := graphLawsUptoRow.holds Try.pinned (OpenSpec.upto graphLawsSpec)

end Rows
end Go.Proofs.Ytbnbhjeknocboaa
