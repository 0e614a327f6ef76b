/-
  No cell of these rows narrows 'for every input' (looked for: loops, veiled, ifaces, maps, wideKeys, modest, calm, conditions, laid).
  DERIVED. THE GIVEN ROWS OF THIS SEAT. 4 by the template 'for every input the law returns true; each argument reads behind the call as it read before'; 0 by the template 'total and deterministic' (their statements: YtnhhohhhpaejmaaTotals.lean).
  GIVEN WITH THE SEED: the statements are not yours to turn. If you find one false, say at which input.
  Laid BY PROGRAM, IN A SANDBOX (cutbox-rows.mjs): the forced cells as the released guide's own fill.sh prints them over the translation b2f9344155e84e0d… (all of the seat's roots in one cut). By AI agents, Wed Nov 11 2026. No macro, syntax, notation, axiom, sorry.
-/
import Derived.Test.YtnhhohhhpaejmaaChecked
import GoSem.Claim
import GoSem.ClaimJoined
import GoSem.ClaimMapViews
import Derived.JoinedTies
import Derived.KernelRfl
namespace Go.Proofs.Ytnhhohhhpaejmaa
/- THE CELL 'sum', in the pinned program and in every row, IS THE sha256 OF THE DUMP (.gsa) THAT YtnhhohhhpaejmaaProg.lean LOADS. Nothing in Lean hashes anything: it is a label: what it is worth is what the hold of that sum in a sandbox is worth. -/
noncomputable def Try.pinned : Pinned := { name := "ytnhhohhhpaejmaa", sum := "b2f9344155e84e0df7584cd7390f0577fef3214c381e65baee7c7a734a01214e", checked := Try.checked }
namespace Rows
def none {H : Type} : Left H := { results := [], args := [] }

/-- 'arborlaw.ChordsOrder': WHATEVER THE INPUT: true; the input reads as it did. -/
def chordsOrderSpec : ChangeSpec := { name := "chordsOrder", fn := fun _ => fun
  | [d] => { results := [.lit (.bool true)], args := [d] }
  | _ => none }
def chordsOrderRow : OpenClaim := { program := "ytnhhohhhpaejmaa", sum := "b2f9344155e84e0df7584cd7390f0577fef3214c381e65baee7c7a734a01214e", func := "arbor/arborlaw.ChordsOrder", spec := "chordsOrder", unfollowed := true, recurses := true, plainKeys := false, apart := false }
def ChordsOrderSaid : Prop := chordsOrderRow.holds Try.pinned (OpenSpec.ofChange chordsOrderSpec)

/-- ITS FALSE NEIGHBOUR: 'it returns false'. Refute it at one input. -/
def chordsOrderWrong : ChangeSpec := { name := "chordsOrder", fn := fun _ => fun
  | [d] => { results := [.lit (.bool false)], args := [d] }
  | _ => none }
def ChordsOrderWrongFalsely : Prop := chordsOrderRow.holds Try.pinned (OpenSpec.ofChange chordsOrderWrong)

/-- 'arborlaw.ChordsCliques': WHATEVER THE INPUT: true; the input reads as it did. -/
def chordsCliquesSpec : ChangeSpec := { name := "chordsCliques", fn := fun _ => fun
  | [d] => { results := [.lit (.bool true)], args := [d] }
  | _ => none }
def chordsCliquesRow : OpenClaim := { program := "ytnhhohhhpaejmaa", sum := "b2f9344155e84e0df7584cd7390f0577fef3214c381e65baee7c7a734a01214e", func := "arbor/arborlaw.ChordsCliques", spec := "chordsCliques", unfollowed := true, recurses := true, plainKeys := false, apart := false }
def ChordsCliquesSaid : Prop := chordsCliquesRow.holds Try.pinned (OpenSpec.ofChange chordsCliquesSpec)

/-- ITS FALSE NEIGHBOUR: 'it returns false'. Refute it at one input. -/
def chordsCliquesWrong : ChangeSpec := { name := "chordsCliques", fn := fun _ => fun
  | [d] => { results := [.lit (.bool false)], args := [d] }
  | _ => none }
def ChordsCliquesWrongFalsely : Prop := chordsCliquesRow.holds Try.pinned (OpenSpec.ofChange chordsCliquesWrong)

/-- 'arborlaw.ChordsOrders': WHATEVER THE INPUT: true; the input reads as it did. -/
def chordsOrdersSpec : ChangeSpec := { name := "chordsOrders", fn := fun _ => fun
  | [d] => { results := [.lit (.bool true)], args := [d] }
  | _ => none }
def chordsOrdersRow : OpenClaim := { program := "ytnhhohhhpaejmaa", sum := "b2f9344155e84e0df7584cd7390f0577fef3214c381e65baee7c7a734a01214e", func := "arbor/arborlaw.ChordsOrders", spec := "chordsOrders", unfollowed := true, recurses := true, plainKeys := false, apart := false }
def ChordsOrdersSaid : Prop := chordsOrdersRow.holds Try.pinned (OpenSpec.ofChange chordsOrdersSpec)

/-- ITS FALSE NEIGHBOUR: 'it returns false'. Refute it at one input. -/
def chordsOrdersWrong : ChangeSpec := { name := "chordsOrders", fn := fun _ => fun
  | [d] => { results := [.lit (.bool false)], args := [d] }
  | _ => none }
def ChordsOrdersWrongFalsely : Prop := chordsOrdersRow.holds Try.pinned (OpenSpec.ofChange chordsOrdersWrong)

/-- 'arborlaw.ChordsIntervals': WHATEVER THE INPUT: true; the input reads as it did. -/
def chordsIntervalsSpec : ChangeSpec := { name := "chordsIntervals", fn := fun _ => fun
  | [d] => { results := [.lit (.bool true)], args := [d] }
  | _ => none }
def chordsIntervalsRow : OpenClaim := { program := "ytnhhohhhpaejmaa", sum := "b2f9344155e84e0df7584cd7390f0577fef3214c381e65baee7c7a734a01214e", func := "arbor/arborlaw.ChordsIntervals", spec := "chordsIntervals", unfollowed := true, recurses := true, plainKeys := false, apart := false }
def ChordsIntervalsSaid : Prop := chordsIntervalsRow.holds Try.pinned (OpenSpec.ofChange chordsIntervalsSpec)

/-- ITS FALSE NEIGHBOUR: 'it returns false'. Refute it at one input. -/
def chordsIntervalsWrong : ChangeSpec := { name := "chordsIntervals", fn := fun _ => fun
  | [d] => { results := [.lit (.bool false)], args := [d] }
  | _ => none }
def ChordsIntervalsWrongFalsely : Prop := chordsIntervalsRow.holds Try.pinned (OpenSpec.ofChange chordsIntervalsWrong)

/- THE SECOND FORM. 'bulk': how many values and letters a reading holds, each counted each time it is reached (what is shared counts as often as it is met; a slice's spare places count too). A statement '..UptoSaid' is the law's where the arguments, and the package variables that the reading takes, are together of bulk at most 1048576: NARROWER than '..Said'. Prove '..Said' where nothing that the law and all that it calls make is longer than what came in: it says more and counts as full. Else prove '..UptoSaid'. A law counts once. -/
mutual
def uptoBulk {H : Type} : DataW H → Nat
  | .lit (.string bytes) => bytes.length + 1
  | .lit _ => 1
  | .nil => 1
  | .ptr d => uptoBulk d + 1
  | .slice elems spare => uptoBulkAll elems + uptoBulkAll spare + 1
  | .agg parts => uptoBulkAll parts + 1
  | .iface _ d => uptoBulk d + 1
  | .map entries => uptoBulkEntries entries + 1
  | .held _ => 1
def uptoBulkAll {H : Type} : List (DataW H) → Nat
  | [] => 0
  | d :: r => uptoBulk d + uptoBulkAll r
def uptoBulkEntries {H : Type} : List (Lit × DataW H) → Nat
  | [] => 0
  | x :: r => uptoBulkEntry x + uptoBulkEntries r
def uptoBulkEntry {H : Type} : Lit × DataW H → Nat
  | (.string bytes, d) => bytes.length + uptoBulk d + 1
  | (_, d) => uptoBulk d + 1
 end
def uptoSmall : (H : Type) → List (DataW H) → Bool := fun _ ds => decide (uptoBulkAll ds ≤ 1048576)
def OpenSpec.upto (s : _root_.Go.ChangeSpec) : _root_.Go.OpenSpec := { _root_.Go.OpenSpec.ofChange s with cond := some uptoSmall }

/-- 'arborlaw.ChordsOrder', WHERE WHAT IT READS IS OF BULK AT MOST 1048576: true; the input reads as it did. -/
def chordsOrderUptoRow : OpenClaim := { program := "ytnhhohhhpaejmaa", sum := "b2f9344155e84e0df7584cd7390f0577fef3214c381e65baee7c7a734a01214e", func := "arbor/arborlaw.ChordsOrder", spec := "chordsOrder", unfollowed := true, recurses := true, plainKeys := false, apart := false, narrowed := true }
def ChordsOrderUptoSaid : Prop := chordsOrderUptoRow.holds Try.pinned (OpenSpec.upto chordsOrderSpec)

/-- 'arborlaw.ChordsCliques', WHERE WHAT IT READS IS OF BULK AT MOST 1048576: true; the input reads as it did. -/
def chordsCliquesUptoRow : OpenClaim := { program := "ytnhhohhhpaejmaa", sum := "b2f9344155e84e0df7584cd7390f0577fef3214c381e65baee7c7a734a01214e", func := "arbor/arborlaw.ChordsCliques", spec := "chordsCliques", unfollowed := true, recurses := true, plainKeys := false, apart := false, narrowed := true }
def ChordsCliquesUptoSaid : Prop := chordsCliquesUptoRow.holds Try.pinned (OpenSpec.upto chordsCliquesSpec)

/-- 'arborlaw.ChordsOrders', WHERE WHAT IT READS IS OF BULK AT MOST 1048576: true; the input reads as it did. -/
def chordsOrdersUptoRow : OpenClaim := { program := "ytnhhohhhpaejmaa", sum := "b2f9344155e84e0df7584cd7390f0577fef3214c381e65baee7c7a734a01214e", func := "arbor/arborlaw.ChordsOrders", spec := "chordsOrders", unfollowed := true, recurses := true, plainKeys := false, apart := false, narrowed := true }
def ChordsOrdersUptoSaid : Prop := chordsOrdersUptoRow.holds Try.pinned (OpenSpec.upto chordsOrdersSpec)

/-- 'arborlaw.ChordsIntervals', WHERE WHAT IT READS IS OF BULK AT MOST 1048576: true; the input reads as it did. -/
def chordsIntervalsUptoRow : OpenClaim := { program := "ytnhhohhhpaejmaa", sum := "b2f9344155e84e0df7584cd7390f0577fef3214c381e65baee7c7a734a01214e", func := "arbor/arborlaw.ChordsIntervals", spec := "chordsIntervals", unfollowed := true, recurses := true, plainKeys := false, apart := false, narrowed := true }
def ChordsIntervalsUptoSaid : Prop := chordsIntervalsUptoRow.holds Try.pinned (OpenSpec.upto chordsIntervalsSpec)

end Rows
end Go.Proofs.Ytnhhohhhpaejmaa
