/-
  NARROWER THAN 'FOR EVERY INPUT', by the rows' own cells (each row's printed sentence says how): LivePlays: calm.
  DERIVED. THE GIVEN ROWS OF THIS SEAT. 5 by the template 'for every input the law returns true; each argument reads behind the call as it read before'; 0 by the template 'total and deterministic' (their statements: YtnmljgjegodkaaaTotals.lean).
  GIVEN WITH THE SEED: the statements are not yours to turn. If you find one false, say at which input.
  Laid BY PROGRAM, IN A SANDBOX (cutbox-rows.mjs): the forced cells as the released guide's own fill.sh prints them over the translation 59841c2a5335474d… (all of the seat's roots in one cut). By AI agents, Wed Nov 11 2026. No macro, syntax, notation, axiom, sorry.
-/
import Derived.Test.YtnmljgjegodkaaaChecked
import GoSem.Claim
import GoSem.ClaimJoined
import GoSem.ClaimMapViews
import Derived.JoinedTies
import Derived.KernelRfl
namespace Go.Proofs.Ytnmljgjegodkaaa
/- THE CELL 'sum', in the pinned program and in every row, IS THE sha256 OF THE DUMP (.gsa) THAT YtnmljgjegodkaaaProg.lean LOADS. Nothing in Lean hashes anything: it is a label: what it is worth is what the hold of that sum in a sandbox is worth. -/
noncomputable def Try.pinned : Pinned := { name := "ytnmljgjegodkaaa", sum := "59841c2a5335474d9867622419ed75f51474bac9677b89e0a9f770225ceb428d", checked := Try.checked }
namespace Rows
def none {H : Type} : Left H := { results := [], args := [] }

/-- 'arborlaw.WalksPostman': WHATEVER THE INPUT: true; the input reads as it did. -/
def walksPostmanSpec : ChangeSpec := { name := "walksPostman", fn := fun _ => fun
  | [d] => { results := [.lit (.bool true)], args := [d] }
  | _ => none }
def walksPostmanRow : OpenClaim := { program := "ytnmljgjegodkaaa", sum := "59841c2a5335474d9867622419ed75f51474bac9677b89e0a9f770225ceb428d", func := "arbor/arborlaw.WalksPostman", spec := "walksPostman", recurses := true, plainKeys := false, apart := false }
def WalksPostmanSaid : Prop := walksPostmanRow.holds Try.pinned (OpenSpec.ofChange walksPostmanSpec)

/-- ITS FALSE NEIGHBOUR: 'it returns false'. Refute it at one input. -/
def walksPostmanWrong : ChangeSpec := { name := "walksPostman", fn := fun _ => fun
  | [d] => { results := [.lit (.bool false)], args := [d] }
  | _ => none }
def WalksPostmanWrongFalsely : Prop := walksPostmanRow.holds Try.pinned (OpenSpec.ofChange walksPostmanWrong)

/-- 'arborlaw.WalksEuler': WHATEVER THE INPUT: true; the input reads as it did. -/
def walksEulerSpec : ChangeSpec := { name := "walksEuler", fn := fun _ => fun
  | [d] => { results := [.lit (.bool true)], args := [d] }
  | _ => none }
def walksEulerRow : OpenClaim := { program := "ytnmljgjegodkaaa", sum := "59841c2a5335474d9867622419ed75f51474bac9677b89e0a9f770225ceb428d", func := "arbor/arborlaw.WalksEuler", spec := "walksEuler", recurses := true, plainKeys := false, apart := false }
def WalksEulerSaid : Prop := walksEulerRow.holds Try.pinned (OpenSpec.ofChange walksEulerSpec)

/-- ITS FALSE NEIGHBOUR: 'it returns false'. Refute it at one input. -/
def walksEulerWrong : ChangeSpec := { name := "walksEuler", fn := fun _ => fun
  | [d] => { results := [.lit (.bool false)], args := [d] }
  | _ => none }
def WalksEulerWrongFalsely : Prop := walksEulerRow.holds Try.pinned (OpenSpec.ofChange walksEulerWrong)

/-- 'arborlaw.WalksWay': WHATEVER THE INPUT: true; the input reads as it did. -/
def walksWaySpec : ChangeSpec := { name := "walksWay", fn := fun _ => fun
  | [d1, d2, d3] => { results := [.lit (.bool true)], args := [d1, d2, d3] }
  | _ => none }
def walksWayRow : OpenClaim := { program := "ytnmljgjegodkaaa", sum := "59841c2a5335474d9867622419ed75f51474bac9677b89e0a9f770225ceb428d", func := "arbor/arborlaw.WalksWay", spec := "walksWay", recurses := true, plainKeys := false, apart := false }
def WalksWaySaid : Prop := walksWayRow.holds Try.pinned (OpenSpec.ofChange walksWaySpec)

/-- ITS FALSE NEIGHBOUR: 'it returns false'. Refute it at one input. -/
def walksWayWrong : ChangeSpec := { name := "walksWay", fn := fun _ => fun
  | [d1, d2, d3] => { results := [.lit (.bool false)], args := [d1, d2, d3] }
  | _ => none }
def WalksWayWrongFalsely : Prop := walksWayRow.holds Try.pinned (OpenSpec.ofChange walksWayWrong)

/-- 'arborlaw.LivePlays': WHATEVER THE INPUT: true; the input reads as it did. -/
def livePlaysSpec : ChangeSpec := { name := "livePlays", fn := fun _ => fun
  | [d] => { results := [.lit (.bool true)], args := [d] }
  | _ => none }
def livePlaysRow : OpenClaim := { program := "ytnmljgjegodkaaa", sum := "59841c2a5335474d9867622419ed75f51474bac9677b89e0a9f770225ceb428d", func := "arbor/arborlaw.LivePlays", spec := "livePlays", inPlace := ["sync/atomic.LoadUint32", "(*internal/sync.Mutex).Lock", "internal/race.Disable", "sync/atomic.CompareAndSwapInt32", "internal/race.Enable", "internal/race.Acquire", "(*internal/sync.Mutex).lockSlow", "internal/sync.runtime_canSpin", "internal/sync.runtime_doSpin", "internal/sync.throw", "internal/sync.runtime_nanotime", "internal/sync.runtime_SemacquireMutex", "sync/atomic.AddInt32", "(*internal/sync.Mutex).Unlock", "internal/race.ReleaseMerge", "(*internal/sync.Mutex).unlockSlow", "internal/sync.fatal", "internal/sync.runtime_Semrelease", "sync/atomic.StoreUint32"], unfollowed := true, recurses := true, plainKeys := false, leaving := true, apart := false, calm := true, outside := [.timePasses] }
def LivePlaysSaid : Prop := livePlaysRow.holds Try.pinned (OpenSpec.ofChange livePlaysSpec)

/-- ITS FALSE NEIGHBOUR: 'it returns false'. Refute it at one input. -/
def livePlaysWrong : ChangeSpec := { name := "livePlays", fn := fun _ => fun
  | [d] => { results := [.lit (.bool false)], args := [d] }
  | _ => none }
def LivePlaysWrongFalsely : Prop := livePlaysRow.holds Try.pinned (OpenSpec.ofChange livePlaysWrong)

/-- 'arborlaw.WalksFar': WHATEVER THE INPUT: true; the input reads as it did. -/
def walksFarSpec : ChangeSpec := { name := "walksFar", fn := fun _ => fun
  | [d1, d2, d3] => { results := [.lit (.bool true)], args := [d1, d2, d3] }
  | _ => none }
def walksFarRow : OpenClaim := { program := "ytnmljgjegodkaaa", sum := "59841c2a5335474d9867622419ed75f51474bac9677b89e0a9f770225ceb428d", func := "arbor/arborlaw.WalksFar", spec := "walksFar", inPlace := ["sync/atomic.StoreInt64", "(*sync.WaitGroup).Add", "internal/race.ReleaseMerge", "internal/race.Disable", "internal/race.Enable", "internal/synctest.IsInBubble", "internal/synctest.Associate[sync.WaitGroup]", "sync.fatal", "sync/atomic.OrUint64", "sync/atomic.AddUint64", "internal/race.Read", "sync/atomic.LoadUint64", "sync/atomic.StoreUint64", "internal/synctest.Disassociate[sync.WaitGroup]", "sync.runtime_Semrelease", "(*sync.WaitGroup).Done", "sync/atomic.LoadInt64", "sync/atomic.CompareAndSwapInt64", "(*sync.WaitGroup).Wait", "internal/race.Acquire", "internal/synctest.IsAssociated[sync.WaitGroup]", "sync/atomic.CompareAndSwapUint64", "internal/race.Write", "sync.runtime_SemacquireWaitGroup"], unfollowed := true, recurses := true, plainKeys := false, leaving := true, apart := false }
def WalksFarSaid : Prop := walksFarRow.holds Try.pinned (OpenSpec.ofChange walksFarSpec)

/-- ITS FALSE NEIGHBOUR: 'it returns false'. Refute it at one input. -/
def walksFarWrong : ChangeSpec := { name := "walksFar", fn := fun _ => fun
  | [d1, d2, d3] => { results := [.lit (.bool false)], args := [d1, d2, d3] }
  | _ => none }
def WalksFarWrongFalsely : Prop := walksFarRow.holds Try.pinned (OpenSpec.ofChange walksFarWrong)

/- THE SECOND FORM. 'bulk': how many values and letters a reading holds, each counted each time it is reached (what is shared counts as often as it is met; a slice's spare places count too). A statement '..UptoSaid' is the law's where the arguments, and the package variables that the reading takes, are together of bulk at most 1048576: NARROWER than '..Said'. Prove '..Said' where nothing that the law and all that it calls make is longer than what came in: it says more and counts as full. Else prove '..UptoSaid'. A law counts once. -/
mutual
def uptoBulk {H : Type} : DataW H → Nat
  | .lit (.string bytes) => bytes.length + 1
  | .lit _ => 1
  | .nil => 1
  | .ptr d => uptoBulk d + 1
  | .slice elems spare => uptoBulkAll elems + uptoBulkAll spare + 1
  | .agg parts => uptoBulkAll parts + 1
  | .iface _ d => uptoBulk d + 1
  | .map entries => uptoBulkEntries entries + 1
  | .held _ => 1
def uptoBulkAll {H : Type} : List (DataW H) → Nat
  | [] => 0
  | d :: r => uptoBulk d + uptoBulkAll r
def uptoBulkEntries {H : Type} : List (Lit × DataW H) → Nat
  | [] => 0
  | x :: r => uptoBulkEntry x + uptoBulkEntries r
def uptoBulkEntry {H : Type} : Lit × DataW H → Nat
  | (.string bytes, d) => bytes.length + uptoBulk d + 1
  | (_, d) => uptoBulk d + 1
 end
def uptoSmall : (H : Type) → List (DataW H) → Bool := fun _ ds => decide (uptoBulkAll ds ≤ 1048576)
def OpenSpec.upto (s : _root_.Go.ChangeSpec) : _root_.Go.OpenSpec := { _root_.Go.OpenSpec.ofChange s with cond := some uptoSmall }

/-- 'arborlaw.WalksPostman', WHERE WHAT IT READS IS OF BULK AT MOST 1048576: true; the input reads as it did. -/
def walksPostmanUptoRow : OpenClaim := { program := "ytnmljgjegodkaaa", sum := "59841c2a5335474d9867622419ed75f51474bac9677b89e0a9f770225ceb428d", func := "arbor/arborlaw.WalksPostman", spec := "walksPostman", recurses := true, plainKeys := false, apart := false, narrowed := true }
def WalksPostmanUptoSaid : Prop := walksPostmanUptoRow.holds Try.pinned (OpenSpec.upto walksPostmanSpec)

/-- 'arborlaw.WalksEuler', WHERE WHAT IT READS IS OF BULK AT MOST 1048576: true; the input reads as it did. -/
def walksEulerUptoRow : OpenClaim := { program := "ytnmljgjegodkaaa", sum := "59841c2a5335474d9867622419ed75f51474bac9677b89e0a9f770225ceb428d", func := "arbor/arborlaw.WalksEuler", spec := "walksEuler", recurses := true, plainKeys := false, apart := false, narrowed := true }
def WalksEulerUptoSaid : Prop := walksEulerUptoRow.holds Try.pinned (OpenSpec.upto walksEulerSpec)

/-- 'arborlaw.WalksWay', WHERE WHAT IT READS IS OF BULK AT MOST 1048576: true; the input reads as it did. -/
def walksWayUptoRow : OpenClaim := { program := "ytnmljgjegodkaaa", sum := "59841c2a5335474d9867622419ed75f51474bac9677b89e0a9f770225ceb428d", func := "arbor/arborlaw.WalksWay", spec := "walksWay", recurses := true, plainKeys := false, apart := false, narrowed := true }
def WalksWayUptoSaid : Prop := walksWayUptoRow.holds Try.pinned (OpenSpec.upto walksWaySpec)

/-- 'arborlaw.LivePlays', WHERE WHAT IT READS IS OF BULK AT MOST 1048576: true; the input reads as it did. -/
def livePlaysUptoRow : OpenClaim := { program := "ytnmljgjegodkaaa", sum := "59841c2a5335474d9867622419ed75f51474bac9677b89e0a9f770225ceb428d", func := "arbor/arborlaw.LivePlays", spec := "livePlays", inPlace := ["sync/atomic.LoadUint32", "(*internal/sync.Mutex).Lock", "internal/race.Disable", "sync/atomic.CompareAndSwapInt32", "internal/race.Enable", "internal/race.Acquire", "(*internal/sync.Mutex).lockSlow", "internal/sync.runtime_canSpin", "internal/sync.runtime_doSpin", "internal/sync.throw", "internal/sync.runtime_nanotime", "internal/sync.runtime_SemacquireMutex", "sync/atomic.AddInt32", "(*internal/sync.Mutex).Unlock", "internal/race.ReleaseMerge", "(*internal/sync.Mutex).unlockSlow", "internal/sync.fatal", "internal/sync.runtime_Semrelease", "sync/atomic.StoreUint32"], unfollowed := true, recurses := true, plainKeys := false, leaving := true, apart := false, calm := true, outside := [.timePasses], narrowed := true }
def LivePlaysUptoSaid : Prop := livePlaysUptoRow.holds Try.pinned (OpenSpec.upto livePlaysSpec)

/-- 'arborlaw.WalksFar', WHERE WHAT IT READS IS OF BULK AT MOST 1048576: true; the input reads as it did. -/
def walksFarUptoRow : OpenClaim := { program := "ytnmljgjegodkaaa", sum := "59841c2a5335474d9867622419ed75f51474bac9677b89e0a9f770225ceb428d", func := "arbor/arborlaw.WalksFar", spec := "walksFar", inPlace := ["sync/atomic.StoreInt64", "(*sync.WaitGroup).Add", "internal/race.ReleaseMerge", "internal/race.Disable", "internal/race.Enable", "internal/synctest.IsInBubble", "internal/synctest.Associate[sync.WaitGroup]", "sync.fatal", "sync/atomic.OrUint64", "sync/atomic.AddUint64", "internal/race.Read", "sync/atomic.LoadUint64", "sync/atomic.StoreUint64", "internal/synctest.Disassociate[sync.WaitGroup]", "sync.runtime_Semrelease", "(*sync.WaitGroup).Done", "sync/atomic.LoadInt64", "sync/atomic.CompareAndSwapInt64", "(*sync.WaitGroup).Wait", "internal/race.Acquire", "internal/synctest.IsAssociated[sync.WaitGroup]", "sync/atomic.CompareAndSwapUint64", "internal/race.Write", "sync.runtime_SemacquireWaitGroup"], unfollowed := true, recurses := true, plainKeys := false, leaving := true, apart := false, narrowed := true }
def WalksFarUptoSaid : Prop := walksFarUptoRow.holds Try.pinned (OpenSpec.upto walksFarSpec)

end Rows
end Go.Proofs.Ytnmljgjegodkaaa
