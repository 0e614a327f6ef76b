/- Rows of numbers, under way. No program in sight. -/
import Derived.Test.YtnhhohhhpaejmaaPD
import Derived.Test.YtnhhohhhpaejmaaQueue
import Derived.Test.YtnhhohhhpaejmaaPA
import Derived.BigQuiet
namespace Go.Proofs.Ytnhhohhhpaejmaa
open Go.RowKit

/-- A row of numbers, under way. -/
structure RiSt (w wr : World) (b N : Nat) (F : Nat → Int) : Prop where
  hb : Below w.heap.size w wr
  nI : w.heap.size ≤ b
  row : wr.rowIs b 3 N (ri F)
theorem RiSt.set {w wr : World} {b N : Nat} {F : Nat → Int} (h : RiSt w wr b N F) (k : Nat) (x : Int) : RiSt w (wr.setCell ⟨b, k, none⟩ (.int .i64 x)) b N (fun q => if q = k then x else F q) :=
  ⟨h.hb.setCell h.nI _, h.nI, row_set_ri h.row k x⟩
theorem RiSt.below {w wr w' : World} {b N : Nat} {F : Nat → Int} (h : RiSt w wr b N F) (hb : Below wr.heap.size wr w') : RiSt w w' b N F :=
  ⟨h.hb.trans (hb.mono h.hb.size), h.nI, h.row.of_block (hb.block _ h.row.lt)⟩
theorem RiSt.congr {w wr : World} {b N : Nat} {F F' : Nat → Int} (h : RiSt w wr b N F) (e : ∀ q, q < N → F q = F' q) : RiSt w wr b N F' := ⟨h.hb, h.nI, row_ri h.row e⟩
theorem wrap_midF {x : Int} (h0 : -9223372036854775808 ≤ x) (h1 : x < 9223372036854775808) : IntKind.i64.wrap x = x := by
  simp [IntKind.wrap, IntKind.bits, IntKind.signed]; omega
theorem one_cellF (w : World) (a : Addr) (x v : Value) (t : TypeId) : ((w.setCell a x).alloc (.cells #[v] t)).cell? ((⟨w.heap.size, 0, none⟩ : Addr).add 0) = some v := by
  rw [Addr.add_lit, World.cell?_alloc_at _ _ _ _ (size_setCell w a x).symm]; rfl

end Go.Proofs.Ytnhhohhhpaejmaa
