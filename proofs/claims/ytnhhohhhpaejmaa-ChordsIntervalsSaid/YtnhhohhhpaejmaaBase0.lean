/- Contracts of the small functions of arborref: F; what all texts need. -/
import Derived.Test.YtnhhohhhpaejmaaChecked
import Derived.Test.YtnhhohhhpaejmaaPA
import Derived.WalkKit
import Derived.Outline
import Derived.BigQuiet
import Derived.Deep.QuietTactic
import Derived.WalkLawsBesides
namespace Go.Proofs.Ytnhhohhhpaejmaa
open Go.RowKit

theorem info3 : (Try.prog.info? 3).map (fun i => (i.zero, i.size, i.bytes)) = some (some (.int .i64 0), 1, 8) := by kernel_rfl
theorem info4 : (Try.prog.info? 4).map (fun i => (i.zero, i.size, i.bytes)) = some (some (.bool false), 1, 1) := by kernel_rfl
theorem infoS : (Try.prog.info? 29).map (fun i => (i.zero, i.size, i.bytes)) = some (some (.slice none 0 0), 1, 24) := by kernel_rfl

theorem F_any (c a : Int) (w : World) :
    Calls Try.prog 21 #[.int .i64 c, .int .i64 a] w fun e w' => e = .returned (.agg #[.int .i64 c, .int .i64 a]) ∧ w.alloc (.cells #[.int .i64 c, .int .i64 a] 27) = w' := by
  go_enter Try.func21, Try.ntmps21
  go_wp2
  exact bodyPost_ret (v := .agg #[.int .i64 c, .int .i64 a]) (by simp [results, Try.results21, go_sem]) rfl ⟨rfl, rfl⟩

theorem below2 (w : World) (o o' : Obj) : Below w.heap.size w ((w.alloc o).alloc o') := ((Below.refl _ _).alloc (Nat.le_refl _) _).alloc (by simp) _
theorem below1 (w : World) (o : Obj) : Below w.heap.size w (w.alloc o) := (Below.refl _ _).alloc (Nat.le_refl _) _
/-- A fault comes back, and what was there is as it was. -/
def Faulty (S : Int → Int → Prop) (w : World) (e : Ending) (w' : World) : Prop := ∃ c a, S c a ∧ e = .returned (.agg #[.int .i64 c, .int .i64 a]) ∧ Below w.heap.size w w'

end Go.Proofs.Ytnhhohhhpaejmaa
