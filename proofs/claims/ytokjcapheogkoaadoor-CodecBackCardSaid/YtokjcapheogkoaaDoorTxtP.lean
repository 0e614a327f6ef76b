/- The text of a graph: plain. -/
import Derived.Lib.ItoaNum
import Derived.Lib.UnsafeStr
import Derived.Lib.AppendStr
import Derived.Laws.Concat
namespace Go.Proofs.YtokjcapheogkoaaDoor
open Go

/-- A text of bytes. -/
def bA (l : List UInt8) : ByteArray := ⟨l.toArray⟩
theorem bA_size (l : List UInt8) : (bA l).size = l.length := by show l.toArray.size = _; simp
theorem bA_append (l m : List UInt8) : bA l ++ bA m = bA (l ++ m) := by unfold bA; rw [ByteArray.mk_append_mk]
theorem bA_cells (l : List UInt8) : Lib.strCells (bA l) = Lib.byteCells l := by simp [Lib.strCells, Lib.byteCells, bA]
/-- Of one edge. -/
def txtE (e : Int × Int) : List UInt8 := 32 :: (Lib.decDigits e.1.toNat ++ 45 :: Lib.decDigits e.2.toNat)
def txtN (n : Nat) (L : List (Int × Int)) : List UInt8 := Lib.decDigits n ++ 58 :: (L.flatMap txtE ++ [10])
theorem digits_few : ∀ n, n < 1000 → (Lib.decDigits n).length ≤ 3 := fun n hn => by
  rw [Lib.decDigits]
  split
  · simp
  · rw [Lib.decDigits]
    split
    · simp
    · rw [Lib.decDigits, dif_pos (by omega)]; simp
theorem txtE_few {e : Int × Int} (h1 : e.1.toNat < 1000) (h2 : e.2.toNat < 1000) : (txtE e).length ≤ 8 := by
  have := digits_few _ h1
  have := digits_few _ h2
  unfold txtE
  simp
  omega
theorem txtL_few {L : List (Int × Int)} (h : ∀ e ∈ L, e.1.toNat < 1000 ∧ e.2.toNat < 1000) : (L.flatMap txtE).length ≤ 8 * L.length := by
  induction L with
  | nil => simp
  | cons e L ih =>
    have h1 := txtE_few (h e (by simp)).1 (h e (by simp)).2
    have h2 := ih fun x hx => h x (by simp [hx])
    rw [List.flatMap_cons, List.length_append, List.length_cons]
    omega

end Go.Proofs.YtokjcapheogkoaaDoor
