/- Rows of memory that are told by a function, of integers or bools. No program in sight. -/
import Derived.Test.YtmhcnekbfngafaaMem
namespace Go.Proofs.Ytmhcnekbfngafaa
open Go.RowKit

def ri (f : Nat → Int) : Nat → Value := fun k => .int .i64 (f k)
def rn (f : Nat → Nat) : Nat → Value := fun k => .int .i64 (f k : Int)
def rb (f : Nat → Bool) : Nat → Value := fun k => .bool (f k)
theorem row_ri {w : World} {g g' : Nat → Int} {b t n : Nat} (h : w.rowIs b t n (ri g)) (e : ∀ k, k < n → g k = g' k) : w.rowIs b t n (ri g') := h.congr fun k hk => by simp [ri, e k hk]
theorem row_rn {w : World} {g g' : Nat → Nat} {b t n : Nat} (h : w.rowIs b t n (rn g)) (e : ∀ k, k < n → g k = g' k) : w.rowIs b t n (rn g') := h.congr fun k hk => by simp [rn, e k hk]
theorem row_rb {w : World} {g g' : Nat → Bool} {b t n : Nat} (h : w.rowIs b t n (rb g)) (e : ∀ k, k < n → g k = g' k) : w.rowIs b t n (rb g') := h.congr fun k hk => by simp [rb, e k hk]
theorem row_set_ri {w : World} {g : Nat → Int} {b t n : Nat} (h : w.rowIs b t n (ri g)) (k : Nat) (x : Int) : (w.setCell ⟨b, k, none⟩ (.int .i64 x)).rowIs b t n (ri fun q => if q = k then x else g q) :=
  (h.set k _).congr fun q _ => by simp only [ri]; split <;> rfl
theorem row_set_rn {w : World} {g : Nat → Nat} {b t n : Nat} (h : w.rowIs b t n (rn g)) (k x : Nat) : (w.setCell ⟨b, k, none⟩ (.int .i64 (x : Int))).rowIs b t n (rn fun q => if q = k then x else g q) :=
  (h.set k _).congr fun q _ => by simp only [rn]; split <;> rfl
theorem row_set_rb {w : World} {g : Nat → Bool} {b t n : Nat} (h : w.rowIs b t n (rb g)) (k : Nat) (x : Bool) : (w.setCell ⟨b, k, none⟩ (.bool x)).rowIs b t n (rb fun q => if q = k then x else g q) :=
  (h.set k _).congr fun q _ => by simp only [rb]; split <;> rfl
theorem size_setCell (w : World) (a : Addr) (x : Value) : (w.setCell a x).heap.size = w.heap.size := by simp [World.setCell]

end Go.Proofs.Ytmhcnekbfngafaa
