/- All ways to make edges arcs, by the bits of a number. No program in sight. -/
import Derived.Test.YtfflnpcbpcldeaaDoorStan
namespace Go.Proofs.YtfflnpcbpcldeaaDoor
open Go Go.RowKit

/-- Edges as arcs: those whose bit is set go the other way. -/
def orient : List (Int × Int) → Nat → List (Int × Int)
  | [], _ => []
  | e :: l, s => (if s % 2 = 1 then (e.2, e.1) else e) :: orient l (s / 2)
theorem orient_length : ∀ (l : List (Int × Int)) (s : Nat), (orient l s).length = l.length
  | [], _ => rfl
  | e :: l, s => by rw [orient, List.length_cons, List.length_cons, orient_length l]
theorem orient_at : ∀ (l : List (Int × Int)) (s : Nat) {i : Nat}, i < l.length → (orient l s).getD i (0, 0) = if s.testBit i = true then ((l.getD i (0, 0)).2, (l.getD i (0, 0)).1) else l.getD i (0, 0)
  | [], _, _, h => absurd h (Nat.not_lt_zero _)
  | e :: l, s, 0, _ => by
    rw [orient]
    simp only [List.getD_cons_zero, Nat.testBit_zero, decide_eq_true_eq]
  | e :: l, s, i + 1, h => by
    rw [orient, List.getD_cons_succ, orient_at l (s / 2) (by simpa using h), List.getD_cons_succ, Nat.testBit_succ]
theorem sumI_orient : ∀ (l : List (Int × Int)) (g : List (Int × Int) → Int), sumI (fun s => g (orient l s)) (2 ^ l.length) = sumO l g
  | [], g => by simp [sumI, sumO, orient]
  | e :: l, g => by
    rw [List.length_cons, Nat.pow_succ, Nat.mul_comm, sumI_two, sumI_add, sumO, ← sumI_orient l (fun a => g (e :: a)), ← sumI_orient l (fun a => g ((e.2, e.1) :: a))]
    congr 1
    · refine sumI_congr fun i _ => ?_
      rw [orient, if_neg (by omega), show 2 * i / 2 = i by omega]
    · refine sumI_congr fun i _ => ?_
      rw [orient, if_pos (by omega), show (2 * i + 1) / 2 = i by omega]
theorem orient_succ {l : List (Int × Int)} {s i : Nat} (h : i < l.length) : (orient l s).take (i + 1) = (orient l s).take i ++ [if s.testBit i = true then ((l.getD i (0, 0)).2, (l.getD i (0, 0)).1) else l.getD i (0, 0)] := by
  have h2 : i < (orient l s).length := by rw [orient_length]; exact h
  rw [List.take_succ_eq_append_getElem h2, ← orient_at l s h]
  simp [List.getD, h2]

end Go.Proofs.YtfflnpcbpcldeaaDoor
