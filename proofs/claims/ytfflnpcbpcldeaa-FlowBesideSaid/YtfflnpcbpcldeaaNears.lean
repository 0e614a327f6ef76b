/- The function literals of graph.Complement, graph.Join, graph.Product and arborlaw.GraphPuts. -/
import Derived.Test.YtfflnpcbpcldeaaTable
import Derived.BigQuiet
import Derived.WalkArith
namespace Go.Proofs.Ytfflnpcbpcldeaa
open Go.RowKit

/-- A table, to be read. -/
def HasGrid (w : World) (v : Value) (n : Nat) (G : Nat → Nat → Bool) : Prop := ∃ B, IsGrid w B v n G
theorem HasGrid.below {w w' : World} {v : Value} {n : Nat} {G : Nat → Nat → Bool} (h : HasGrid w v n G) (hb : Below w.heap.size w w') : HasGrid w' v n G := by
  obtain ⟨B, h⟩ := h
  exact ⟨B, h.below hb⟩
/-- One entry, under names of its own. -/
theorem HasGrid.entry {w : World} {v : Value} {n : Nat} {G : Nat → Nat → Bool} (h : HasGrid w v n G) {i j : Nat} (hi : i < n) (hj : j < n) :
    ∃ b o c r, v = .slice (some ⟨b, o, none⟩) n c ∧ w.cell? ⟨b, o + i, none⟩ = some (.slice (some ⟨r, 0, none⟩) n n) ∧ w.cell? ⟨r, j, none⟩ = some (.bool (G i j)) := by
  obtain ⟨B, a, cap, b, o, R, rfl, h2, h3, h4⟩ := h
  obtain rfl := (h3 (by omega)).1
  exact ⟨b, o, cap, R i, rfl, h4.head i hi, h4.cell hi hj⟩

/-- What Join tells of two nodes. -/
def joinP (S T : Nat → Nat → Bool) (na i j : Nat) : Bool := if j < na then S i j else if na ≤ i then T (i - na) (j - na) else true
/-- What Product tells of two nodes. -/
def prodP (S T : Nat → Nat → Bool) (nb i j : Nat) : Bool := (decide (i / nb = j / nb) && T (i % nb) (j % nb)) || (decide (i % nb = j % nb) && S (i / nb) (j / nb))

set_option maxHeartbeats 1600000 in
theorem complement1_any {n : Nat} {G : Nat → Nat → Bool} {v : Value} {T i j : Nat} (w : World) (hv : w.cell? ⟨T, 0, none⟩ = some v) (hg : HasGrid w v n G) (hi : i < n) (hj : j < n) :
    Calls Try.prog 95 #[.int .i64 (i : Int), .int .i64 (j : Int), .pointer (some ⟨T, 0, none⟩)] w fun e w' => e = .returned (.bool (!G i j)) ∧ Below w.heap.size w w' := by
  obtain ⟨b, o, c, r, rfl, h1, h2⟩ := hg.entry hi hj
  clear hg
  generalize hx : G i j = x at *
  clear hx
  go_enter Try.func95, Try.ntmps95
  go_wp2
  go_ret
  exact ⟨rfl, Below.refl _ _⟩

set_option maxHeartbeats 1600000 in
theorem join1_any {na nb : Nat} {S T : Nat → Nat → Bool} {vx vy : Value} {A X Y i j : Nat} (w : World) (ha : w.cell? ⟨A, 0, none⟩ = some (.int .i64 (na : Int))) (hx : w.cell? ⟨X, 0, none⟩ = some vx) (hy : w.cell? ⟨Y, 0, none⟩ = some vy)
    (gx : HasGrid w vx na S) (gy : HasGrid w vy nb T) (hij : i < j) (hj : j < na + nb) (hb : na + nb ≤ 100) :
    Calls Try.prog 59 #[.int .i64 (i : Int), .int .i64 (j : Int), .pointer (some ⟨A, 0, none⟩), .pointer (some ⟨X, 0, none⟩), .pointer (some ⟨Y, 0, none⟩)] w fun e w' => e = .returned (.bool (joinP S T na i j)) ∧ Below w.heap.size w w' := by
  unfold joinP
  by_cases h1 : j < na
  · obtain ⟨b, o, c, r, rfl, c1, c2⟩ := gx.entry (show i < na by omega) h1
    rw [if_pos h1]
    clear gx gy
    generalize hz : S i j = z at *
    clear hz
    go_enter Try.func59, Try.ntmps59
    go_wp2
    go_ret
    exact ⟨rfl, Below.refl _ _⟩
  · rw [if_neg h1]
    by_cases h2 : na ≤ i
    · obtain ⟨b, o, c, r, rfl, c1, c2⟩ := gy.entry (show i - na < nb by omega) (show j - na < nb by omega)
      rw [if_pos h2]
      clear gx gy
      generalize hz : T (i - na) (j - na) = z at *
      clear hz
      go_enter Try.func59, Try.ntmps59
      go_wp2
      go_quiet (fail)
      go_wp2
      go_ret
      exact ⟨rfl, Below.drewN' (Below.refl _ _) _⟩
    · rw [if_neg h2]
      clear gx gy
      go_enter Try.func59, Try.ntmps59
      go_wp2
      go_ret
      exact ⟨rfl, Below.refl _ _⟩

set_option maxHeartbeats 1600000 in
theorem puts1_any {na nb : Nat} {S T : Nat → Nat → Bool} {vx vy : Value} {A X Y i j : Nat} (w : World) (ha : w.cell? ⟨A, 0, none⟩ = some (.int .i64 (na : Int))) (hx : w.cell? ⟨X, 0, none⟩ = some vx) (hy : w.cell? ⟨Y, 0, none⟩ = some vy)
    (gx : HasGrid w vx na S) (gy : HasGrid w vy nb T) (hij : i < j) (hj : j < na + nb) (hb : na + nb ≤ 100) :
    Calls Try.prog 20 #[.int .i64 (i : Int), .int .i64 (j : Int), .pointer (some ⟨A, 0, none⟩), .pointer (some ⟨X, 0, none⟩), .pointer (some ⟨Y, 0, none⟩)] w fun e w' => e = .returned (.bool (joinP S T na i j)) ∧ Below w.heap.size w w' := by
  unfold joinP
  by_cases h1 : j < na
  · obtain ⟨b, o, c, r, rfl, c1, c2⟩ := gx.entry (show i < na by omega) h1
    rw [if_pos h1]
    clear gx gy
    generalize hz : S i j = z at *
    clear hz
    have h0 : i < na := by omega
    go_enter Try.func20, Try.ntmps20
    go_wp2
    go_ret
    exact ⟨rfl, Below.refl _ _⟩
  · rw [if_neg h1]
    by_cases h2 : na ≤ i
    · obtain ⟨b, o, c, r, rfl, c1, c2⟩ := gy.entry (show i - na < nb by omega) (show j - na < nb by omega)
      rw [if_pos h2]
      clear gx gy
      generalize hz : T (i - na) (j - na) = z at *
      clear hz
      have h3 : na ≤ j := by omega
      go_enter Try.func20, Try.ntmps20
      go_wp2
      go_quiet (fail)
      go_wp2
      go_ret
      exact ⟨rfl, Below.drewN' (Below.refl _ _) _⟩
    · rw [if_neg h2]
      clear gx gy
      have h3 : i < na := by omega
      go_enter Try.func20, Try.ntmps20
      go_wp2
      go_ret
      exact ⟨rfl, Below.refl _ _⟩

end Go.Proofs.Ytfflnpcbpcldeaa
