/- chords.simple: have all nodes near one, that are left, edges with each other? chords.ring$1: may a way go there? -/
import Derived.Test.YtnhhohhhpaejmaaHasGrid
import Derived.Test.YtnhhohhhpaejmaaPA
namespace Go.Proofs.Ytnhhohhhpaejmaa
open Go Go.RowKit

/-- Two near v, left, without an edge. -/
def BadP (G : Nat → Nat → Bool) (X : Nat → Bool) (v a b : Nat) : Prop := G v a = true ∧ G v b = true ∧ X a = false ∧ X b = false ∧ G a b = false
/-- No such two among the first ones. -/
def NoBad (G : Nat → Nat → Bool) (X : Nat → Bool) (v i j : Nat) : Prop := ∀ a b, b < a → (a < i ∨ (a = i ∧ b < j)) → ¬ BadP G X v a b
theorem NoBad.start {G : Nat → Nat → Bool} {X : Nat → Bool} {v : Nat} : NoBad G X v 0 0 := fun a b _ h => by rcases h with h | ⟨_, h⟩ <;> omega
theorem NoBad.step {G : Nat → Nat → Bool} {X : Nat → Bool} {v i j : Nat} (h : NoBad G X v i j) (hn : ¬ BadP G X v i j) : NoBad G X v i (j + 1) := fun a b hlt hc => by
  by_cases e : a = i ∧ b = j
  · rw [e.1, e.2]; exact hn
  · exact h a b hlt (by omega)
theorem NoBad.row {G : Nat → Nat → Bool} {X : Nat → Bool} {v i : Nat} (h : NoBad G X v i i) : NoBad G X v (i + 1) 0 := fun a b hlt hc => h a b hlt (by omega)
theorem NoBad.simp {N : Nat} {G : Nat → Nat → Bool} {X : Nat → Bool} {v : Nat} (hsym : ∀ i j, i < N → j < N → G i j = G j i) (h : NoBad G X v N 0) : SimpAt N G X v := fun a b ha hb hne xa xb ga gb => by
  have key : ∀ a b, a < N → b < N → b < a → X a = false → X b = false → G v a = true → G v b = true → G a b = true := fun a b ha hb hlt xa xb ga gb => by
    cases e : G a b with
    | true => rfl
    | false => exact absurd ⟨ga, gb, xa, xb, e⟩ (h a b hlt (by omega))
  rcases Nat.lt_or_gt_of_ne hne with k | k
  · rw [hsym _ _ ha hb]; exact key b a hb ha k xb xa gb ga
  · exact key a b ha hb k xa xb ga gb
/-- What chords.simple answers. -/
def SimPost (N : Nat) (G : Nat → Nat → Bool) (X : Nat → Bool) (v : Nat) (w : World) (e : Ending) (w' : World) : Prop :=
  ∃ b : Bool, e = .returned (.bool b) ∧ (b = true → SimpAt N G X v) ∧ (b = false → ¬ SimpAt N G X v) ∧ w' = w

set_option maxHeartbeats 1600000 in
set_option maxRecDepth 100000 in
theorem simple_any (N : Nat) (G : Nat → Nat → Bool) (X : Nat → Bool) (gv : Value) (bX v : Nat) (w : World) (hN : N ≤ 100) (hv : v < N) (hsym : ∀ i j, i < N → j < N → G i j = G j i) (hg : HasGrid w gv N G) (hX : w.rowIs bX 4 N (rb X)) :
    Calls Try.prog 31 #[gv, .slice (some ⟨bX, 0, none⟩) N N, .int .i64 (v : Int)] w (SimPost N G X v w) := by
  obtain ⟨Bg, ga, gc, gb, go', R, rfl, hgc, hga, hgrid⟩ := hg
  obtain rfl := (hga (by omega)).1
  have Hgr := Lib.hid hgrid; have HX := Lib.hid hX; have Hsym := Lib.hid hsym
  have hv1 := hgrid.head _ hv
  clear hgrid hga hX hsym
  go_enter Try.func31, Try.ntmps31
  go_wp2
  go_loopg [11] N (fun g s11 wr => ∃ i : Nat, i ≤ N ∧ g = N - i ∧ s11 = .int .i64 (i : Int) ∧ wr = w ∧ NoBad G X v i 0)
  case atStart => exact ⟨0, Nat.zero_le _, rfl, rfl, rfl, NoBad.start⟩
  case round =>
    obtain ⟨i, hi, rfl, rfl, rfl, hno⟩ := hrel
    have Hno := Lib.hid hno
    clear hno
    by_cases hil : i < N
    · have hi1 := Hgr.out.head _ hil
      have cvi := Hgr.out.cell hv hil
      have xi := HX.out.cell hil
      simp only [rb] at xi
      generalize hp1 : G v i = p1 at *
      generalize hp3 : X i = p3 at *
      have Hp1 := Lib.hid hp1; have Hp3 := Lib.hid hp3
      clear hp1 hp3
      go_wp2
      go_loopg [15] i (fun g s15 wr2 => ∃ j : Nat, j ≤ i ∧ g = i - j ∧ s15 = .int .i64 (j : Int) ∧ wr2 = wr ∧ NoBad G X v i j)
      case atStart => exact ⟨0, Nat.zero_le _, rfl, rfl, rfl, Hno.out⟩
      case round =>
        obtain ⟨j, hj, rfl, rfl, hwr, hno⟩ := hrel
        subst hwr
        have Hno := Lib.hid hno
        clear hno
        by_cases hjl : j < i
        · have hjN : j < N := by omega
          have cvj := Hgr.out.cell hv hjN
          have xj := HX.out.cell hjN
          have cij := Hgr.out.cell hil hjN
          simp only [rb] at xj
          generalize hp2 : G v j = p2 at *
          generalize hp4 : X j = p4 at *
          generalize hp5 : G i j = p5 at *
          have Hp := Lib.hid (show BadP G X v i j ↔ (p1 = true ∧ p2 = true ∧ p3 = false ∧ p4 = false ∧ p5 = false) by unfold BadP; rw [Hp1.out, Hp3.out, hp2, hp4, hp5])
          clear hp2 hp4 hp5
          rcases p1 with _ | _
          · go_wp2
            go_roundg (i - (j + 1))
            case measure => go_light; omega
            case rel => exact ⟨j + 1, by omega, rfl, by go_num, rfl, Hno.out.step fun h => by have := (Hp.out.1 h).1; cases this⟩
          · rcases p2 with _ | _
            · go_wp2
              go_roundg (i - (j + 1))
              case measure => go_light; omega
              case rel => exact ⟨j + 1, by omega, rfl, by go_num, rfl, Hno.out.step fun h => by have := (Hp.out.1 h).2.1; cases this⟩
            · rcases p3 with _ | _
              · rcases p4 with _ | _
                · rcases p5 with _ | _
                  · have Hn := Lib.hid (show ¬ SimpAt N G X v from fun hs => by
                      have hb := Hp.out.2 ⟨rfl, rfl, rfl, rfl, rfl⟩
                      have := hs i j hil hjN (by omega) hb.2.2.1 hb.2.2.2.1 hb.1 hb.2.1
                      rw [hb.2.2.2.2] at this; cases this)
                    go_wp2
                    go_ret
                    exact ⟨false, rfl, (fun h => by cases h), fun _ => Hn.out, rfl⟩
                  · go_wp2
                    go_roundg (i - (j + 1))
                    case measure => go_light; omega
                    case rel => exact ⟨j + 1, by omega, rfl, by go_num, rfl, Hno.out.step fun h => by have := (Hp.out.1 h).2.2.2.2; cases this⟩
                · go_wp2
                  go_roundg (i - (j + 1))
                  case measure => go_light; omega
                  case rel => exact ⟨j + 1, by omega, rfl, by go_num, rfl, Hno.out.step fun h => by have := (Hp.out.1 h).2.2.2.1; cases this⟩
              · go_wp2
                go_roundg (i - (j + 1))
                case measure => go_light; omega
                case rel => exact ⟨j + 1, by omega, rfl, by go_num, rfl, Hno.out.step fun h => by have := (Hp.out.1 h).2.2.1; cases this⟩
        · obtain rfl : j = i := by omega
          go_wp2
          go_roundg (N - (j + 1))
          case measure => go_light; omega
          case rel => exact ⟨j + 1, by omega, rfl, by go_num, rfl, Hno.out.row⟩
    · obtain rfl : i = N := by omega
      go_wp2
      go_ret
      exact ⟨true, rfl, fun _ => Hno.out.simp Hsym.out, (fun h => by cases h), rfl⟩

/-- Where a way may go: not gone, not v, and, but for b, not near v. -/
def opnB (G : Nat → Nat → Bool) (X : Nat → Bool) (v b u : Nat) : Bool := !X u && decide (u ≠ v) && (decide (u = b) || !G v u)
theorem holeS_opn {G : Nat → Nat → Bool} {X : Nat → Bool} {v a b u : Nat} : holeS G X v a b u = (decide (u ≠ a) && !opnB G X v b u) := by
  unfold holeS opnB
  by_cases h1 : u = a <;> by_cases h2 : u = v <;> by_cases h3 : u = b <;> cases X u <;> cases G v u <;> simp [h1, h2, h3]
/-- What the function literal has taken along. -/
structure OpnEnv (w : World) (BX BV BB BT bX : Nat) (gv : Value) (N v b : Nat) (G : Nat → Nat → Bool) (X : Nat → Bool) : Prop where
  cx : w.cell? ⟨BX, 0, none⟩ = some (.slice (some ⟨bX, 0, none⟩) N N)
  cv : w.cell? ⟨BV, 0, none⟩ = some (.int .i64 (v : Int))
  cb : w.cell? ⟨BB, 0, none⟩ = some (.int .i64 (b : Int))
  ct : w.cell? ⟨BT, 0, none⟩ = some gv
  row : w.rowIs bX 4 N (rb X)
  grid : HasGrid w gv N G
theorem OpnEnv.below {w w' : World} {BX BV BB BT bX : Nat} {gv : Value} {N v b : Nat} {G : Nat → Nat → Bool} {X : Nat → Bool} (h : OpnEnv w BX BV BB BT bX gv N v b G X) (hb : Below w.heap.size w w') : OpnEnv w' BX BV BB BT bX gv N v b G X :=
  ⟨below_cell hb h.cx, below_cell hb h.cv, below_cell hb h.cb, below_cell hb h.ct, h.row.of_block (hb.block _ h.row.lt), h.grid.below hb⟩

set_option maxHeartbeats 1600000 in
set_option maxRecDepth 100000 in
theorem ropn_any {N v b u BX BV BB BT bX : Nat} {gv : Value} {G : Nat → Nat → Bool} {X : Nat → Bool} {w : World} (hN : N ≤ 100) (hv : v < N) (hu : u < N) (h : OpnEnv w BX BV BB BT bX gv N v b G X) :
    Calls Try.prog 53 #[.int .i64 (u : Int), .pointer (some ⟨BX, 0, none⟩), .pointer (some ⟨BV, 0, none⟩), .pointer (some ⟨BB, 0, none⟩), .pointer (some ⟨BT, 0, none⟩)] w fun e w' => e = .returned (.bool (opnB G X v b u)) ∧ w' = w := by
  obtain ⟨cx, cv, cb, ct, hrow, hg⟩ := h
  obtain ⟨Bg, ga, gc, gb, go', R, rfl, hgc, hga, hgrid⟩ := hg
  obtain rfl := (hga (by omega)).1
  have xu := hrow.cell hu
  simp only [rb] at xu
  have hv1 := hgrid.head _ hv
  have cvu := hgrid.cell hv hu
  have Hpost := Lib.hid (show opnB G X v b u = (!X u && decide (u ≠ v) && (decide (u = b) || !G v u)) from rfl)
  generalize opnB G X v b u = res at *
  generalize X u = x1 at *
  generalize G v u = g1 at *
  clear hga hgrid hrow
  rcases x1 with _ | _
  · by_cases e1 : u = v
    · subst e1
      go_enter Try.func53, Try.ntmps53
      go_wp2
      go_ret
      exact ⟨by rw [Hpost.out]; simp, rfl⟩
    · have q1 : ((u : Int) == (v : Int)) = false := by simp; omega
      by_cases e2 : u = b
      · subst e2
        go_enter Try.func53, Try.ntmps53
        go_wp2
        go_ret
        exact ⟨by rw [Hpost.out]; have q3 : ¬ ((u : Int) = (v : Int)) := (by omega); simp [e1, q3], rfl⟩
      · have q2 : ((u : Int) == (b : Int)) = false := by simp; omega
        go_enter Try.func53, Try.ntmps53
        go_wp2
        go_ret
        exact ⟨by rw [Hpost.out]; have q3 : ¬ ((u : Int) = (v : Int)) := (by omega); simp [e1, e2, q3], rfl⟩
  · go_enter Try.func53, Try.ntmps53
    go_wp2
    go_ret
    exact ⟨by rw [Hpost.out]; simp, rfl⟩

end Go.Proofs.Ytnhhohhhpaejmaa
