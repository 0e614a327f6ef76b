/- The function literals of graph.Product and arborlaw.GraphPuts. -/
import Derived.Test.YtfflnpcbpcldeaaNears
namespace Go.Proofs.Ytfflnpcbpcldeaa
open Go.RowKit

set_option maxHeartbeats 1600000 in
theorem product1_any {na nb : Nat} {S T : Nat → Nat → Bool} {vx vy : Value} {B X Y i j : Nat} (w : World) (ha : w.cell? ⟨B, 0, none⟩ = some (.int .i64 (nb : Int))) (hx : w.cell? ⟨X, 0, none⟩ = some vx) (hy : w.cell? ⟨Y, 0, none⟩ = some vy)
    (gx : HasGrid w vx na S) (gy : HasGrid w vy nb T) (hij : i < j) (hj : j < na * nb) (hb : na * nb ≤ 100) :
    Calls Try.prog 60 #[.int .i64 (i : Int), .int .i64 (j : Int), .pointer (some ⟨B, 0, none⟩), .pointer (some ⟨Y, 0, none⟩), .pointer (some ⟨X, 0, none⟩)] w fun e w' => e = .returned (.bool (prodP S T nb i j)) ∧ Below w.heap.size w w' := by
  unfold prodP
  have hnb : 0 < nb := by
    rcases Nat.eq_zero_or_pos nb with e | e
    · subst e; simp at hj
    · exact e
  have hp : i / nb < na := Nat.div_lt_of_lt_mul (by rw [Nat.mul_comm]; omega)
  have hr : j / nb < na := Nat.div_lt_of_lt_mul (by rw [Nat.mul_comm]; omega)
  have hq : i % nb < nb := Nat.mod_lt _ hnb
  have hs : j % nb < nb := Nat.mod_lt _ hnb
  have d1 : ((i : Int).tdiv nb) = ((i / nb : Nat) : Int) := by rw [Int.tdiv_eq_ediv_of_nonneg (by omega)]; rfl
  have d2 : ((j : Int).tdiv nb) = ((j / nb : Nat) : Int) := by rw [Int.tdiv_eq_ediv_of_nonneg (by omega)]; rfl
  have m1 : ((i : Int).tmod nb) = ((i % nb : Nat) : Int) := by rw [Int.tmod_eq_emod_of_nonneg (by omega)]; rfl
  have m2 : ((j : Int).tmod nb) = ((j % nb : Nat) : Int) := by rw [Int.tmod_eq_emod_of_nonneg (by omega)]; rfl
  obtain ⟨b, o, c, r, rfl, c1, c2⟩ := gy.entry hq hs
  obtain ⟨b', o', c', r', rfl, c1', c2'⟩ := gx.entry hp hr
  clear gx gy
  have lp : i / nb ≤ 100 := Nat.le_trans (Nat.div_le_self _ _) (by omega)
  have lr : j / nb ≤ 100 := Nat.le_trans (Nat.div_le_self _ _) (by omega)
  have lq : i % nb ≤ 100 := Nat.le_trans (Nat.mod_le _ _) (by omega)
  have ls : j % nb ≤ 100 := Nat.le_trans (Nat.mod_le _ _) (by omega)
  have hi1 : i < 100 := by omega
  have hj1 : j < 100 := by omega
  have nz : ((nb : Int) == 0) = false := by simp; omega
  clear hj hb
  generalize i / nb = p at *
  generalize j / nb = q at *
  generalize i % nb = x at *
  generalize j % nb = y at *
  generalize S p q = z at *
  generalize T x y = t at *
  go_enter Try.func60, Try.ntmps60
  go_wp2
  go_quiet (fail)
  clear d1 d2 m1 m2
  by_cases e1 : p = q
  · have f1 : ((p : Int) == (q : Int)) = true := by simp [e1]
    have E1 := Lib.hid e1
    clear e1
    cases t with
    | true =>
      go_wp2
      go_ret
      exact ⟨ret_bool (by simp [E1.out]), Below.drewN' (Below.refl _ _) _⟩
    | false =>
      by_cases e2 : x = y
      · have f2 : ((x : Int) == (y : Int)) = true := by simp [e2]
        have E2 := Lib.hid e2
        clear e2
        go_wp2
        go_ret
        exact ⟨ret_bool (by simp [E1.out, E2.out]), Below.drewN' (Below.refl _ _) _⟩
      · have f2 : ((x : Int) == (y : Int)) = false := by simp; omega
        have E2 := Lib.hid e2
        clear e2
        go_wp2
        go_ret
        exact ⟨ret_bool (by simp [E1.out, E2.out]), Below.drewN' (Below.refl _ _) _⟩
  · have f1 : ((p : Int) == (q : Int)) = false := by simp; omega
    have E1 := Lib.hid e1
    clear e1
    by_cases e2 : x = y
    · have f2 : ((x : Int) == (y : Int)) = true := by simp [e2]
      have E2 := Lib.hid e2
      clear e2
      go_wp2
      go_ret
      exact ⟨ret_bool (by simp [E1.out, E2.out]), Below.drewN' (Below.refl _ _) _⟩
    · have f2 : ((x : Int) == (y : Int)) = false := by simp; omega
      have E2 := Lib.hid e2
      clear e2
      go_wp2
      go_ret
      exact ⟨ret_bool (by simp [E1.out, E2.out]), Below.drewN' (Below.refl _ _) _⟩

set_option maxHeartbeats 1600000 in
theorem puts2_any {na nb : Nat} {S T : Nat → Nat → Bool} {vx vy : Value} {B X Y i j : Nat} (w : World) (ha : w.cell? ⟨B, 0, none⟩ = some (.int .i64 (nb : Int))) (hx : w.cell? ⟨X, 0, none⟩ = some vx) (hy : w.cell? ⟨Y, 0, none⟩ = some vy)
    (gx : HasGrid w vx na S) (gy : HasGrid w vy nb T) (hij : i < j) (hj : j < na * nb) (hb : na * nb ≤ 100) :
    Calls Try.prog 22 #[.int .i64 (i : Int), .int .i64 (j : Int), .pointer (some ⟨B, 0, none⟩), .pointer (some ⟨Y, 0, none⟩), .pointer (some ⟨X, 0, none⟩)] w fun e w' => e = .returned (.bool (prodP S T nb i j)) ∧ Below w.heap.size w w' := by
  unfold prodP
  have hnb : 0 < nb := by
    rcases Nat.eq_zero_or_pos nb with e | e
    · subst e; simp at hj
    · exact e
  have hp : i / nb < na := Nat.div_lt_of_lt_mul (by rw [Nat.mul_comm]; omega)
  have hr : j / nb < na := Nat.div_lt_of_lt_mul (by rw [Nat.mul_comm]; omega)
  have hq : i % nb < nb := Nat.mod_lt _ hnb
  have hs : j % nb < nb := Nat.mod_lt _ hnb
  have d1 : ((i : Int).tdiv nb) = ((i / nb : Nat) : Int) := by rw [Int.tdiv_eq_ediv_of_nonneg (by omega)]; rfl
  have d2 : ((j : Int).tdiv nb) = ((j / nb : Nat) : Int) := by rw [Int.tdiv_eq_ediv_of_nonneg (by omega)]; rfl
  have m1 : ((i : Int).tmod nb) = ((i % nb : Nat) : Int) := by rw [Int.tmod_eq_emod_of_nonneg (by omega)]; rfl
  have m2 : ((j : Int).tmod nb) = ((j % nb : Nat) : Int) := by rw [Int.tmod_eq_emod_of_nonneg (by omega)]; rfl
  obtain ⟨b, o, c, r, rfl, c1, c2⟩ := gy.entry hq hs
  obtain ⟨b', o', c', r', rfl, c1', c2'⟩ := gx.entry hp hr
  clear gx gy
  have lp : i / nb ≤ 100 := Nat.le_trans (Nat.div_le_self _ _) (by omega)
  have lr : j / nb ≤ 100 := Nat.le_trans (Nat.div_le_self _ _) (by omega)
  have lq : i % nb ≤ 100 := Nat.le_trans (Nat.mod_le _ _) (by omega)
  have ls : j % nb ≤ 100 := Nat.le_trans (Nat.mod_le _ _) (by omega)
  have hi1 : i < 100 := by omega
  have hj1 : j < 100 := by omega
  have nz : ((nb : Int) == 0) = false := by simp; omega
  clear hj hb
  generalize i / nb = p at *
  generalize j / nb = q at *
  generalize i % nb = x at *
  generalize j % nb = y at *
  generalize S p q = z at *
  generalize T x y = t at *
  by_cases e1 : p = q
  · have f1 : ((p : Int) == (q : Int)) = true := by simp [e1]
    have E1 := Lib.hid e1
    clear e1
    cases t with
    | true =>
      go_enter Try.func22, Try.ntmps22
      go_wp2
      go_quiet (fail)
      go_wp2
      go_ret
      exact ⟨ret_bool (by simp [E1.out]), Below.drewN' (Below.refl _ _) _⟩
    | false =>
      by_cases e2 : x = y
      · have f2 : ((x : Int) == (y : Int)) = true := by simp [e2]
        have E2 := Lib.hid e2
        clear e2
        go_enter Try.func22, Try.ntmps22
        go_wp2
        go_quiet (fail)
        go_wp2
        go_ret
        exact ⟨ret_bool (by simp [E1.out, E2.out]), Below.drewN' (Below.refl _ _) _⟩
      · have f2 : ((x : Int) == (y : Int)) = false := by simp; omega
        have E2 := Lib.hid e2
        clear e2
        go_enter Try.func22, Try.ntmps22
        go_wp2
        go_quiet (fail)
        go_wp2
        go_ret
        exact ⟨ret_bool (by simp [E1.out, E2.out]), Below.drewN' (Below.refl _ _) _⟩
  · have f1 : ((p : Int) == (q : Int)) = false := by simp; omega
    have E1 := Lib.hid e1
    clear e1
    by_cases e2 : x = y
    · have f2 : ((x : Int) == (y : Int)) = true := by simp [e2]
      have E2 := Lib.hid e2
      clear e2
      go_enter Try.func22, Try.ntmps22
      go_wp2
      go_quiet (fail)
      go_wp2
      go_ret
      exact ⟨ret_bool (by simp [E1.out, E2.out]), Below.drewN' (Below.refl _ _) _⟩
    · have f2 : ((x : Int) == (y : Int)) = false := by simp; omega
      have E2 := Lib.hid e2
      clear e2
      go_enter Try.func22, Try.ntmps22
      go_wp2
      go_quiet (fail)
      go_wp2
      go_ret
      exact ⟨ret_bool (by simp [E1.out, E2.out]), Below.drewN' (Below.refl _ _) _⟩

end Go.Proofs.Ytfflnpcbpcldeaa
