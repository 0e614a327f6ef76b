/- arborref.Ring: a ring is seen to be one. -/
import Derived.Test.YtnhhohhhpaejmaaHasGrid
import Derived.Test.YtnhhohhhpaejmaaPA
import Derived.BigQuiet
import Derived.Deep.LoopGhost
import Derived.Deep.Light
import Derived.Test.YtnhhohhhpaejmaaGOwn
namespace Go.Proofs.Ytnhhohhhpaejmaa
open Go.RowKit

/-- A list of nodes is a ring. -/
structure RingOk (N : Nat) (G : Nat → Nat → Bool) (m : List Nat) : Prop where
  ge : 3 ≤ m.length
  le : m.length ≤ 1000
  lt : ∀ i, i < m.length → m.getD i 0 < N
  nd : ∀ i j, i < m.length → j < i → m.getD i 0 ≠ m.getD j 0
  on : ∀ i, i < m.length → G (m.getD i 0) (m.getD ((i + 1) % m.length) 0) = true

set_option maxHeartbeats 1600000 in
set_option maxRecDepth 100000 in
theorem rring_any (N : Nat) (G : Nat → Nat → Bool) (gv v : Value) (m : List Nat) (w : World) (hN : N ≤ 100) (hg : HasGrid w gv N G) (hm : IsInts w v (ints m)) (hr : RingOk N G m) :
    Calls Try.prog 35 #[gv, v] w fun e w' => e = .returned (.bool true) ∧ Below w.heap.size w w' := by
  obtain ⟨Bg, ga, gc, gb, go', R, rfl, hgc, hga, hgrid⟩ := hg
  obtain ⟨a0, c0, b0, o0, rfl, hc1, hc2, had, -, hcell⟩ := hm
  rw [ints_length] at *
  have hn3 := hr.ge
  have hnl := hr.le
  obtain rfl := had (by omega)
  have hN0 : 0 < N := by have := hr.lt 0 (by omega); omega
  obtain rfl := (hga hN0).1
  have Hgr := Lib.hid hgrid; have Hr := Lib.hid hr
  have Hc := Lib.hid (show ∀ j, j < m.length → w.cell? ⟨b0, o0 + j, none⟩ = some (.int .i64 ((m.getD j 0 : Nat) : Int)) from fun j hj => by
    have h1 := hcell j hj
    have h2 : (ints m).getD j 0 = ((m.getD j 0 : Nat) : Int) := by simp [ints, List.getD, List.getElem?_eq_getElem hj]
    rw [h2] at h1; exact h1)
  clear hgrid hga had hcell hr
  generalize hn : m.length = n at *
  have Hn := Lib.hid hn
  clear hn
  have q3 : ¬ ((n : Int) < 3) := by omega
  go_enter Try.func35, Try.ntmps35
  go_wp2
  go_loopg [5] n (fun g s5 wr => ∃ i mm : Nat, i ≤ n ∧ g = n - i ∧ s5 = .int .i64 i ∧ wr = w.drewN mm)
  case atStart => exact ⟨0, 0, Nat.zero_le _, rfl, rfl, rfl⟩
  case round =>
    obtain ⟨i, mm, hi, rfl, rfl, rfl⟩ := hrel
    by_cases hil : i < n
    · have ci := Hc.out i hil
      have hiN := Hr.out.lt i (by rw [Hn.out]; exact hil)
      have hnd := fun j hj => Hr.out.nd i j (by rw [Hn.out]; exact hil) hj
      have Hnd := Lib.hid hnd
      generalize m.getD i 0 = x at *
      clear hnd
      have x1 : ¬ ((x : Int) < 0) := by omega
      have x2 : ¬ ((N : Int) ≤ (x : Int)) := by omega
      go_wp2
      go_loopg [6] i (fun g s6 wr => ∃ j m2 : Nat, j ≤ i ∧ g = i - j ∧ s6 = .int .i64 j ∧ wr = w.drewN m2)
      case atStart => exact ⟨0, mm, Nat.zero_le _, rfl, rfl, rfl⟩
      case round =>
        obtain ⟨j, m2, hj, rfl, rfl, rfl⟩ := hrel
        by_cases hjl : j < i
        · have cj := Hc.out j (by omega)
          have hne := Hnd.out j hjl
          generalize m.getD j 0 = y at *
          have q : ((x : Int) == (y : Int)) = false := by simp; omega
          clear hne
          go_wp2
          go_quiet (fail)
          go_wp2
          go_roundg (i - (j + 1))
          case measure => go_light; omega
          case rel => exact ⟨j + 1, m2 + nq, by omega, rfl, by go_num, rfl⟩
        · obtain rfl : j = i := by omega
          go_wp2
          go_roundg (n - (j + 1))
          case measure => go_light; omega
          case rel => exact ⟨j + 1, m2, by omega, rfl, by go_num, rfl⟩
    · obtain rfl : i = n := by omega
      go_wp2
      go_loopg [7] i (fun g s7 wr => ∃ j m2 : Nat, j ≤ i ∧ g = i - j ∧ s7 = .int .i64 j ∧ wr = w.drewN m2)
      case atStart => exact ⟨0, mm, Nat.zero_le _, rfl, rfl, rfl⟩
      case round =>
        obtain ⟨j, m2, hj, rfl, rfl, rfl⟩ := hrel
        by_cases hjl : j < i
        · have hk : (j + 1) % i < i := Nat.mod_lt _ (by omega)
          have hrem : ((j : Int) + 1).tmod (i : Int) = (((j + 1) % i : Nat) : Int) := by rw [Int.tmod_eq_emod_of_nonneg (by omega)]; rfl
          have cj := Hc.out j hjl
          have ck := Hc.out _ hk
          have hjN := Hr.out.lt j (by rw [Hn.out]; exact hjl)
          have hkN := Hr.out.lt ((j + 1) % i) (by rw [Hn.out]; exact hk)
          have hon := Hr.out.on j (by rw [Hn.out]; exact hjl)
          rw [Hn.out] at hon
          have t1 := Hgr.out.head _ hjN
          have t2 := Hgr.out.cell hjN hkN
          rw [hon] at t2
          generalize m.getD j 0 = x at *
          generalize m.getD ((j + 1) % i) 0 = y at *
          generalize (j + 1) % i = k at *
          have hi0 : ¬ ((i : Int) = 0) := by omega
          have qi : ((i : Int) == 0) = false := by simp; omega
          clear hon
          go_wp2
          go_quiet (fail)
          go_wp2
          go_roundg (i - (j + 1))
          case measure => go_light; omega
          case rel => exact ⟨j + 1, m2 + nq, by omega, rfl, by go_num, rfl⟩
        · obtain rfl : j = i := by omega
          go_wp2
          go_ret
          exact ⟨rfl, Below.drewN' (Below.refl _ _) _⟩

end Go.Proofs.Ytnhhohhhpaejmaa
