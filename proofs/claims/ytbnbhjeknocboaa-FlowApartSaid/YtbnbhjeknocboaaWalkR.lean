/- arborref.Walk and arborlaw.way answer true at a way. -/
import Derived.Test.YtbnbhjeknocboaaPA
import Derived.Test.YtbnbhjeknocboaaHasGrid
import Derived.Test.YtbnbhjeknocboaaSide
import Derived.Test.YtbnbhjeknocboaaPD
import Derived.Deep.LoopGhost
import Derived.Deep.Light
import Derived.Deep.CutBlock
namespace Go.Proofs.Ytbnbhjeknocboaa
open Go.RowKit

set_option maxHeartbeats 3200000 in
set_option maxRecDepth 100000 in
theorem walk_yes (N : Nat) (G : Nat → Nat → Bool) (l : List Nat) (gv s : Value) (w : World) (hN : N ≤ 100) (hg : HasGrid w gv N G) (hl : l.length ≤ 10000) (hi : IsInts w s (ints l)) (hlt : ∀ i, i < l.length → l.getD i 0 < N) (hup : ∀ i, i + 1 < l.length → G (l.getD i 0) (l.getD (i + 1) 0) = true) :
    Calls Try.prog 49 #[gv, s] w fun e w' => e = .returned (.bool true) ∧ Below w.heap.size w w' := by
  obtain ⟨a, cap, b, o, rfl, hcap, hmax, -⟩ := id hi
  have hlen := ints_length l
  rw [hlen] at hi hcap ⊢
  obtain ⟨B0, ga, gc, gb0, go0, R0, rfl, -⟩ := id hg
  have Hi := Lib.hid hi
  have Hg := Lib.hid hg
  have Hlt := Lib.hid hlt
  have Hup := Lib.hid hup
  clear hi hlt hup hlen hg
  go_enter Try.func49, Try.ntmps49
  go_wp2
  go_loopg [5] l.length (fun g s5 wr => ∃ i : Nat, i ≤ l.length ∧ g = l.length - i ∧ s5 = .int .i64 i ∧ Below w.heap.size w wr)
  case atStart => exact ⟨0, Nat.zero_le _, rfl, rfl, Below.refl _ _⟩
  case round =>
    obtain ⟨i, hi, rfl, rfl, hb⟩ := hrel
    by_cases hil : i < l.length
    · obtain ⟨lb, lo, rfl, h1⟩ := ints_at' Hi.out hb hil
      have h2 := Hlt.out i hil
      have Hb := Lib.hid hb
      by_cases h0 : 0 < i
      · obtain ⟨lb2, lo2, he2, h3⟩ := ints_at' Hi.out hb (k := i - 1) (by omega)
        obtain ⟨rfl, rfl⟩ : lb = lb2 ∧ lo = lo2 := by simpa using he2
        have h4 := Hup.out (i - 1) (by omega)
        rw [show i - 1 + 1 = i by omega] at h4
        have h5 := Hlt.out (i - 1) (by omega)
        obtain ⟨gb, go, gc', gr, e1, g1, g2⟩ := (Hg.out.below hb).entry h5 h2
        rw [h4] at g2
        obtain ⟨rfl, rfl⟩ : ga = some ⟨gb, go, none⟩ ∧ gc = gc' := by simpa using e1
        clear e1 h4
        generalize l.getD i 0 = x at *
        generalize l.getD (i - 1) 0 = y at *
        have p1 : decide ((x : Int) < 0) = false := decide_eq_false (by omega)
        have p2 : decide (N ≤ x) = false := decide_eq_false (by omega)
        have p5 : i - 1 < l.length := by omega
        have p3 : IntKind.i64.wrap ((i : Int) - 1) = ((i - 1 : Nat) : Int) := by
          rw [show (i : Int) - 1 = ((i - 1 : Nat) : Int) by omega]
          exact IntWalk.i64_in _ (by omega)
        clear hb he2
        go_wp2
        go_quiet (fail)
        go_wp2
        go_roundg (l.length - (i + 1))
        case measure => go_light; omega
        case rel => exact ⟨i + 1, by omega, rfl, by go_num, Below.drewN' Hb.out _⟩
      · generalize l.getD i 0 = x at *
        have p1 : decide ((x : Int) < 0) = false := decide_eq_false (by omega)
        have p2 : decide (N ≤ x) = false := decide_eq_false (by omega)
        have p3 : decide (0 < i) = false := decide_eq_false h0
        clear hb
        go_wp2
        go_quiet (fail)
        go_wp2
        go_roundg (l.length - (i + 1))
        case measure => go_light; omega
        case rel => exact ⟨i + 1, by omega, rfl, by go_num, Below.drewN' Hb.out _⟩
    · obtain rfl : i = l.length := by omega
      go_wp2
      go_ret
      exact ⟨rfl, hb⟩

set_option maxHeartbeats 3200000 in
set_option maxRecDepth 100000 in
theorem way_yes (N s t : Nat) (E : List (Int × Int)) (l : List Nat) (gv lv : Value) (w : World) (hN : N ≤ 100) (hg : HasGrid w gv N (adj E)) (hl : l.length ≤ 10000) (hi : IsInts w lv (ints l)) (hw : WayP E N s t l) :
    Calls Try.prog 27 #[gv, lv, .int .i64 (s : Int), .int .i64 (t : Int)] w fun e w' => e = .returned (.bool true) ∧ Below w.heap.size w w' := by
  have hcalls : ∀ w', Below w.heap.size w w' → Calls Try.prog 49 #[gv, lv] w' fun e w'' => e = .returned (.bool true) ∧ Below w'.heap.size w' w'' := fun w' hb => walk_yes N (adj E) l gv lv w' hN (hg.below hb) hl (hi.below hb) hw.lt hw.adj
  have Hc := Lib.hid hcalls
  obtain ⟨a, cap, b, o, rfl, hcap, hmax, -⟩ := id hi
  have hlen := ints_length l
  rw [hlen] at hi hcap Hc ⊢
  have hl2 := hw.len
  have Hi := Lib.hid hi
  have Hdif := Lib.hid hw.dif
  obtain ⟨lb, lo, rfl, h1⟩ := ints_at' Hi.out (Below.refl _ _) (k := 0) (by omega)
  obtain ⟨lb2, lo2, he2, h3⟩ := ints_at' Hi.out (Below.refl _ _) (k := l.length - 1) (by omega)
  obtain ⟨rfl, rfl⟩ : lb = lb2 ∧ lo = lo2 := by simpa using he2
  rw [hw.head, Nat.add_zero] at h1
  rw [hw.last] at h3
  have p1 : decide ((l.length : Int) < 2) = false := decide_eq_false (by omega)
  have p3 : IntKind.i64.wrap ((l.length : Int) - 1) = ((l.length - 1 : Nat) : Int) := by
    rw [show (l.length : Int) - 1 = ((l.length - 1 : Nat) : Int) by omega]
    exact IntWalk.i64_in _ (by omega)
  clear hi hw he2 hlen hcalls hg
  go_enter Try.func27, Try.ntmps27
  go_wp2_with (go_at_call 49; refine (Hc.out _ (Below.refl _ _)).mono ?_; rintro e w2 ⟨rfl, hb2⟩; have Hb2 := Lib.hid hb2; clear hb2)
  clear h1 h3
  go_loopg [9] l.length (fun g s9 wr => ∃ i : Nat, i ≤ l.length ∧ g = l.length - i ∧ s9 = .int .i64 i ∧ Below w.heap.size w wr)
  case atStart => exact ⟨0, Nat.zero_le _, rfl, rfl, Hb2.out⟩
  case round =>
    obtain ⟨i, hi, rfl, rfl, hb⟩ := hrel
    by_cases hil : i < l.length
    · go_wp2
      go_loopg [10] i (fun g s10 wr => ∃ j : Nat, j ≤ i ∧ g = i - j ∧ s10 = .int .i64 j ∧ Below w.heap.size w wr)
      case atStart => exact ⟨0, Nat.zero_le _, rfl, rfl, hb⟩
      case round =>
        obtain ⟨j, hj, rfl, rfl, hb⟩ := hrel
        have Hb := Lib.hid hb
        by_cases hji : j < i
        · obtain ⟨lb2, lo2, he2, h1⟩ := ints_at' Hi.out hb (k := i) hil
          obtain ⟨rfl, rfl⟩ : lb = lb2 ∧ lo = lo2 := by simpa using he2
          obtain ⟨lb3, lo3, he3, h3⟩ := ints_at' Hi.out hb (k := j) (by omega)
          obtain ⟨rfl, rfl⟩ : lb = lb3 ∧ lo = lo3 := by simpa using he3
          have hd := Hdif.out j i hji hil
          generalize l.getD i 0 = x at *
          generalize l.getD j 0 = y at *
          have p2 : ((x : Int) == (y : Int)) = false := by simp; omega
          have p4 : j < l.length := by omega
          clear he2 he3 hb hd
          go_wp2
          go_quiet (fail)
          go_wp2
          go_roundg (i - (j + 1))
          case measure => go_light; omega
          case rel => exact ⟨j + 1, by omega, rfl, by go_num, Below.drewN' Hb.out _⟩
        · obtain rfl : i = j := by omega
          go_wp2
          go_roundg (l.length - (i + 1))
          case measure => go_light; omega
          case rel => exact ⟨i + 1, by omega, rfl, by go_num, Hb.out⟩
    · obtain rfl : i = l.length := by omega
      go_wp2
      go_ret
      exact ⟨rfl, hb⟩

end Go.Proofs.Ytbnbhjeknocboaa
