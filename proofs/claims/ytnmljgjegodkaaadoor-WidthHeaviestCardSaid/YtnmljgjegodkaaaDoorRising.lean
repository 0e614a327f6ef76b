/- arborref.Rising answers true where the numbers rise. -/
import Derived.Test.YtnmljgjegodkaaaDoorPA
import Derived.Test.YtnmljgjegodkaaaDoorBase0
import Derived.Deep.LoopGhost
import Derived.Deep.Light
namespace Go.Proofs.YtnmljgjegodkaaaDoor
open Go.RowKit

set_option maxHeartbeats 3200000 in
set_option maxRecDepth 100000 in
theorem rising_up (l : List Nat) (n : Nat) (s : Value) (w : World) (hl : l.length ≤ 10000) (hi : IsInts w s (ints l)) (hlt : ∀ i, i < l.length → l.getD i 0 < n) (hup : ∀ i, i + 1 < l.length → l.getD i 0 < l.getD (i + 1) 0) (hn : n ≤ 10000) :
    Calls Tryd.prog 22 #[s, .int .i64 (n : Int)] w fun e w' => e = .returned (.bool true) ∧ Below w.heap.size w w' := by
  obtain ⟨a, cap, b, o, rfl, hcap, hmax, -⟩ := id hi
  have hlen := ints_length l
  rw [hlen] at hi hcap ⊢
  have Hi := Lib.hid hi
  have Hlt := Lib.hid hlt
  have Hup := Lib.hid hup
  clear hi hlt hup hlen
  go_enter Tryd.func22, Tryd.ntmps22
  go_wp2
  go_loopg [5] l.length (fun g s5 wr => ∃ i : Nat, i ≤ l.length ∧ g = l.length - i ∧ s5 = .int .i64 i ∧ Below w.heap.size w wr)
  case atStart => exact ⟨0, Nat.zero_le _, rfl, rfl, Below.refl _ _⟩
  case round =>
    obtain ⟨i, hi, rfl, rfl, hb⟩ := hrel
    by_cases hil : i < l.length
    · obtain ⟨lb, lo, rfl, h1⟩ := ints_at' Hi.out hb hil
      have h2 := Hlt.out i hil
      have Hb := Lib.hid hb
      by_cases h0 : 0 < i
      · obtain ⟨lb2, lo2, he2, h3⟩ := ints_at' Hi.out hb (k := i - 1) (by omega)
        obtain ⟨rfl, rfl⟩ : lb = lb2 ∧ lo = lo2 := by simpa using he2
        have h4 := Hup.out (i - 1) (by omega)
        rw [show i - 1 + 1 = i by omega] at h4
        generalize l.getD i 0 = x at *
        generalize l.getD (i - 1) 0 = y at *
        have p1 : decide ((x : Int) < 0) = false := decide_eq_false (by omega)
        have p2 : decide (n ≤ x) = false := decide_eq_false (by omega)
        have p4 : decide (x ≤ y) = false := decide_eq_false (by omega)
        have p5 : i - 1 < l.length := by omega
        have p3 : IntKind.i64.wrap ((i : Int) - 1) = ((i - 1 : Nat) : Int) := by
          rw [show (i : Int) - 1 = ((i - 1 : Nat) : Int) by omega]
          exact IntWalk.i64_in _ (by omega)
        clear hb
        go_wp2
        go_quiet (fail)
        go_wp2
        go_roundg (l.length - (i + 1))
        case measure => go_light; omega
        case rel => exact ⟨i + 1, by omega, rfl, by go_num, Below.drewN' Hb.out _⟩
      · generalize l.getD i 0 = x at *
        have p1 : decide ((x : Int) < 0) = false := decide_eq_false (by omega)
        have p2 : decide (n ≤ x) = false := decide_eq_false (by omega)
        have p3 : decide (0 < i) = false := decide_eq_false h0
        clear hb
        go_wp2
        go_quiet (fail)
        go_wp2
        go_roundg (l.length - (i + 1))
        case measure => go_light; omega
        case rel => exact ⟨i + 1, by omega, rfl, by go_num, Below.drewN' Hb.out _⟩
    · obtain rfl : i = l.length := by omega
      have Hb := Lib.hid hb
      clear hb
      go_wp2
      go_ret
      exact ⟨rfl, Hb.out⟩

end Go.Proofs.YtnmljgjegodkaaaDoor
