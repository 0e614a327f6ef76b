/- arborref.Walk: of a list that is one. -/
import Derived.Test.YtnmljgjegodkaaaHasGrid
import Derived.Test.YtnmljgjegodkaaaPA
import Derived.BigQuiet
namespace Go.Proofs.Ytnmljgjegodkaaa
open Go.RowKit

theorem wrap_midW {x : Int} (h0 : -9223372036854775808 ≤ x) (h1 : x < 9223372036854775808) : IntKind.i64.wrap x = x := by
  simp [IntKind.wrap, IntKind.bits, IntKind.signed]; omega
set_option maxHeartbeats 3200000 in
set_option maxRecDepth 100000 in
theorem rwalk_yes (N : Nat) (G : Nat → Nat → Bool) (L : List Nat) (gv lv : Value) (w : World) (hN : N ≤ 100) (hg : HasGrid w gv N G) (hl : IsInts w lv (ints L)) (hL : L.length ≤ 1000000) (hr : ∀ x ∈ L, x < N) (ha : ∀ i, i + 1 < L.length → G (L.getD i 0) (L.getD (i + 1) 0) = true) :
    Calls Try.prog 17 #[gv, lv] w fun e w' => e = .returned (.bool true) ∧ Below w.heap.size w w' := by
  obtain ⟨al, cl, rfl⟩ : ∃ al cl, lv = .slice al L.length cl := by
    obtain ⟨a, c, _, _, rfl, _⟩ := hl; exact ⟨a, c, by rw [ints_length]⟩
  have HG := Lib.hid hg; have HL := Lib.hid hl; have Hr := Lib.hid hr; have Ha := Lib.hid ha
  obtain ⟨Bg, ga, gc, gb, go', R0, rfl, -⟩ := hg
  clear hl hr ha
  go_enter Try.func17, Try.ntmps17
  go_wp2
  go_loopg [5] L.length (fun g s5 wr => ∃ i : Nat, i ≤ L.length ∧ g = L.length - i ∧ s5 = .int .i64 (i : Int) ∧ Below w.heap.size w wr)
  case atStart => exact ⟨0, Nat.zero_le _, rfl, rfl, Below.refl _ _⟩
  case round =>
    obtain ⟨i, hi, rfl, rfl, hb⟩ := hrel
    have Hb := Lib.hid hb
    by_cases hlt : i < L.length
    · obtain ⟨bl, ol, rfl, cx⟩ := ints_at' HL.out hb hlt
      have hxN : L.getD i 0 < N := Hr.out _ (by rw [List.getD, List.getElem?_eq_getElem hlt]; exact List.getElem_mem _)
      by_cases h0 : i = 0
      · have hi2 : decide ((i : Int) > 0) = false := by rw [decide_eq_false_iff_not]; omega
        have hi3 : ¬ 0 < i := by omega
        generalize L.getD i 0 = x at *
        have hx1 : decide ((x : Int) < 0) = false := by rw [decide_eq_false_iff_not]; omega
        have hx2 : ¬ (x : Int) < 0 := by omega
        have hx3 : ¬ N ≤ x := by omega
        clear hb h0
        go_upto_region 4 with fail
        go_big_quiet (fail)
        clear cx hi2
        go_wp2
        go_roundg (L.length - (i + 1))
        case measure => go_light; omega
        case rel => exact ⟨i + 1, by omega, rfl, by go_num, Below.drewN' Hb.out _⟩
      · obtain ⟨j, hij⟩ : ∃ j, j + 1 = i := ⟨i - 1, by omega⟩
        have hipos : 0 < i := by omega
        have hjl : j < L.length := by omega
        obtain ⟨bl', ol', e, cy⟩ := ints_at' HL.out hb hjl
        simp only [Option.some.injEq, Addr.mk.injEq] at e
        obtain ⟨rfl, rfl, -⟩ := e
        have hyN : L.getD j 0 < N := Hr.out _ (by rw [List.getD, List.getElem?_eq_getElem hjl]; exact List.getElem_mem _)
        obtain ⟨b', o', c', r', e, t1, t2⟩ := (HG.out.below hb).entry hyN hxN
        simp only [Value.slice.injEq] at e
        obtain ⟨rfl, -, rfl⟩ := e
        have hga := Ha.out j (by omega)
        rw [hij] at hga
        rw [hga] at t2
        have hw : IntKind.i64.wrap ((i : Int) - 1) = (j : Int) := by rw [wrap_midW (by omega) (by omega)]; omega
        generalize L.getD j 0 = y at *
        generalize L.getD i 0 = x at *
        clear hb h0 hga
        have Hij := Lib.hid hij
        clear hij
        have hi2 : decide ((i : Int) > 0) = true := by rw [decide_eq_true_eq]; omega
        go_upto_region 4 with fail
        go_quiet (fail)
        clear hi2 cx cy t1 t2 hw
        go_wp2
        go_roundg (L.length - (i + 1))
        case measure => go_light; omega
        case rel => exact ⟨i + 1, by omega, rfl, by go_num, Below.drewN' Hb.out _⟩
    · obtain rfl : L.length = i := by omega
      clear hb
      go_wp2
      exact bodyPost_ret (v := .bool true) (by simp [results, Try.results17, go_sem]) rfl ⟨rfl, Hb.out⟩

end Go.Proofs.Ytnmljgjegodkaaa
