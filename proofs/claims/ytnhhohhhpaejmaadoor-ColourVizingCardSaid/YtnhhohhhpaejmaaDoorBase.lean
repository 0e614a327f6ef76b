/- arborref.Ints: are two lists the same? -/
import Derived.Test.YtnhhohhhpaejmaaDoorBase0
namespace Go.Proofs.YtnhhohhhpaejmaaDoor
open Go.RowKit

/-- Are two lists the same, in the form of a test. -/
theorem ints_any (l m : List Int) (s t : Value) (w : World) (h : IsInts w s l) (h' : IsInts w t m) :
    Calls Tryd.prog 23 #[s, t] w fun e w' => e = .returned (.bool (decide (l = m))) ∧ Drew w w' := by
  obtain ⟨a, cap, b, o, rfl, hcap, hmax, hadr, -, hcell⟩ := h
  obtain ⟨a', cap', b', o', rfl, hcap', hmax', hadr', -, hcell'⟩ := h'
  by_cases hlen : l.length = m.length
  · have hl : ((l.length : Int) != (m.length : Int)) = false := by rw [hlen]; simp
    have hl2 : ((l.length : Int) == (m.length : Int)) = true := by rw [hlen]; simp
    have Hlen := Lib.hid hlen; clear hlen
    go_enter Tryd.func23, Tryd.ntmps23
    go_wp2
    clear hl hl2
    go_loopw [5] (fun i wr => Drew w wr ∧ ∃ k : Nat, k ≤ l.length ∧ i = .int .i64 k ∧ ∀ j, j < k → l.getD j 0 = m.getD j 0) (fun i _ => l.length - (intOf i).toNat)
    case atStart => exact ⟨⟨0, rfl⟩, 0, Nat.zero_le _, rfl, fun _ h => absurd h (Nat.not_lt_zero _)⟩
    case round =>
      obtain ⟨⟨n, rfl⟩, k, hk, rfl, hne⟩ := hrel
      have Hne := Lib.hid hne; clear hne
      by_cases hlt : k < l.length
      · obtain rfl := hadr (by omega)
        have hlt' : k < m.length := by have := Hlen.out; omega
        obtain rfl := hadr' (by omega)
        have hc := hcell k hlt
        have hc' := hcell' k hlt'
        clear hcell hadr hcell' hadr'
        by_cases hv : l.getD k 0 = m.getD k 0
        · have hb : (l[k] != m[k]) = false := by simpa [List.getD, hlt, hlt'] using hv
          have hb' : (l[k] == m[k]) = true := by simpa [List.getD, hlt, hlt'] using hv
          have Hv := Lib.hid hv; clear hv
          go_wp2
          go_quiet (fail)
          go_wp2
          go_roundw
          case rel => exact ⟨⟨_, rfl⟩, k + 1, by omega, by go_num, fun j hj => by
            by_cases e : j = k
            · rw [e]; exact Hv.out
            · exact Hne.out j (by omega)⟩
          case measure => simp [intOf]; omega
        · have hb : (l[k] != m[k]) = true := by simpa [List.getD, hlt, hlt'] using hv
          have hb' : (l[k] == m[k]) = false := by simpa [List.getD, hlt, hlt'] using hv
          have Hv := Lib.hid hv; clear hv
          go_wp2
          go_quiet (fail)
          go_wp2
          go_ret
          exact ⟨ret_bool (decide_eq_false (fun e => Hv.out (by rw [e]))).symm, ((Drew.refl w).add _).add _⟩
      · clear hcell hadr hcell' hadr'
        go_wp2
        go_ret
        obtain rfl : k = l.length := by omega
        refine ⟨ret_bool (decide_eq_true ?_).symm, ⟨_, rfl⟩⟩
        refine List.ext_getElem Hlen.out fun j h1 h2 => ?_
        have := Hne.out j h1
        simpa [List.getD, h1, h2] using this
  · have hl : ((l.length : Int) != (m.length : Int)) = true := by simp; omega
    have hl2 : ((l.length : Int) == (m.length : Int)) = false := by simp; omega
    go_enter Tryd.func23, Tryd.ntmps23
    go_wp2
    go_ret
    exact ⟨ret_bool (decide_eq_false (fun e => hlen (by rw [e]))).symm, ⟨0, rfl⟩⟩

theorem ints_is {c : Bool} (l m : List Int) (s t : Value) (w : World) (h : IsInts w s l) (h' : IsInts w t m) (e : decide (l = m) = c) :
    Calls Tryd.prog 23 #[s, t] w fun e w' => e = .returned (.bool c) ∧ Drew w w' := by
  subst e; exact ints_any l m s t w h h'

end Go.Proofs.YtnhhohhhpaejmaaDoor
