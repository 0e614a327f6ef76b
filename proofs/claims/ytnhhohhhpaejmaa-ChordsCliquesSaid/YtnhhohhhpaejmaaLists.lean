/- Contract of arborref.Lists. -/
import Derived.Test.YtnhhohhhpaejmaaBase
namespace Go.Proofs.Ytnhhohhhpaejmaa
open Go.RowKit

/-- Are two lists of lists the same. -/
theorem lists_any (l m : List (List Int)) (s t : Value) (w : World) (h : IsRows w s l) (h' : IsRows w t m) :
    Calls Try.prog 17 #[s, t] w fun e w' => e = .returned (.bool (decide (l = m))) ∧ Drew w w' := by
  obtain ⟨a, cap, b, o, rfl, hcap, hmax, hadr, -, hcell⟩ := h
  obtain ⟨a', cap', b', o', rfl, hcap', hmax', hadr', -, hcell'⟩ := h'
  by_cases hlen : l.length = m.length
  · have hl : ((l.length : Int) != (m.length : Int)) = false := by rw [hlen]; simp
    have hl2 : ((l.length : Int) == (m.length : Int)) = true := by rw [hlen]; simp
    have Hlen := Lib.hid hlen; clear hlen
    go_enter Try.func17, Try.ntmps17
    go_wp2
    clear hl hl2
    go_loopw [5] (fun i wr => Drew w wr ∧ ∃ k : Nat, k ≤ l.length ∧ i = .int .i64 k ∧ ∀ j, j < k → l.getD j [] = m.getD j []) (fun i _ => l.length - (intOf i).toNat)
    case atStart => exact ⟨⟨0, rfl⟩, 0, Nat.zero_le _, rfl, fun _ h => absurd h (Nat.not_lt_zero _)⟩
    case round =>
      obtain ⟨hd, k, hk, rfl, hne⟩ := hrel
      have Hne := Lib.hid hne; clear hne
      by_cases hlt : k < l.length
      · obtain rfl := hadr (by omega)
        have hlt' : k < m.length := by have := Hlen.out; omega
        obtain rfl := hadr' (by omega)
        obtain ⟨x, Hx, ra, rcap, hc, hr⟩ := rows_at hcell hd.below hlt
        obtain ⟨y, Hy, ra', rcap', hc', hr'⟩ := rows_at hcell' hd.below hlt'
        clear hcell hadr hcell' hadr'
        by_cases hv : x = y
        · have hb : decide (x = y) = true := by simpa using hv
          have Hv := Lib.hid hv; have Hb := Lib.hid hb; clear hv hb
          go_wp2
          go_quiet ((go_at_call 39; exact Calls.quiet_of (ints_is _ _ _ _ _ (hr.drewN _) (hr'.drewN _) Hb.out)))
          go_wp2
          go_roundw
          case rel => exact ⟨hd.add _, k + 1, by omega, by go_num, fun j hj => by
            by_cases e : j = k
            · rw [e, Hx.out, Hy.out]; exact Hv.out
            · exact Hne.out j (by omega)⟩
          case measure => simp [intOf]; omega
        · have hb : decide (x = y) = false := by simpa using hv
          have Hv := Lib.hid hv; have Hb := Lib.hid hb; clear hv hb
          go_wp2
          go_quiet ((go_at_call 39; exact Calls.quiet_of (ints_is _ _ _ _ _ (hr.drewN _) (hr'.drewN _) Hb.out)))
          go_wp2
          go_ret
          exact ⟨ret_bool (decide_eq_false (fun e => Hv.out (by rw [← Hx.out, ← Hy.out, e]))).symm, hd.add _⟩
      · clear hcell hadr hcell' hadr'
        go_wp2
        go_ret
        obtain rfl : k = l.length := by omega
        refine ⟨ret_bool (decide_eq_true ?_).symm, hd⟩
        refine List.ext_getElem Hlen.out fun j h1 h2 => ?_
        have := Hne.out j h1
        simpa [List.getD, h1, h2] using this
  · have hl : ((l.length : Int) != (m.length : Int)) = true := by simp; omega
    have hl2 : ((l.length : Int) == (m.length : Int)) = false := by simp; omega
    go_enter Try.func17, Try.ntmps17
    go_wp2
    go_ret
    exact ⟨ret_bool (decide_eq_false (fun e => hlen (by rw [e]))).symm, ⟨0, rfl⟩⟩

end Go.Proofs.Ytnhhohhhpaejmaa
