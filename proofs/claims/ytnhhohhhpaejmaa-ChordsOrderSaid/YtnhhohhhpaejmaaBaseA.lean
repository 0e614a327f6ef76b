/- Contracts of the small functions of arborref: All. -/
import Derived.Test.YtnhhohhhpaejmaaRank
import Derived.Test.YtnhhohhhpaejmaaLists
namespace Go.Proofs.Ytnhhohhhpaejmaa
open Go.RowKit

/-- Are numbers all those below n: it says yes where they are. -/
theorem all_yes (l : List Int) (s : Value) (w : World) (h : IsInts w s l) (hr : ∀ i, i < l.length → 0 ≤ l.getD i 0 ∧ l.getD i 0 < l.length) (hd : ∀ i j, i < l.length → j < i → l.getD j 0 ≠ l.getD i 0) :
    Calls Try.prog 14 #[s, .int .i64 l.length] w fun e w' => e = .returned (.bool true) ∧ Drew w w' := by
  have hs := h
  obtain ⟨a, cap, b, o, rfl, hcap, hmax, hadr, -, hcell⟩ := h
  generalize hn : l.length = n at *
  have Hr := Lib.hid hr; have Hd := Lib.hid hd; have Hn := Lib.hid hn
  clear hr hd hn
  have hl : ((n : Int) != (n : Int)) = false := by simp
  go_enter Try.func14, Try.ntmps14
  go_wp2
  clear hl
  go_loopw [5] (fun i wr => Drew w wr ∧ ∃ k : Nat, k ≤ n ∧ i = .int .i64 k) (fun i _ => n - (intOf i).toNat)
  case atStart => exact ⟨⟨0, rfl⟩, 0, Nat.zero_le _, rfl⟩
  case round =>
    obtain ⟨hd, k, hk, rfl⟩ := hrel
    by_cases hlt : k < n
    · obtain rfl := hadr (by omega)
      have hc := below_cell hd.below (hcell k hlt)
      have hx := Hr.out k hlt
      have hi : idx (l.take k) (l.getD k 0) = k := by
        have hlen : (l.take k).length = k := by have := Hn.out; simp; omega
        have := idx_none (l := l.take k) (v := l.getD k 0) (fun j hj => by
          have := Hd.out k j hlt (by omega)
          have hj' : j < k := by omega
          simpa [List.getD, hj'] using this)
        omega
      generalize hxe : l.getD k 0 = x at *
      have Hi := Lib.hid hi; have Hxe := Lib.hid hxe
      obtain ⟨hx0, hx1⟩ := hx
      have hs' := (hs.take hk).below (Drew.below hd)
      obtain ⟨i3, hi3, -⟩ := info_parts info3
      have hsl := run_slice_hi (P := Try.prog) Try.underlying29 hi3 (some ⟨b, o, none⟩) n cap k (by omega)
      clear hcell hadr hi hxe hs hi3
      go_wp2
      go_quiet ((go_at_call 36; exact Calls.quiet_of (rank_is _ _ _ _ (hs'.drewN _) Hi.out)))
      go_wp2
      go_roundw
      case rel => exact ⟨hd.add _, k + 1, by omega, by go_num⟩
      case measure => simp [intOf]; omega
    · clear hcell hadr
      go_wp2
      go_ret
      exact ⟨rfl, hd⟩

end Go.Proofs.Ytnhhohhhpaejmaa
