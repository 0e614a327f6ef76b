/- arborref.Ints: are two lists the same? Contract of arborref.Rank. Contract of arborref.Lists. Contracts of the small functions of arborref: All. -/
import Derived.Test.YtnhhohhhpaejmaaBase0
namespace Go.Proofs.Ytnhhohhhpaejmaa
open Go.RowKit

/-- Are two lists the same, in the form of a test. -/
theorem ints_any (l m : List Int) (s t : Value) (w : World) (h : IsInts w s l) (h' : IsInts w t m) :
    Calls Try.prog 39 #[s, t] w fun e w' => e = .returned (.bool (decide (l = m))) ∧ Drew w w' := by
  obtain ⟨a, cap, b, o, rfl, hcap, hmax, hadr, -, hcell⟩ := h
  obtain ⟨a', cap', b', o', rfl, hcap', hmax', hadr', -, hcell'⟩ := h'
  by_cases hlen : l.length = m.length
  · have hl : ((l.length : Int) != (m.length : Int)) = false := by rw [hlen]; simp
    have hl2 : ((l.length : Int) == (m.length : Int)) = true := by rw [hlen]; simp
    have Hlen := Lib.hid hlen; clear hlen
    go_enter Try.func39, Try.ntmps39
    go_wp2
    clear hl hl2
    go_loopw [5] (fun i wr => Drew w wr ∧ ∃ k : Nat, k ≤ l.length ∧ i = .int .i64 k ∧ ∀ j, j < k → l.getD j 0 = m.getD j 0) (fun i _ => l.length - (intOf i).toNat)
    case atStart => exact ⟨⟨0, rfl⟩, 0, Nat.zero_le _, rfl, fun _ h => absurd h (Nat.not_lt_zero _)⟩
    case round =>
      obtain ⟨⟨n, rfl⟩, k, hk, rfl, hne⟩ := hrel
      have Hne := Lib.hid hne; clear hne
      by_cases hlt : k < l.length
      · obtain rfl := hadr (by omega)
        have hlt' : k < m.length := by have := Hlen.out; omega
        obtain rfl := hadr' (by omega)
        have hc := hcell k hlt
        have hc' := hcell' k hlt'
        clear hcell hadr hcell' hadr'
        by_cases hv : l.getD k 0 = m.getD k 0
        · have hb : (l[k] != m[k]) = false := by simpa [List.getD, hlt, hlt'] using hv
          have hb' : (l[k] == m[k]) = true := by simpa [List.getD, hlt, hlt'] using hv
          have Hv := Lib.hid hv; clear hv
          go_wp2
          go_quiet (fail)
          go_wp2
          go_roundw
          case rel => exact ⟨⟨_, rfl⟩, k + 1, by omega, by go_num, fun j hj => by
            by_cases e : j = k
            · rw [e]; exact Hv.out
            · exact Hne.out j (by omega)⟩
          case measure => simp [intOf]; omega
        · have hb : (l[k] != m[k]) = true := by simpa [List.getD, hlt, hlt'] using hv
          have hb' : (l[k] == m[k]) = false := by simpa [List.getD, hlt, hlt'] using hv
          have Hv := Lib.hid hv; clear hv
          go_wp2
          go_quiet (fail)
          go_wp2
          go_ret
          exact ⟨ret_bool (decide_eq_false (fun e => Hv.out (by rw [e]))).symm, ((Drew.refl w).add _).add _⟩
      · clear hcell hadr hcell' hadr'
        go_wp2
        go_ret
        obtain rfl : k = l.length := by omega
        refine ⟨ret_bool (decide_eq_true ?_).symm, ⟨_, rfl⟩⟩
        refine List.ext_getElem Hlen.out fun j h1 h2 => ?_
        have := Hne.out j h1
        simpa [List.getD, h1, h2] using this
  · have hl : ((l.length : Int) != (m.length : Int)) = true := by simp; omega
    have hl2 : ((l.length : Int) == (m.length : Int)) = false := by simp; omega
    go_enter Try.func39, Try.ntmps39
    go_wp2
    go_ret
    exact ⟨ret_bool (decide_eq_false (fun e => hlen (by rw [e]))).symm, ⟨0, rfl⟩⟩

theorem ints_is {c : Bool} (l m : List Int) (s t : Value) (w : World) (h : IsInts w s l) (h' : IsInts w t m) (e : decide (l = m) = c) :
    Calls Try.prog 39 #[s, t] w fun e w' => e = .returned (.bool c) ∧ Drew w w' := by
  subst e; exact ints_any l m s t w h h'

end Go.Proofs.Ytnhhohhhpaejmaa
namespace Go.Proofs.Ytnhhohhhpaejmaa
open Go.RowKit

/-- The place of the first v. -/
def idx (l : List Int) (v : Int) : Nat := l.findIdx (· == v)

theorem idx_le (l : List Int) (v : Int) : idx l v ≤ l.length := List.findIdx_le_length
theorem idx_eq {l : List Int} {v : Int} {k : Nat} (hk : k < l.length) (hne : ∀ j, j < k → l.getD j 0 ≠ v) (h : l.getD k 0 = v) : idx l v = k := by
  unfold idx
  rw [List.findIdx_eq hk]
  refine ⟨by simpa [List.getD, hk] using h, fun j hj => ?_⟩
  have := hne j hj
  simpa [List.getD, show j < l.length by omega] using this
theorem idx_none {l : List Int} {v : Int} (hne : ∀ j, j < l.length → l.getD j 0 ≠ v) : idx l v = l.length := by
  unfold idx
  rw [List.findIdx_eq_length]
  intro x hx
  obtain ⟨j, hj, rfl⟩ := List.mem_iff_getElem.1 hx
  have := hne j hj
  simpa [List.getD, hj] using this

theorem rank_any (l : List Int) (s : Value) (v : Int) (w : World) (h : IsInts w s l) :
    Calls Try.prog 36 #[s, .int .i64 v] w fun e w' => e = .returned (.int .i64 (idx l v)) ∧ w = w' := by
  obtain ⟨a, cap, b, o, rfl, hcap, hmax, hadr, -, hcell⟩ := h
  go_enter Try.func36, Try.ntmps36
  go_wp2
  go_loop [5] (fun i => ∃ k : Nat, k ≤ l.length ∧ i = .int .i64 k ∧ ∀ j, j < k → l.getD j 0 ≠ v) (fun i => l.length - (intOf i).toNat)
  case atStart => exact ⟨0, Nat.zero_le _, rfl, fun _ h => absurd h (Nat.not_lt_zero _)⟩
  case round =>
    obtain ⟨k, hk, rfl, hne⟩ := hrel
    have Hne := Lib.hid hne; clear hne
    by_cases hlt : k < l.length
    · obtain rfl := hadr (by omega)
      have hc := hcell k hlt
      clear hcell hadr
      by_cases hv : l.getD k 0 = v
      · have hb : (l[k] == v) = true := by simpa [List.getD, hlt] using hv
        have Hv := Lib.hid hv; clear hv
        go_wp2
        go_ret
        exact ⟨by rw [idx_eq hlt Hne.out Hv.out]; rfl, rfl⟩
      · have hb : (l[k] == v) = false := by simpa [List.getD, hlt] using hv
        have Hv := Lib.hid hv; clear hv
        go_wp2
        go_round
        case rel => exact ⟨k + 1, by omega, by go_num, fun j hj => by
          by_cases e : j = k
          · rw [e]; exact Hv.out
          · exact Hne.out j (by omega)⟩
        case measure => simp [intOf]; omega
    · clear hcell hadr
      go_wp2
      go_ret
      obtain rfl : k = l.length := by omega
      exact ⟨by rw [idx_none Hne.out]; rfl, rfl⟩

theorem rank_is {k : Nat} (l : List Int) (s : Value) (v : Int) (w : World) (h : IsInts w s l) (e : idx l v = k) :
    Calls Try.prog 36 #[s, .int .i64 v] w fun e w' => e = .returned (.int .i64 k) ∧ Drew w w' := by
  subst e
  exact (rank_any l s v w h).mono fun _ _ ⟨h1, h2⟩ => ⟨h1, h2 ▸ Drew.refl w⟩

end Go.Proofs.Ytnhhohhhpaejmaa
namespace Go.Proofs.Ytnhhohhhpaejmaa
open Go.RowKit

/-- Are two lists of lists the same. -/
theorem lists_any (l m : List (List Int)) (s t : Value) (w : World) (h : IsRows w s l) (h' : IsRows w t m) :
    Calls Try.prog 17 #[s, t] w fun e w' => e = .returned (.bool (decide (l = m))) ∧ Drew w w' := by
  obtain ⟨a, cap, b, o, rfl, hcap, hmax, hadr, -, hcell⟩ := h
  obtain ⟨a', cap', b', o', rfl, hcap', hmax', hadr', -, hcell'⟩ := h'
  by_cases hlen : l.length = m.length
  · have hl : ((l.length : Int) != (m.length : Int)) = false := by rw [hlen]; simp
    have hl2 : ((l.length : Int) == (m.length : Int)) = true := by rw [hlen]; simp
    have Hlen := Lib.hid hlen; clear hlen
    go_enter Try.func17, Try.ntmps17
    go_wp2
    clear hl hl2
    go_loopw [5] (fun i wr => Drew w wr ∧ ∃ k : Nat, k ≤ l.length ∧ i = .int .i64 k ∧ ∀ j, j < k → l.getD j [] = m.getD j []) (fun i _ => l.length - (intOf i).toNat)
    case atStart => exact ⟨⟨0, rfl⟩, 0, Nat.zero_le _, rfl, fun _ h => absurd h (Nat.not_lt_zero _)⟩
    case round =>
      obtain ⟨hd, k, hk, rfl, hne⟩ := hrel
      have Hne := Lib.hid hne; clear hne
      by_cases hlt : k < l.length
      · obtain rfl := hadr (by omega)
        have hlt' : k < m.length := by have := Hlen.out; omega
        obtain rfl := hadr' (by omega)
        obtain ⟨x, Hx, ra, rcap, hc, hr⟩ := rows_at hcell hd.below hlt
        obtain ⟨y, Hy, ra', rcap', hc', hr'⟩ := rows_at hcell' hd.below hlt'
        clear hcell hadr hcell' hadr'
        by_cases hv : x = y
        · have hb : decide (x = y) = true := by simpa using hv
          have Hv := Lib.hid hv; have Hb := Lib.hid hb; clear hv hb
          go_wp2
          go_quiet ((go_at_call 39; exact Calls.quiet_of (ints_is _ _ _ _ _ (hr.drewN _) (hr'.drewN _) Hb.out)))
          go_wp2
          go_roundw
          case rel => exact ⟨hd.add _, k + 1, by omega, by go_num, fun j hj => by
            by_cases e : j = k
            · rw [e, Hx.out, Hy.out]; exact Hv.out
            · exact Hne.out j (by omega)⟩
          case measure => simp [intOf]; omega
        · have hb : decide (x = y) = false := by simpa using hv
          have Hv := Lib.hid hv; have Hb := Lib.hid hb; clear hv hb
          go_wp2
          go_quiet ((go_at_call 39; exact Calls.quiet_of (ints_is _ _ _ _ _ (hr.drewN _) (hr'.drewN _) Hb.out)))
          go_wp2
          go_ret
          exact ⟨ret_bool (decide_eq_false (fun e => Hv.out (by rw [← Hx.out, ← Hy.out, e]))).symm, hd.add _⟩
      · clear hcell hadr hcell' hadr'
        go_wp2
        go_ret
        obtain rfl : k = l.length := by omega
        refine ⟨ret_bool (decide_eq_true ?_).symm, hd⟩
        refine List.ext_getElem Hlen.out fun j h1 h2 => ?_
        have := Hne.out j h1
        simpa [List.getD, h1, h2] using this
  · have hl : ((l.length : Int) != (m.length : Int)) = true := by simp; omega
    have hl2 : ((l.length : Int) == (m.length : Int)) = false := by simp; omega
    go_enter Try.func17, Try.ntmps17
    go_wp2
    go_ret
    exact ⟨ret_bool (decide_eq_false (fun e => hlen (by rw [e]))).symm, ⟨0, rfl⟩⟩

end Go.Proofs.Ytnhhohhhpaejmaa
namespace Go.Proofs.Ytnhhohhhpaejmaa
open Go.RowKit

/-- Are numbers all those below n: it says yes where they are. -/
theorem all_yes (l : List Int) (s : Value) (w : World) (h : IsInts w s l) (hr : ∀ i, i < l.length → 0 ≤ l.getD i 0 ∧ l.getD i 0 < l.length) (hd : ∀ i j, i < l.length → j < i → l.getD j 0 ≠ l.getD i 0) :
    Calls Try.prog 14 #[s, .int .i64 l.length] w fun e w' => e = .returned (.bool true) ∧ Drew w w' := by
  have hs := h
  obtain ⟨a, cap, b, o, rfl, hcap, hmax, hadr, -, hcell⟩ := h
  generalize hn : l.length = n at *
  have Hr := Lib.hid hr; have Hd := Lib.hid hd; have Hn := Lib.hid hn
  clear hr hd hn
  have hl : ((n : Int) != (n : Int)) = false := by simp
  go_enter Try.func14, Try.ntmps14
  go_wp2
  clear hl
  go_loopw [5] (fun i wr => Drew w wr ∧ ∃ k : Nat, k ≤ n ∧ i = .int .i64 k) (fun i _ => n - (intOf i).toNat)
  case atStart => exact ⟨⟨0, rfl⟩, 0, Nat.zero_le _, rfl⟩
  case round =>
    obtain ⟨hd, k, hk, rfl⟩ := hrel
    by_cases hlt : k < n
    · obtain rfl := hadr (by omega)
      have hc := below_cell hd.below (hcell k hlt)
      have hx := Hr.out k hlt
      have hi : idx (l.take k) (l.getD k 0) = k := by
        have hlen : (l.take k).length = k := by have := Hn.out; simp; omega
        have := idx_none (l := l.take k) (v := l.getD k 0) (fun j hj => by
          have := Hd.out k j hlt (by omega)
          have hj' : j < k := by omega
          simpa [List.getD, hj'] using this)
        omega
      generalize hxe : l.getD k 0 = x at *
      have Hi := Lib.hid hi; have Hxe := Lib.hid hxe
      obtain ⟨hx0, hx1⟩ := hx
      have hs' := (hs.take hk).below (Drew.below hd)
      obtain ⟨i3, hi3, -⟩ := info_parts info3
      have hsl := run_slice_hi (P := Try.prog) Try.underlying29 hi3 (some ⟨b, o, none⟩) n cap k (by omega)
      clear hcell hadr hi hxe hs hi3
      go_wp2
      go_quiet ((go_at_call 36; exact Calls.quiet_of (rank_is _ _ _ _ (hs'.drewN _) Hi.out)))
      go_wp2
      go_roundw
      case rel => exact ⟨hd.add _, k + 1, by omega, by go_num⟩
      case measure => simp [intOf]; omega
    · clear hcell hadr
      go_wp2
      go_ret
      exact ⟨rfl, hd⟩

end Go.Proofs.Ytnhhohhhpaejmaa
