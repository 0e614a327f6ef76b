/- Contract of arborref.Rank. -/
import Derived.Test.YtnhhohhhpaejmaaBase
namespace Go.Proofs.Ytnhhohhhpaejmaa
open Go.RowKit

/-- The place of the first v. -/
def idx (l : List Int) (v : Int) : Nat := l.findIdx (· == v)

theorem idx_le (l : List Int) (v : Int) : idx l v ≤ l.length := List.findIdx_le_length
theorem idx_eq {l : List Int} {v : Int} {k : Nat} (hk : k < l.length) (hne : ∀ j, j < k → l.getD j 0 ≠ v) (h : l.getD k 0 = v) : idx l v = k := by
  unfold idx
  rw [List.findIdx_eq hk]
  refine ⟨by simpa [List.getD, hk] using h, fun j hj => ?_⟩
  have := hne j hj
  simpa [List.getD, show j < l.length by omega] using this
theorem idx_none {l : List Int} {v : Int} (hne : ∀ j, j < l.length → l.getD j 0 ≠ v) : idx l v = l.length := by
  unfold idx
  rw [List.findIdx_eq_length]
  intro x hx
  obtain ⟨j, hj, rfl⟩ := List.mem_iff_getElem.1 hx
  have := hne j hj
  simpa [List.getD, hj] using this

theorem rank_any (l : List Int) (s : Value) (v : Int) (w : World) (h : IsInts w s l) :
    Calls Try.prog 36 #[s, .int .i64 v] w fun e w' => e = .returned (.int .i64 (idx l v)) ∧ w = w' := by
  obtain ⟨a, cap, b, o, rfl, hcap, hmax, hadr, -, hcell⟩ := h
  go_enter Try.func36, Try.ntmps36
  go_wp2
  go_loop [5] (fun i => ∃ k : Nat, k ≤ l.length ∧ i = .int .i64 k ∧ ∀ j, j < k → l.getD j 0 ≠ v) (fun i => l.length - (intOf i).toNat)
  case atStart => exact ⟨0, Nat.zero_le _, rfl, fun _ h => absurd h (Nat.not_lt_zero _)⟩
  case round =>
    obtain ⟨k, hk, rfl, hne⟩ := hrel
    have Hne := Lib.hid hne; clear hne
    by_cases hlt : k < l.length
    · obtain rfl := hadr (by omega)
      have hc := hcell k hlt
      clear hcell hadr
      by_cases hv : l.getD k 0 = v
      · have hb : (l[k] == v) = true := by simpa [List.getD, hlt] using hv
        have Hv := Lib.hid hv; clear hv
        go_wp2
        go_ret
        exact ⟨by rw [idx_eq hlt Hne.out Hv.out]; rfl, rfl⟩
      · have hb : (l[k] == v) = false := by simpa [List.getD, hlt] using hv
        have Hv := Lib.hid hv; clear hv
        go_wp2
        go_round
        case rel => exact ⟨k + 1, by omega, by go_num, fun j hj => by
          by_cases e : j = k
          · rw [e]; exact Hv.out
          · exact Hne.out j (by omega)⟩
        case measure => simp [intOf]; omega
    · clear hcell hadr
      go_wp2
      go_ret
      obtain rfl : k = l.length := by omega
      exact ⟨by rw [idx_none Hne.out]; rfl, rfl⟩

theorem rank_is {k : Nat} (l : List Int) (s : Value) (v : Int) (w : World) (h : IsInts w s l) (e : idx l v = k) :
    Calls Try.prog 36 #[s, .int .i64 v] w fun e w' => e = .returned (.int .i64 k) ∧ Drew w w' := by
  subst e
  exact (rank_any l s v w h).mono fun _ _ ⟨h1, h2⟩ => ⟨h1, h2 ▸ Drew.refl w⟩

end Go.Proofs.Ytnhhohhhpaejmaa
