/- Contract of arborref.Rank. arborref.Has2. -/
import Derived.Test.YtnmljgjegodkaaaDoorBase
import Derived.Test.YtnmljgjegodkaaaDoorPA
namespace Go.Proofs.YtnmljgjegodkaaaDoor
open Go.RowKit

/-- The place of the first v. -/
def idx (l : List Int) (v : Int) : Nat := l.findIdx (· == v)

theorem idx_le (l : List Int) (v : Int) : idx l v ≤ l.length := List.findIdx_le_length
theorem idx_eq {l : List Int} {v : Int} {k : Nat} (hk : k < l.length) (hne : ∀ j, j < k → l.getD j 0 ≠ v) (h : l.getD k 0 = v) : idx l v = k := by
  unfold idx
  rw [List.findIdx_eq hk]
  refine ⟨by simpa [List.getD, hk] using h, fun j hj => ?_⟩
  have := hne j hj
  simpa [List.getD, show j < l.length by omega] using this
theorem idx_none {l : List Int} {v : Int} (hne : ∀ j, j < l.length → l.getD j 0 ≠ v) : idx l v = l.length := by
  unfold idx
  rw [List.findIdx_eq_length]
  intro x hx
  obtain ⟨j, hj, rfl⟩ := List.mem_iff_getElem.1 hx
  have := hne j hj
  simpa [List.getD, hj] using this

theorem rank_any (l : List Int) (s : Value) (v : Int) (w : World) (h : IsInts w s l) :
    Calls Tryd.prog 34 #[s, .int .i64 v] w fun e w' => e = .returned (.int .i64 (idx l v)) ∧ w = w' := by
  obtain ⟨a, cap, b, o, rfl, hcap, hmax, hadr, -, hcell⟩ := h
  go_enter Tryd.func34, Tryd.ntmps34
  go_wp2
  go_loop [5] (fun i => ∃ k : Nat, k ≤ l.length ∧ i = .int .i64 k ∧ ∀ j, j < k → l.getD j 0 ≠ v) (fun i => l.length - (intOf i).toNat)
  case atStart => exact ⟨0, Nat.zero_le _, rfl, fun _ h => absurd h (Nat.not_lt_zero _)⟩
  case round =>
    obtain ⟨k, hk, rfl, hne⟩ := hrel
    have Hne := Lib.hid hne; clear hne
    by_cases hlt : k < l.length
    · obtain rfl := hadr (by omega)
      have hc := hcell k hlt
      clear hcell hadr
      by_cases hv : l.getD k 0 = v
      · have hb : (l[k] == v) = true := by simpa [List.getD, hlt] using hv
        have Hv := Lib.hid hv; clear hv
        go_wp2
        go_ret
        exact ⟨by rw [idx_eq hlt Hne.out Hv.out]; rfl, rfl⟩
      · have hb : (l[k] == v) = false := by simpa [List.getD, hlt] using hv
        have Hv := Lib.hid hv; clear hv
        go_wp2
        go_round
        case rel => exact ⟨k + 1, by omega, by go_num, fun j hj => by
          by_cases e : j = k
          · rw [e]; exact Hv.out
          · exact Hne.out j (by omega)⟩
        case measure => simp [intOf]; omega
    · clear hcell hadr
      go_wp2
      go_ret
      obtain rfl : k = l.length := by omega
      exact ⟨by rw [idx_none Hne.out]; rfl, rfl⟩

theorem rank_is {k : Nat} (l : List Int) (s : Value) (v : Int) (w : World) (h : IsInts w s l) (e : idx l v = k) :
    Calls Tryd.prog 34 #[s, .int .i64 v] w fun e w' => e = .returned (.int .i64 k) ∧ Drew w w' := by
  subst e
  exact (rank_any l s v w h).mono fun _ _ ⟨h1, h2⟩ => ⟨h1, h2 ▸ Drew.refl w⟩

end Go.Proofs.YtnmljgjegodkaaaDoor
namespace Go.Proofs.YtnmljgjegodkaaaDoor
open Go.RowKit

theorem idx_has (l : List Nat) (v : Nat) : (decide ((idx (ints l) v : Int) < ((ints l).length : Int))) = l.contains v := by
  have e : (idx (ints l) v < (ints l).length) ↔ v ∈ l := by
    unfold idx ints
    rw [List.findIdx_lt_length]
    constructor
    · rintro ⟨x, hx, h⟩
      obtain ⟨y, hy, rfl⟩ := List.mem_map.1 hx
      have : y = v := by have h' : ((y : Int) == (v : Int)) = true := h; simp at h'; omega
      exact this ▸ hy
    · intro h
      exact ⟨(v : Int), List.mem_map.2 ⟨v, h, rfl⟩, by simp⟩
  rw [Bool.eq_iff_iff]
  simp only [decide_eq_true_eq, List.contains_iff_mem]
  rw [← e]
  omega

set_option maxHeartbeats 400000 in
theorem has2_any (l : List Nat) (s : Value) (v : Nat) (w : World) (h : IsInts w s (ints l)) :
    Calls Tryd.prog 36 #[s, .int .i64 (v : Int)] w fun e w' => e = .returned (.bool (l.contains v)) ∧ w = w' := by
  have hs := h
  obtain ⟨a, cap, b, o, rfl, hcap, hmax, hadr, -, hcell⟩ := h
  have He := Lib.hid (idx_has l v)
  clear hcell hadr hcap hmax
  go_enter Tryd.func36, Tryd.ntmps36
  go_wp2_with (go_at_call 34; refine (rank_any _ _ _ _ hs).mono ?_; rintro e w' ⟨rfl, rfl⟩)
  go_ret
  exact ⟨ret_bool (by rw [← He.out]; simp), rfl⟩

end Go.Proofs.YtnmljgjegodkaaaDoor
