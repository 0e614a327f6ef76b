/- arborref.Has2. -/
import Derived.Test.YtmhcnekbfngafaaRank
import Derived.Test.YtmhcnekbfngafaaPA
namespace Go.Proofs.Ytmhcnekbfngafaa
open Go.RowKit

theorem idx_has (l : List Nat) (v : Nat) : (decide ((idx (ints l) v : Int) < ((ints l).length : Int))) = l.contains v := by
  have e : (idx (ints l) v < (ints l).length) ↔ v ∈ l := by
    unfold idx ints
    rw [List.findIdx_lt_length]
    constructor
    · rintro ⟨x, hx, h⟩
      obtain ⟨y, hy, rfl⟩ := List.mem_map.1 hx
      have : y = v := by have h' : ((y : Int) == (v : Int)) = true := h; simp at h'; omega
      exact this ▸ hy
    · intro h
      exact ⟨(v : Int), List.mem_map.2 ⟨v, h, rfl⟩, by simp⟩
  rw [Bool.eq_iff_iff]
  simp only [decide_eq_true_eq, List.contains_iff_mem]
  rw [← e]
  omega

set_option maxHeartbeats 400000 in
theorem has2_any (l : List Nat) (s : Value) (v : Nat) (w : World) (h : IsInts w s (ints l)) :
    Calls Try.prog 75 #[s, .int .i64 (v : Int)] w fun e w' => e = .returned (.bool (l.contains v)) ∧ w = w' := by
  have hs := h
  obtain ⟨a, cap, b, o, rfl, hcap, hmax, hadr, -, hcell⟩ := h
  have He := Lib.hid (idx_has l v)
  clear hcell hadr hcap hmax
  go_enter Try.func75, Try.ntmps75
  go_wp2_with (go_at_call 88; refine (rank_any _ _ _ _ hs).mono ?_; rintro e w' ⟨rfl, rfl⟩)
  go_ret
  exact ⟨ret_bool (by rw [← He.out]; simp), rfl⟩

end Go.Proofs.Ytmhcnekbfngafaa
