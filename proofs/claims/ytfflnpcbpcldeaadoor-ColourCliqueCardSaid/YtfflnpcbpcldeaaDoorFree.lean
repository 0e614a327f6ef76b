/- Sets of nodes without an edge. No walk. -/
import Derived.Test.YtfflnpcbpcldeaaDoorMasksP
import Derived.Test.YtfflnpcbpcldeaaDoorCtz
namespace Go.Proofs.YtfflnpcbpcldeaaDoor
open Go Go.RowKit

/-- Does a set of nodes have no edge? -/
def freeB (l : List (Int × Int)) (N s : Nat) : Bool := decide (∀ u, u < N → ∀ v, v < N → s.testBit u = true → s.testBit v = true → adj l u v = false)
theorem freeB_iff {l : List (Int × Int)} {N s : Nat} : freeB l N s = true ↔ ∀ u, u < N → ∀ v, v < N → s.testBit u = true → s.testBit v = true → adj l u v = false := by
  unfold freeB; exact decide_eq_true_iff
theorem freeB_zero (l : List (Int × Int)) (N : Nat) : freeB l N 0 = true := freeB_iff.2 fun u _ v _ h => by simp at h
theorem adj_sy (l : List (Int × Int)) (i j : Nat) : adj l i j = adj l j i := by
  unfold adj hasE
  congr 1
  funext e
  simp only [decide_eq_decide]
  unfold Meets
  omega
theorem adj_self {l : List (Int × Int)} (h : ∀ j, j < l.length → (l.getD j (0, 0)).1 ≠ (l.getD j (0, 0)).2) (i : Nat) : adj l i i = false := by
  cases e : adj l i i with
  | false => rfl
  | true =>
    unfold adj hasE at e
    obtain ⟨x, hx, hm⟩ := List.any_eq_true.1 e
    obtain ⟨j, hj, rfl⟩ := List.getElem_of_mem hx
    have h1 := h j hj
    have h2 : l.getD j (0, 0) = l[j] := by simp [List.getD, hj]
    rw [h2] at h1
    have hm := of_decide_eq_true hm
    unfold Meets at hm
    omega
theorem bit_lt {s N i : Nat} (hs : s < 2 ^ N) (h : s.testBit i = true) : i < N := by
  rcases Nat.lt_or_ge i N with h' | h'
  · exact h'
  · have : s < 2 ^ i := Nat.lt_of_lt_of_le hs (Nat.pow_le_pow_right (by decide) h')
    rw [Nat.testBit_lt_two_pow this] at h
    cases h
theorem zero_bits {a : Nat} : a = 0 ↔ ∀ i, a.testBit i = false := ⟨fun h i => by rw [h]; simp, fun h => Nat.eq_of_testBit_eq fun i => by rw [h i]; simp⟩
theorem few_pow {s N : Nat} (hN : N ≤ 62) (hs : s < 2 ^ N) : Few s := Nat.lt_of_lt_of_le hs (by rw [few_two]; exact Nat.pow_le_pow_right (by decide) hN)
/-- As colour.loose finds it. -/
theorem freeB_step {l : List (Int × Int)} {N s : Nat} (hl : ∀ j, j < l.length → (l.getD j (0, 0)).1 ≠ (l.getD j (0, 0)).2) (hN : N ≤ 62) (h0 : s ≠ 0) (hs : s < 2 ^ N) :
    freeB l N s = (freeB l N (land s (s - 1)) && decide (land (near l N (Lib.ctz 64 s)) (land s (s - 1)) = 0)) := by
  obtain ⟨h1, h2⟩ := ctz_low h0 (few_pow hN hs)
  have hcN := bit_lt hs h1
  generalize land s (s - 1) = r at *
  generalize Lib.ctz 64 s = c at *
  have hnear : ∀ i, (land (near l N c) r).testBit i = (decide (i < N) && adj l c i && (s.testBit i && decide (i ≠ c))) := fun i => by
    rw [land_bit, h2 i]; unfold near; rw [maskOf_bit]
  rw [Bool.eq_iff_iff, Bool.and_eq_true, freeB_iff, freeB_iff, decide_eq_true_iff, zero_bits]
  constructor
  · intro h
    refine ⟨fun u hu v hv bu bv => h u hu v hv (by rw [h2] at bu; simp at bu; exact bu.1) (by rw [h2] at bv; simp at bv; exact bv.1), fun i => ?_⟩
    rw [hnear]
    by_cases hi : i < N
    · cases e : s.testBit i with
      | false => simp
      | true => rw [h c hcN i hi h1 e]; simp
    · simp [hi]
  · rintro ⟨ha, hb⟩ u hu v hv bu bv
    have key : ∀ w, w < N → s.testBit w = true → adj l c w = false := fun w hw bw => by
      by_cases e : w = c
      · subst e; exact adj_self hl w
      · have := hb w
        rw [hnear, bw] at this
        simpa [hw, e] using this
    by_cases e1 : u = c
    · subst e1; exact key v hv bv
    · by_cases e2 : v = c
      · subst e2; rw [adj_sy]; exact key u hu bu
      · exact ha u hu v hv (by rw [h2, bu]; simp [e1]) (by rw [h2, bv]; simp [e2])
theorem land_pred {s : Nat} (h0 : s ≠ 0) : land s (s - 1) < s := by
  have : land s (s - 1) ≤ s - 1 := Nat.and_le_right
  omega

end Go.Proofs.YtfflnpcbpcldeaaDoor
