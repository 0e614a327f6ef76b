/- arborlaw.assignBegun: the examples of the document hold. -/
import Derived.Test.YtfccfmjamdpeaaaStable
namespace Go.Proofs.Ytfccfmjamdpeaaa
open Go.RowKit

/-- A row of integers that a literal lays. -/
theorem IsInts.two (w : World) (b : Nat) (x y : Int) (h : w.heap[b]? = some (.cells #[.int .i64 x, .int .i64 y] 3 (0, 0))) : IsInts w (.slice (some ⟨b, 0, none⟩) 2 2) [x, y] :=
  ⟨some ⟨b, 0, none⟩, 2, b, 0, rfl, by simp, by omega, fun _ => rfl, (fun h => by cases h), fun j hj => by
    match j, hj with
    | 0, _ => simp [World.cell?, h]
    | 1, _ => simp [World.cell?, h]⟩

/-- Two rows that a literal lays. -/
theorem IsRows.two (w : World) (b : Nat) (x y : Value) (l m : List Int) (h : w.heap[b]? = some (.cells #[x, y] 51 (0, 0))) (hx : IsInts w x l) (hy : IsInts w y m) : IsRows w (.slice (some ⟨b, 0, none⟩) 2 2) [l, m] :=
  ⟨some ⟨b, 0, none⟩, 2, b, 0, rfl, by simp, by omega, fun _ => rfl, (fun h => by cases h), fun j hj => by
    match j, hj with
    | 0, _ => exact ⟨x, by simp [World.cell?, h], hx⟩
    | 1, _ => exact ⟨y, by simp [World.cell?, h], hy⟩⟩

theorem two_cases {P : Nat → Prop} (h0 : P 0) (h1 : P 1) : ∀ i, i < 2 → P i := fun i hi => by
  match i, hi with
  | 0, _ => exact h0
  | 1, _ => exact h1

theorem least_begun (s : Value) (w : World) (h : IsRows w s [[1, 2], [3, 5]]) :
    Calls Try.prog 36 #[s] w fun e w' => Below w.heap.size w w' ∧ ∃ t p q, e = .returned (.tuple #[t, p, q, .int .i64 5, .agg #[.int .i64 0, .int .i64 0]]) := by
  refine (least_any _ s w h).mono fun e w' ⟨hb, hh⟩ => ⟨hb, ?_⟩
  have h0 : CostSpec [[1, 2], [3, 5]] 0 0 := Or.inr (Or.inr ⟨by simp, two_cases ⟨rfl, two_cases (by simp) (by simp)⟩ ⟨rfl, two_cases (by simp) (by simp)⟩, rfl, rfl⟩)
  rcases hh with ⟨c, a, h1, h2, _⟩ | ⟨_, t, p, q, T, P, Q, total, hok, _, _, _, rfl⟩
  · exact absurd (h1.uniq h0).1 h2
  · refine ⟨t, p, q, ?_⟩
    obtain ⟨l1, l2, l3, hT, hd, _, _, hf, ht, rfl⟩ := hok
    match T, l1 with
    | [t0, t1], _ =>
      match P, l2 with
      | [p0, p1], _ =>
        match Q, l3 with
        | [q0, q1], _ =>
          have a0 := hT 0 (by simp)
          have a1 := hT 1 (by simp)
          have d := hd 1 0 (by simp) (by simp)
          have f00 := hf 0 0 (by simp) (by simp)
          have f01 := hf 0 1 (by simp) (by simp)
          have f10 := hf 1 0 (by simp) (by simp)
          have f11 := hf 1 1 (by simp) (by simp)
          have e0 := ht 0 (by simp)
          have e1 := ht 1 (by simp)
          simp at a0 a1 d f00 f01 f10 f11 e0 e1
          have h01 : (t0 = 0 ∧ t1 = 1) ∨ (t0 = 1 ∧ t1 = 0) := by omega
          rcases h01 with ⟨rfl, rfl⟩ | ⟨rfl, rfl⟩
          · simp at e0 e1
            omega
          · rfl

theorem stable_begun (s t : Value) (w : World) (h : IsRows w s [[0, 1], [0, 1]]) (h' : IsRows w t [[1, 0], [0, 1]]) :
    Calls Try.prog 40 #[s, t] w fun e w' => Below w.heap.size w w' ∧ ∃ r, IsInts w' r [1, 0] ∧ e = .returned (.tuple #[r, .agg #[.int .i64 0, .int .i64 0]]) := by
  refine (stable_any _ _ s t w h h').mono fun e w' ⟨hb, hh⟩ => ⟨hb, ?_⟩
  have hp : ∀ x y : Int, (x = 0 ∧ y = 1) ∨ (x = 1 ∧ y = 0) → RowPerm 2 [x, y] := fun x y hxy => ⟨rfl, two_cases ⟨by simp; omega, by simp; omega, fun q hq => absurd hq (Nat.not_lt_zero _)⟩ ⟨by simp; omega, by simp; omega, fun q hq => by
    obtain rfl : q = 0 := by omega
    simp; omega⟩⟩
  have h0 : LikesSpec [[0, 1], [0, 1]] [[1, 0], [0, 1]] 0 0 := Or.inr (Or.inr ⟨by simp, by simp, Or.inr ⟨fun r hr => by
    match r, hr with
    | 0, _ => exact hp 0 1 (by simp)
    | 1, _ => exact hp 0 1 (by simp)
    | 2, _ => exact hp 1 0 (by simp)
    | 3, _ => exact hp 0 1 (by simp), rfl, rfl⟩⟩)
  rcases hh with ⟨c, a, h1, h2, _⟩ | ⟨_, r, T, ⟨M, rfl, ⟨hM, hMi⟩, hN, _⟩, hT, rfl⟩
  · exact absurd (h1.uniq h0).1 h2
  · refine ⟨r, ?_, rfl⟩
    have m0 := hM 0 (by simp)
    have m1 := hM 1 (by simp)
    have mi : M 0 ≠ M 1 := fun e => by have := hMi 0 1 (by simp) (by simp) e; omega
    simp at m0 m1
    have h01 : (M 0 = 0 ∧ M 1 = 1) ∨ (M 0 = 1 ∧ M 1 = 0) := by omega
    rcases h01 with ⟨e0, e1⟩ | ⟨e0, e1⟩
    · exfalso
      refine hN 1 0 (by simp) (by simp) ?_ ?_
      · rw [e0, e1]; decide
      · rw [e0]; decide
    · have : (List.range ([[0, 1], [0, 1]] : List (List Int)).length).map (fun i => ((M i : Nat) : Int)) = [1, 0] := by
        show [((M 0 : Nat) : Int), ((M 1 : Nat) : Int)] = [1, 0]
        rw [e0, e1]; rfl
      rw [this] at hT
      exact hT

end Go.Proofs.Ytfccfmjamdpeaaa
