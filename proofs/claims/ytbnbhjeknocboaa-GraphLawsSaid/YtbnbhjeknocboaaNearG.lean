/- graph.Form and graph.Near at whatever graph. -/
import Derived.Test.YtbnbhjeknocboaaNear
import Derived.Test.YtbnbhjeknocboaaMakesP
namespace Go.Proofs.Ytbnbhjeknocboaa
open Go.RowKit

abbrev FormR (l : List (Int × Int)) (N : Nat) (N' : Int) (L' : List (Int × Int)) (c' a' : Int) : Prop := N' = (N : Int) ∧ L' = formL N l ∧ c' = 0 ∧ a' = 0
theorem form_is {n : Int} {l : List (Int × Int)} {N' : Int} {L' : List (Int × Int)} {c' a' : Int} (hs : GSpec (FormR l) n l N' L' c' a') (s : Value) (w : World) (h : IsEdges w s l) :
    Calls Try.prog 30 #[.agg #[.int .i64 n, s]] w (TwoPost N' L' c' a' w) := by
  rcases hs.cases with ⟨c, a, h0, hc, rfl, rfl, rfl, rfl⟩ | ⟨N, rfl, hg, rfl, rfl, rfl, rfl⟩
  · exact form_bad h0 hc s w h
  · exact form_ok hg s w h
/-- What graph.Near answers, at whatever graph. -/
def NearG (n : Int) (l : List (Int × Int)) (v : Int) (L : List Int) (c' a' : Int) : Prop :=
  ∃ c a, GraphSpec n l c a ∧ ((c ≠ 0 ∧ L = [] ∧ c' = c ∧ a' = a) ∨ (c = 0 ∧ NearR l v n.toNat L c' a'))
theorem NearG.bad {n : Int} {l : List (Int × Int)} {v : Int} {L : List Int} {c' a' c a : Int} (h : NearG n l v L c' a') (hs : GraphSpec n l c a) (hc : c ≠ 0) : L = [] ∧ c' = c ∧ a' = a := by
  obtain ⟨c0, a0, h0, h | h⟩ := h
  · obtain ⟨rfl, rfl⟩ := h0.uniq hs
    exact h.2
  · obtain ⟨rfl, _⟩ := h0.uniq hs
    exact absurd h.1 hc
theorem NearG.good {N : Nat} {l : List (Int × Int)} {v : Int} {L : List Int} {c' a' : Int} (h : NearG N l v L c' a') (hg : GoodGraph N l) : NearR l v N L c' a' := by
  obtain ⟨c0, a0, h0, h | h⟩ := h
  · obtain ⟨rfl, _⟩ := h0.uniq hg.spec
    exact absurd rfl h.1
  · simpa using h.2
theorem NearR.ex (l : List (Int × Int)) (v : Int) (N : Nat) : ∃ L c a, NearR l v N L c a := by
  by_cases h : v < 0 ∨ (N : Int) ≤ v
  · exact ⟨[], 3, 0, Or.inl ⟨h, rfl, rfl, rfl⟩⟩
  · exact ⟨_, 0, 0, Or.inr ⟨by omega, by omega, rfl, rfl, rfl⟩⟩
theorem NearG.ex (n : Int) (l : List (Int × Int)) (v : Int) : ∃ L c a, NearG n l v L c a := by
  obtain ⟨c, a, h⟩ := GraphSpec.ex n l
  by_cases hc : c = 0
  · obtain ⟨L, c', a', h'⟩ := NearR.ex l v n.toNat
    exact ⟨L, c', a', c, a, h, Or.inr ⟨hc, h'⟩⟩
  · exact ⟨[], c, a, c, a, h, Or.inl ⟨hc, rfl, rfl, rfl⟩⟩
theorem near_is {n : Int} {l : List (Int × Int)} {v : Int} {L : List Int} {c' a' : Int} (hs : NearG n l v L c' a') (s : Value) (w : World) (h : IsEdges w s l) :
    Calls Try.prog 31 #[.agg #[.int .i64 n, s], .int .i64 v] w (NearPost L c' a' w) := by
  obtain ⟨c, a, h0, ⟨hc, rfl, rfl, rfl⟩ | ⟨rfl, hr⟩⟩ := hs
  · exact near_bad h0 hc s v w h
  · obtain ⟨hg, _⟩ := h0.good
    obtain ⟨N, rfl⟩ := Int.eq_ofNat_of_zero_le hg.lo
    exact near_ok hg v (by simpa using hr) s w h

end Go.Proofs.Ytbnbhjeknocboaa
