/- A graph's fault is one alone; a graph without a fault. -/
import Derived.Test.YtnhhohhhpaejmaaHasGrid
import Derived.Test.YtnhhohhhpaejmaaGCheck
namespace Go.Proofs.Ytnhhohhhpaejmaa
open Go.RowKit

theorem least_nat {p : Nat → Prop} : ∀ n, p n → ∃ i, i ≤ n ∧ p i ∧ ∀ j, j < i → ¬ p j := by
  intro n
  induction n using Nat.strongRecOn with
  | _ n ih =>
    intro hn
    by_cases h : ∃ m, m < n ∧ p m
    · obtain ⟨m, hm, hp⟩ := h
      obtain ⟨i, hi, h1, h2⟩ := ih m hm hp
      exact ⟨i, by omega, h1, h2⟩
    · exact ⟨n, Nat.le_refl _, hn, fun j hj hp => h ⟨j, hj, hp⟩⟩

theorem GraphSpec.ex (n : Int) (l : List (Int × Int)) : ∃ c a, GraphSpec n l c a := by
  by_cases hb : TooBig n l
  · exact ⟨2, 0, Or.inl ⟨hb, rfl, rfl⟩⟩
  by_cases h : ∀ j, j < l.length → Fine n l j
  · exact ⟨0, 0, Or.inr ⟨hb, Or.inr ⟨h, rfl, rfl⟩⟩⟩
  · have h' : ∃ j, j < l.length ∧ ¬ Fine n l j := Classical.byContradiction fun hc => h fun j hj => Classical.byContradiction fun hf => hc ⟨j, hj, hf⟩
    obtain ⟨j, hj⟩ := h'
    obtain ⟨i, _, ⟨h1, h2⟩, h3⟩ := least_nat (p := fun j => j < l.length ∧ ¬ Fine n l j) j hj
    have hf : ∀ j, j < i → Fine n l j := fun j hj => Classical.byContradiction fun hc => h3 j hj ⟨by omega, hc⟩
    have hw : ∃ c, Wrong n l i c := by
      by_cases a : EndsOk n (l.getD i (0, 0))
      · by_cases b : (l.getD i (0, 0)).1 = (l.getD i (0, 0)).2
        · exact ⟨4, Or.inr (Or.inl ⟨a, b, rfl⟩)⟩
        · by_cases c : hasE (l.take i) (l.getD i (0, 0)).1 (l.getD i (0, 0)).2 = true
          · exact ⟨5, Or.inr (Or.inr ⟨a, b, c, rfl⟩)⟩
          · exact absurd ⟨a, b, by simpa using c⟩ h2
      · exact ⟨3, Or.inl ⟨a, rfl⟩⟩
    obtain ⟨c, hc⟩ := hw
    exact ⟨c, i, Or.inr ⟨hb, Or.inl ⟨i, h1, hf, hc, rfl⟩⟩⟩

/-- A graph without a fault. -/
structure GoodGraph (n : Int) (l : List (Int × Int)) : Prop where
  lo : 0 ≤ n
  hi : n ≤ 100
  len : l.length ≤ 1000
  fine : ∀ j, j < l.length → Fine n l j
theorem GraphSpec.good {n : Int} {l : List (Int × Int)} {a : Int} (h : GraphSpec n l 0 a) : GoodGraph n l ∧ a = 0 := by
  rcases h with ⟨_, h, _⟩ | ⟨hb, ⟨i, _, _, hw, _⟩ | ⟨h, _, rfl⟩⟩
  · cases h
  · exact absurd rfl hw.ne0
  · unfold TooBig at hb
    exact ⟨⟨by omega, by omega, by omega, h⟩, rfl⟩
theorem GoodGraph.spec {n : Int} {l : List (Int × Int)} (h : GoodGraph n l) : GraphSpec n l 0 0 :=
  Or.inr ⟨by have := h.lo; have := h.hi; have := h.len; unfold TooBig; omega, Or.inr ⟨h.fine, rfl, rfl⟩⟩

/-- This fault comes back. -/
def FaultIs (c a : Int) (w : World) (e : Ending) (w' : World) : Prop := e = .returned (.agg #[.int .i64 c, .int .i64 a]) ∧ Below w.heap.size w w'
theorem gcheck_is {l : List (Int × Int)} {n c a : Int} (hca : GraphSpec n l c a) (s : Value) (w : World) (h : IsEdges w s l) : Calls Try.prog 29 #[.agg #[.int .i64 n, s]] w (FaultIs c a w) :=
  (gcheck_any l n s w h).mono fun _ _ ⟨c', a', hs, he, hb⟩ => by
    obtain ⟨rfl, rfl⟩ := hca.uniq hs
    exact ⟨he, hb⟩
theorem rcheck_is {l : List (Int × Int)} {n c a : Int} (hca : GraphSpec n l c a) (s : Value) (w : World) (h : IsEdges w s l) : Calls Try.prog 8 #[.agg #[.int .i64 n, s]] w (FaultIs c a w) :=
  (rcheck_any l n s w h).mono fun _ _ ⟨c', a', hs, he, hb⟩ => by
    obtain ⟨rfl, rfl⟩ := hca.uniq hs
    exact ⟨he, hb⟩

theorem HasGrid.form {w : World} {v : Value} {n : Nat} {G : Nat → Nat → Bool} (h : HasGrid w v n G) : ∃ a c, v = .slice a n c := by
  obtain ⟨B, a, c, b, o, R, rfl, _⟩ := h
  exact ⟨a, c, rfl⟩

theorem row_facts {w : World} {b : Nat} {T : TypeId} {c d : Value} (h : w.rowIs b T 2 (fun i => if i = 0 then c else d)) :
    w.cell? ⟨b, 0, none⟩ = some c ∧ w.cell? ⟨b, 1, none⟩ = some d ∧ w.frozen? ⟨b, 0, none⟩ = false ∧ w.frozen? ⟨b, 1, none⟩ = false ∧ b < w.heap.size :=
  ⟨h.cell (show 0 < 2 by omega), h.cell (show 1 < 2 by omega), h.frozen 0, h.frozen 1, h.lt⟩

end Go.Proofs.Ytnhhohhhpaejmaa
