/- Rows of integers that the call owns. -/
import Derived.Test.YtmhcnekbfngafaaBase0
import Derived.Test.YtmhcnekbfngafaaPA
namespace Go.Proofs.Ytmhcnekbfngafaa
open Go.RowKit

/-- k rows of m are copied: the value v owns their heads; each is owned, too. -/
def Copied (B : Nat) (wr : World) (v : Value) (k : Nat) (m : List (List Int)) : Prop :=
  ∃ vals, wr.ownsRow B 39 1 v k vals ∧ ∀ j, j < k → ∃ r, vals[j]? = some r ∧ wr.ownsRow B 3 1 r (m.getD j []).length ((m.getD j []).map (Value.int .i64))

theorem Copied.rows {B : Nat} {wr : World} {v : Value} {m : List (List Int)} (h : Copied B wr v m.length m) : IsRows wr v m := by
  obtain ⟨vals, hown, hv⟩ := h
  obtain ⟨a, c, rfl⟩ := ownsRow_form hown
  obtain ⟨h1, h2, h3, b, h4, h5⟩ := ownsRow_cap hown
  refine ⟨a, c, b, 0, rfl, h1, h2, fun hp => (h4 hp).1, h3, fun j hj => ?_⟩
  obtain ⟨r, hr, ho⟩ := hv j hj
  exact ⟨r, by rw [Nat.zero_add]; exact h5 j r hr, IsInts.owned ho⟩

/-- One row more. -/
theorem Copied.more {B : Nat} {wr w1 w2 : World} {v r v' : Value} {k : Nat} {m : List (List Int)} {vals : List Value} {o : Obj}
    (hown : wr.ownsRow B 39 1 v k vals) (hv : ∀ j, j < k → ∃ r, vals[j]? = some r ∧ wr.ownsRow B 3 1 r (m.getD j []).length ((m.getD j []).map (Value.int .i64)))
    (g1 : wr.grownBy w1 none) (hr : w1.ownsRow B 3 1 r (m.getD k []).length ((m.getD k []).map (Value.int .i64)))
    (h2 : w2.ownsRow B 39 1 v' (k + 1) (vals ++ [r])) (g2 : (w1.alloc o).grownBy w2 v.ownBlock) : Copied B w2 v' (k + 1) m := by
  have hlen : vals.length = k := by have := hown.1; omega
  have ty : ∀ g, v.ownBlock = some g → ∃ c e' fz, (w1.alloc o).heap[g]? = some (.cells c e' fz) ∧ e' ≠ 3 := fun g hg => by
    obtain ⟨c, fz, hc⟩ := ownsRow_type ((hown.kept g1 (by cases v.ownBlock <;> simp)).alloc o) g hg
    exact ⟨c, _, fz, hc, by decide⟩
  refine ⟨_, h2, fun j hj => ?_⟩
  by_cases e : j = k
  · subst e
    exact ⟨r, by rw [List.getElem?_append_right (by omega)]; simp [hlen], ownsRow_typed (hr.alloc o) g2 ty⟩
  · obtain ⟨q, hq, ho⟩ := hv j (by omega)
    exact ⟨q, by rw [List.getElem?_append_left (by omega)]; exact hq, ownsRow_typed ((ho.kept g1 (by cases q.ownBlock <;> simp)).alloc o) g2 ty⟩

theorem ownsRow_low {w : World} {base b' : Nat} {e : TypeId} {size : Nat} {v : Value} {n : Nat} {xs : List Value} (h : w.ownsRow base e size v n xs) (hb : b' ≤ base) : w.ownsRow b' e size v n xs := by
  obtain ⟨h1, h2⟩ := h
  refine ⟨h1, ?_⟩
  rcases h2 with h2 | ⟨g, cap, cur, e, hg, h3⟩
  · exact Or.inl h2
  · exact Or.inr ⟨g, cap, cur, e, by omega, h3⟩
theorem grown_of_below {w w' : World} (h : Below w.heap.size w w') : w.grownBy w' none := ⟨h.os, h.tape, h.output, h.size, fun k hk _ => h.block k hk⟩

end Go.Proofs.Ytmhcnekbfngafaa
