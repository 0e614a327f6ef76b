/- Nodes melted into nodes, as the code keeps it: each points to one into which it was melted. Plain. No program in sight. -/
import Derived.Test.YtmhcnekbfngafaaHangP
namespace Go.Proofs.Ytmhcnekbfngafaa
open Go Go.RowKit

/-- u v: what v points to; c v: where one ends. -/
structure Forest (N : Nat) (u c : Nat → Nat) : Prop where
  lt : ∀ v, v < N → u v < N
  can : Canon N c
  step : ∀ v, v < N → c (u v) = c v
  root : ∀ v, v < N → u v = v → c v = v
  fix : ∀ v, v < N → u (c v) = c v
  deep : ∃ h : Nat → Nat, ∀ v, v < N → u v ≠ v → h (u v) < h v
theorem Forest.start (N : Nat) : Forest N id id :=
  ⟨fun _ h => h, ⟨fun _ h => h, fun _ _ => rfl⟩, fun _ _ => rfl, fun _ _ h => h, fun _ _ => rfl, fun v => v, fun _ _ h => absurd rfl h⟩
theorem Forest.melt {N : Nat} {u c : Nat → Nat} (h : Forest N u c) {x y : Nat} (hx : x < N) (hy : y < N) (hxy : c x ≠ c y) : Forest N (fun v => if v = c x then c y else u v) (meltN c x y) := by
  have lx := h.can.lt x hx
  have ly := h.can.lt y hy
  have tx := h.can.top x hx
  have ty := h.can.top y hy
  obtain ⟨d, hd⟩ := h.deep
  refine ⟨fun v hv => ?_, h.can.melt hy, fun v hv => ?_, fun v hv e => ?_, fun v hv => ?_, fun v => d v + if c v = c x then d (c y) + 1 else 0, fun v hv e => ?_⟩
  · show (if v = c x then c y else u v) < N
    split
    · exact ly
    · exact h.lt v hv
  · show meltN c x y (if v = c x then c y else u v) = meltN c x y v
    unfold meltN
    by_cases e : v = c x
    · rw [if_pos e, e, tx, if_pos rfl, ty, if_neg (fun e => hxy e.symm)]
    · rw [if_neg e, h.step v hv]
  · unfold meltN
    by_cases e1 : v = c x
    · rw [if_pos e1] at e
      exact absurd (by rw [e, e1] : c y = c x) (fun e => hxy e.symm)
    · rw [if_neg e1] at e
      have := h.root v hv e
      rw [if_neg (by rw [this]; exact e1), this]
  · show (if meltN c x y v = c x then c y else u (meltN c x y v)) = meltN c x y v
    unfold meltN
    by_cases e1 : c v = c x
    · rw [if_pos e1, if_neg (fun e => hxy e.symm)]; exact h.fix y hy
    · rw [if_neg e1, if_neg e1]; exact h.fix v hv
  · simp only at e ⊢
    by_cases e1 : v = c x
    · rw [if_pos e1, if_neg (by rw [ty]; exact fun e => hxy e.symm), if_pos (by rw [e1, tx])]; omega
    · rw [if_neg e1] at e ⊢
      have := hd v hv e
      rw [h.step v hv]
      omega
/-- The nodes' numbers in a list. -/
def upL (N : Nat) (u : Nat → Nat) : List Int := (List.range N).map fun v => (u v : Int)
theorem upL_length (N : Nat) (u : Nat → Nat) : (upL N u).length = N := by unfold upL; simp
theorem upL_getD {N : Nat} {u : Nat → Nat} {v : Nat} (h : v < N) : (upL N u).getD v 0 = (u v : Int) := by
  unfold upL
  rw [List.getD, List.getElem?_map, List.getElem?_range h]; rfl
/-- Edges of a list of pairs. -/
def elN (l : List (Int × Int)) : EL := l.map fun e => (e.1.toNat, e.2.toNat)
theorem elN_length (l : List (Int × Int)) : (elN l).length = l.length := by unfold elN; simp
theorem elN_getD {l : List (Int × Int)} {k : Nat} (hk : k < l.length) {x y : Nat} (h : l.getD k (0, 0) = ((x : Int), (y : Int))) : (elN l).getD k (0, 0) = (x, y) := by
  rw [List.getD, List.getElem?_eq_getElem hk, Option.getD_some] at h
  unfold elN
  rw [List.getD, List.getElem?_map, List.getElem?_eq_getElem hk, h]
  rfl
/-- Their ends are nodes. -/
def EndsN (N : Nat) (l : List (Int × Int)) : Prop := ∀ e ∈ l, 0 ≤ e.1 ∧ e.1 < N ∧ 0 ≤ e.2 ∧ e.2 < N
theorem EndsN.el {N : Nat} {l : List (Int × Int)} (h : EndsN N l) : ∀ x ∈ elN l, x.1 < N ∧ x.2 < N := fun x hx => by
  obtain ⟨e, he, rfl⟩ := List.mem_map.1 hx
  have := h e he
  simp only; omega
theorem EndsN.at {N : Nat} {l : List (Int × Int)} (h : EndsN N l) {k : Nat} (hk : k < l.length) : ∃ x y : Nat, l.getD k (0, 0) = ((x : Int), (y : Int)) ∧ x < N ∧ y < N := by
  have hm : l.getD k (0, 0) ∈ l := by rw [List.getD, List.getElem?_eq_getElem hk]; exact List.getElem_mem hk
  have := h _ hm
  refine ⟨(l.getD k (0, 0)).1.toNat, (l.getD k (0, 0)).2.toNat, ?_, by omega, by omega⟩
  rw [Int.toNat_of_nonneg this.1, Int.toNat_of_nonneg this.2.2.1]

end Go.Proofs.Ytmhcnekbfngafaa
