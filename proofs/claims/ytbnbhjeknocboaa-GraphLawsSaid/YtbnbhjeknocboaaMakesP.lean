/- What graph.Complement, graph.Line and graph.Induced answer, at whatever graph; the memory of arborlaw.GraphMakes. -/
import Derived.Test.YtbnbhjeknocboaaLine
import Derived.Test.YtbnbhjeknocboaaInd
import Derived.Test.YtbnbhjeknocboaaVars
namespace Go.Proofs.Ytbnbhjeknocboaa
open Go.RowKit

/-- Nothing and the graph's fault, or what R says of a good graph. -/
def GSpec (R : Nat → Int → List (Int × Int) → Int → Int → Prop) (n : Int) (l : List (Int × Int)) (N' : Int) (L' : List (Int × Int)) (c' a' : Int) : Prop :=
  ∃ c a, GraphSpec n l c a ∧ ((c ≠ 0 ∧ N' = 0 ∧ L' = [] ∧ c' = c ∧ a' = a) ∨ (c = 0 ∧ R n.toNat N' L' c' a'))
theorem GSpec.bad {R : Nat → Int → List (Int × Int) → Int → Int → Prop} {n : Int} {l : List (Int × Int)} {N' : Int} {L' : List (Int × Int)} {c' a' c a : Int} (h : GSpec R n l N' L' c' a') (hs : GraphSpec n l c a) (hc : c ≠ 0) : N' = 0 ∧ L' = [] ∧ c' = c ∧ a' = a := by
  obtain ⟨c0, a0, h0, h | h⟩ := h
  · obtain ⟨rfl, rfl⟩ := h0.uniq hs
    exact h.2
  · obtain ⟨rfl, _⟩ := h0.uniq hs
    exact absurd h.1 hc
theorem GSpec.good {R : Nat → Int → List (Int × Int) → Int → Int → Prop} {N : Nat} {l : List (Int × Int)} {N' : Int} {L' : List (Int × Int)} {c' a' : Int} (h : GSpec R N l N' L' c' a') (hg : GoodGraph N l) : R N N' L' c' a' := by
  obtain ⟨c0, a0, h0, h | h⟩ := h
  · obtain ⟨rfl, _⟩ := h0.uniq hg.spec
    exact absurd rfl h.1
  · exact h.2
theorem GSpec.ex {R : Nat → Int → List (Int × Int) → Int → Int → Prop} (n : Int) (l : List (Int × Int)) (hR : ∀ N, ∃ N' L' c' a', R N N' L' c' a') : ∃ N' L' c' a', GSpec R n l N' L' c' a' := by
  obtain ⟨c, a, h⟩ := GraphSpec.ex n l
  by_cases hc : c = 0
  · obtain ⟨N', L', c', a', h'⟩ := hR n.toNat
    exact ⟨N', L', c', a', c, a, h, Or.inr ⟨hc, h'⟩⟩
  · exact ⟨0, [], c, a, c, a, h, Or.inl ⟨hc, rfl, rfl, rfl, rfl⟩⟩
theorem GSpec.cases {R : Nat → Int → List (Int × Int) → Int → Int → Prop} {n : Int} {l : List (Int × Int)} {N' : Int} {L' : List (Int × Int)} {c' a' : Int} (h : GSpec R n l N' L' c' a') :
    (∃ c a, GraphSpec n l c a ∧ c ≠ 0 ∧ N' = 0 ∧ L' = [] ∧ c' = c ∧ a' = a) ∨ (∃ N : Nat, n = N ∧ GoodGraph N l ∧ R N N' L' c' a') := by
  obtain ⟨c, a, h0, h | ⟨rfl, h⟩⟩ := h
  · exact Or.inl ⟨c, a, h0, h⟩
  · obtain ⟨hg, _⟩ := h0.good
    obtain ⟨N, rfl⟩ := Int.eq_ofNat_of_zero_le hg.lo
    exact Or.inr ⟨N, rfl, hg, by simpa using h⟩

abbrev ComplR (l : List (Int × Int)) (N : Nat) (N' : Int) (L' : List (Int × Int)) (c' a' : Int) : Prop := PairsRes N (fun i j => !adj l i j) N' L' c' ∧ a' = 0
def LineR (l : List (Int × Int)) (N : Nat) (N' : Int) (L' : List (Int × Int)) (c' a' : Int) : Prop :=
  (100 < (formL N l).length ∧ N' = 0 ∧ L' = [] ∧ c' = 2 ∧ a' = 0) ∨ ((formL N l).length ≤ 100 ∧ PairsRes (formL N l).length (share (formL N l)) N' L' c' ∧ a' = 0)
abbrev IndR (l : List (Int × Int)) (m : List Int) (N : Nat) (N' : Int) (L' : List (Int × Int)) (c' a' : Int) : Prop := IndRes N l m N' L' c' a'

theorem ComplR.ex (l : List (Int × Int)) (N : Nat) : ∃ N' L' c' a', ComplR l N N' L' c' a' := by
  obtain ⟨N', L', c', h⟩ := PairsRes.ex N (fun i j => !adj l i j)
  exact ⟨N', L', c', 0, h, rfl⟩
theorem LineR.ex (l : List (Int × Int)) (N : Nat) : ∃ N' L' c' a', LineR l N N' L' c' a' := by
  by_cases h : 100 < (formL N l).length
  · exact ⟨0, [], 2, 0, Or.inl ⟨h, rfl, rfl, rfl, rfl⟩⟩
  · obtain ⟨N', L', c', h'⟩ := PairsRes.ex (formL N l).length (share (formL N l))
    exact ⟨N', L', c', 0, Or.inr ⟨by omega, h', rfl⟩⟩
theorem IndR.ex (l : List (Int × Int)) (m : List Int) (N : Nat) : ∃ N' L' c' a', IndR l m N N' L' c' a' := by
  obtain ⟨c, a, h⟩ := IndSpec.ex N m
  by_cases hc : c = 0
  · obtain ⟨N', L', c', h'⟩ := PairsRes.ex m.length (pickG (adj l) m)
    exact ⟨N', L', c', 0, c, a, h, Or.inr ⟨hc, h', rfl⟩⟩
  · exact ⟨0, [], c, a, c, a, h, Or.inl ⟨hc, rfl, rfl, rfl, rfl⟩⟩

theorem complement_is {n : Int} {l : List (Int × Int)} {N' : Int} {L' : List (Int × Int)} {c' a' : Int} (hs : GSpec (ComplR l) n l N' L' c' a') (s : Value) (w : World) (h : IsEdges w s l) :
    Calls Try.prog 9 #[.agg #[.int .i64 n, s]] w (TwoPost N' L' c' a' w) := by
  rcases hs.cases with ⟨c, a, h0, hc, rfl, rfl, rfl, rfl⟩ | ⟨N, rfl, hg, hr, rfl⟩
  · exact complement_bad h0 hc s w h
  · exact complement_ok hg hr s w h
theorem line_is {n : Int} {l : List (Int × Int)} {N' : Int} {L' : List (Int × Int)} {c' a' : Int} (hs : GSpec (LineR l) n l N' L' c' a') (s : Value) (w : World) (h : IsEdges w s l) :
    Calls Try.prog 10 #[.agg #[.int .i64 n, s]] w (TwoPost N' L' c' a' w) := by
  rcases hs.cases with ⟨c, a, h0, hc, rfl, rfl, rfl, rfl⟩ | ⟨N, rfl, hg, ⟨h1, rfl, rfl, rfl, rfl⟩ | ⟨h1, hr, rfl⟩⟩
  · exact line_bad h0 hc s w h
  · exact line_many hg h1 s w h
  · exact line_ok hg h1 hr s w h
theorem induced_is {n : Int} {l : List (Int × Int)} {m : List Int} {N' : Int} {L' : List (Int × Int)} {c' a' : Int} (hs : GSpec (IndR l m) n l N' L' c' a') (s u : Value) (w : World) (h : IsEdges w s l) (hm : IsInts w u m) :
    Calls Try.prog 11 #[.agg #[.int .i64 n, s], u] w (TwoPost N' L' c' a' w) := by
  rcases hs.cases with ⟨c, a, h0, hc, rfl, rfl, rfl, rfl⟩ | ⟨N, rfl, hg, hr⟩
  · exact induced_bad h0 hc s u w h hm
  · exact induced_ok hg hr s u w h hm

/-- What stands throughout in arborlaw.GraphMakes: the arguments' boxes, one's own copies. -/
structure ME (w wr : World) (n : Int) (s : Value) (l : List (Int × Int)) (u : Value) (m : List Int) (B : Nat) (v2 u2 : Value) : Prop where
  hb : Below w.heap.size w wr
  cn : wr.cell? ⟨w.heap.size, 0, none⟩ = some (.int .i64 n)
  cs : wr.cell? ⟨w.heap.size, 1, none⟩ = some s
  cu : wr.cell? ⟨w.heap.size + 1, 0, none⟩ = some u
  own : VarG wr B n v2 l
  he : IsEdges wr s l
  hu : IsInts wr u m
  hu2 : IsInts wr u2 m
theorem ME.below {w wr w' : World} {n : Int} {s : Value} {l : List (Int × Int)} {u : Value} {m : List Int} {B : Nat} {v2 u2 : Value} (h : ME w wr n s l u m B v2 u2) (hb : Below wr.heap.size wr w') : ME w w' n s l u m B v2 u2 :=
  ⟨h.hb.trans (hb.mono h.hb.size), below_cell hb h.cn, below_cell hb h.cs, below_cell hb h.cu, h.own.below hb, h.he.below hb, h.hu.below hb, h.hu2.below hb⟩
theorem ME.facts {w wr : World} {n : Int} {s : Value} {l : List (Int × Int)} {u : Value} {m : List Int} {B : Nat} {v2 u2 : Value} (h : ME w wr n s l u m B v2 u2) :
    wr.cell? ⟨w.heap.size, 0, none⟩ = some (.int .i64 n) ∧ wr.cell? ⟨w.heap.size, 1, none⟩ = some s ∧ wr.cell? ⟨w.heap.size + 1, 0, none⟩ = some u ∧ wr.cell? ⟨B, 0, none⟩ = some (.int .i64 n) ∧ wr.cell? ⟨B, 1, none⟩ = some v2 ∧
      w.heap.size < wr.heap.size ∧ w.heap.size + 1 < wr.heap.size ∧ B < wr.heap.size :=
  ⟨h.cn, h.cs, h.cu, h.own.c0, h.own.c1, World.block_lt_of_cell? _ _ h.cn, World.block_lt_of_cell? _ _ h.cu, h.own.lt⟩

theorem field_edges (n : Int) (v : Value) (w : World) : (Instr.field 24 (.agg #[.int .i64 n, v]) 1).run Try.prog w = .ok v w := by kernel_rfl

theorem IndSpec.uniq {N : Nat} {m : List Int} {c a c' a' : Int} (h : IndSpec N m c a) (h' : IndSpec N m c' a') : c = c' ∧ a = a' := by
  rcases h' with ⟨k, hb, rfl⟩ | ⟨hf, rfl, rfl⟩
  · exact h.bad hb
  · exact h.fine hf
theorem IndRes.fault {N : Nat} {l : List (Int × Int)} {m : List Int} {N' : Int} {L' : List (Int × Int)} {c' a' c a : Int} (h : IndRes N l m N' L' c' a') (hs : IndSpec N m c a) (hc : c ≠ 0) : N' = 0 ∧ L' = [] ∧ c' = c ∧ a' = a := by
  obtain ⟨c0, a0, h0, h | h⟩ := h
  · obtain ⟨rfl, rfl⟩ := h0.uniq hs
    exact h.2
  · obtain ⟨rfl, _⟩ := h0.uniq hs
    exact absurd h.1 hc
theorem ZCut.below {wb : World} {Z U : Nat} {n : Int} {l : List (Int × Int)} {c d : Int} {w w' : World} (h : ZCut wb Z U n l c d w) (hb : Below w.heap.size w w') : ZCut wb Z U n l c d w' := by
  obtain ⟨a, q, hz, he, hu, hb0⟩ := h
  exact ⟨a, q, hz.of_block (hb.block _ hz.lt), he.below hb, hu.of_block (hb.block _ hu.lt), upb hb0 hb⟩
/-- Two cells are written. -/
theorem row_two {w : World} {Z : Nat} {T : TypeId} {f : Nat → Value} (h : w.rowIs Z T 2 f) (x y : Value) : ((w.setCell ⟨Z, 0, none⟩ x).setCell ⟨Z, 1, none⟩ y).rowIs Z T 2 (fun i => if i = 0 then x else y) :=
  ((h.set 0 x).set 1 y).congr fun i hi => by
    match i, hi with
    | 0, _ => rfl
    | 1, _ => rfl
theorem row_off {w : World} {Z U : Nat} {T : TypeId} {n : Nat} {f : Nat → Value} (h : w.rowIs U T n f) (hne : U ≠ Z) (x y : Value) : ((w.setCell ⟨Z, 0, none⟩ x).setCell ⟨Z, 1, none⟩ y).rowIs U T n f :=
  (h.setOther (a := ⟨Z, 0, none⟩) hne x).setOther (a := ⟨Z, 1, none⟩) hne y

end Go.Proofs.Ytbnbhjeknocboaa
