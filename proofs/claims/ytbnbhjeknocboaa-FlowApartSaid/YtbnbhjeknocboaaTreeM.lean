/- flow.Tree: what it answers, and its tables. -/
import Derived.Test.YtbnbhjeknocboaaPD
import Derived.Test.YtbnbhjeknocboaaFMost
import Derived.Test.YtbnbhjeknocboaaSide
import Derived.Test.YtbnbhjeknocboaaFArcs
namespace Go.Proofs.Ytbnbhjeknocboaa
open Go.RowKit

/-- A weight is as it must be. -/
def WOk (ws : List Int) (j : Nat) : Prop := 0 ≤ ws.getD j 0 ∧ ws.getD j 0 ≤ 1000000
/-- What is wrong with weights. -/
def WSpec (ws : List Int) (c a : Int) : Prop := (∃ i : Nat, i < ws.length ∧ (∀ j, j < i → WOk ws j) ∧ ¬ WOk ws i ∧ c = 3 ∧ a = i) ∨ ((∀ j, j < ws.length → WOk ws j) ∧ c = 0 ∧ a = 0)
/-- What is wrong with a graph and weights. -/
def TreeSpec (n : Int) (l : List (Int × Int)) (ws : List Int) (c a : Int) : Prop :=
  (GraphSpec n l c a ∧ c ≠ 0) ∨ (GraphSpec n l 0 0 ∧ ((ws.length ≠ l.length ∧ c = 6 ∧ a = 0) ∨ (ws.length = l.length ∧ WSpec ws c a)))
theorem WSpec.uniq {ws : List Int} {c a c' a' : Int} (h : WSpec ws c a) (h' : WSpec ws c' a') : c = c' ∧ a = a' := by
  rcases h with ⟨i, h1, h2, h3, rfl, rfl⟩ | ⟨h1, rfl, rfl⟩ <;> rcases h' with ⟨i', h1', h2', h3', rfl, rfl⟩ | ⟨h1', rfl, rfl⟩
  · rcases Nat.lt_trichotomy i i' with h | h | h
    · exact absurd (h2' i h) h3
    · subst h; exact ⟨rfl, rfl⟩
    · exact absurd (h2 i' h) h3'
  · exact absurd (h1' i h1) h3
  · exact absurd (h1 i' h1') h3'
  · exact ⟨rfl, rfl⟩
theorem TreeSpec.uniq {n : Int} {l : List (Int × Int)} {ws : List Int} {c a c' a' : Int} (h : TreeSpec n l ws c a) (h' : TreeSpec n l ws c' a') : c = c' ∧ a = a' := by
  rcases h with ⟨h1, h2⟩ | ⟨h1, h2⟩ <;> rcases h' with ⟨h1', h2'⟩ | ⟨h1', h2'⟩
  · exact h1.uniq h1'
  · exact absurd (h1.uniq h1').1 h2
  · exact absurd (h1'.uniq h1).1 h2'
  · rcases h2 with ⟨h2, rfl, rfl⟩ | ⟨h2, h3⟩ <;> rcases h2' with ⟨h2', rfl, rfl⟩ | ⟨h2', h3'⟩
    · exact ⟨rfl, rfl⟩
    · exact absurd h2' h2
    · exact absurd h2 h2'
    · exact h3.uniq h3'

theorem tree_good {n : Int} {l : List (Int × Int)} {a : Int} (h : GraphSpec n l 0 a) : a = 0 ∧ 0 ≤ n ∧ n ≤ 100 ∧ l.length ≤ 1000 ∧ ∀ j, j < l.length → EndsOk n (l.getD j (0, 0)) := by
  rcases h with ⟨_, h, _⟩ | ⟨hb, ⟨i, _, _, hw, _⟩ | ⟨h, _, rfl⟩⟩
  · cases h
  · exact absurd rfl hw.ne0
  · unfold TooBig at hb
    exact ⟨rfl, by omega, by omega, by omega, fun j hj => (h j hj).1⟩

theorem GRes.zero {w wr : World} {A B : Nat} {n : Int} {v : Value} (h : GRes w wr A B n v) : NRes w wr A B n v 0 0 := ⟨h.hb, h.cn, h.cs, h.hz.congr fun i hi => by
  match i, hi with
  | 0, _ => rfl
  | 1, _ => rfl, h.hB, h.hA⟩
theorem NRes.res {w wr : World} {A B : Nat} {n : Int} {v : Value} {c a : Int} (h : NRes w wr A B n v c a) (c' a' : Int) :
    (wr.setCell ⟨B, 0, none⟩ (.int .i64 c')).cell? ⟨B, 0, none⟩ = some (.int .i64 c') ∧ ((wr.setCell ⟨B, 0, none⟩ (.int .i64 c')).setCell ⟨B, 1, none⟩ (.int .i64 a')).cell? ⟨B, 1, none⟩ = some (.int .i64 a') ∧ Below w.heap.size w ((wr.setCell ⟨B, 0, none⟩ (.int .i64 c')).setCell ⟨B, 1, none⟩ (.int .i64 a')) :=
  ⟨(h.hf.set 0 (.int .i64 c')).cell (show 0 < 2 by omega), (h.put c' a').f1, (h.put c' a').hb⟩
theorem NRes.resA {w wr : World} {A B : Nat} {n : Int} {v : Value} {c a : Int} (h : NRes w wr A B n v c a) (c' a' : Int) (o : Obj) :
    (((wr.setCell ⟨B, 0, none⟩ (.int .i64 c')).setCell ⟨B, 1, none⟩ (.int .i64 a')).alloc o).cell? ⟨B, 0, none⟩ = some (.int .i64 c') ∧ (((wr.setCell ⟨B, 0, none⟩ (.int .i64 c')).setCell ⟨B, 1, none⟩ (.int .i64 a')).alloc o).cell? ⟨B, 1, none⟩ = some (.int .i64 a') ∧ Below w.heap.size w (((wr.setCell ⟨B, 0, none⟩ (.int .i64 c')).setCell ⟨B, 1, none⟩ (.int .i64 a')).alloc o) :=
  ⟨below_cell (below1 _ _) (h.put c' a').f0, below_cell (below1 _ _) (h.put c' a').f1, (h.put c' a').hb.trans ((below1 _ _).mono (h.put c' a').hb.size)⟩
theorem NRes.facts {w wr : World} {A B : Nat} {n : Int} {v : Value} {c a : Int} (h : NRes w wr A B n v c a) :
    wr.cell? ⟨A, 0, none⟩ = some (.int .i64 n) ∧ wr.cell? ⟨A, 1, none⟩ = some v ∧ wr.cell? ⟨B, 0, none⟩ = some (.int .i64 c) ∧ wr.cell? ⟨B, 1, none⟩ = some (.int .i64 a) ∧ wr.frozen? ⟨B, 0, none⟩ = false ∧ wr.frozen? ⟨B, 1, none⟩ = false ∧ B < wr.heap.size ∧ A < B :=
  ⟨h.cn, h.cs, h.f0, h.f1, h.hf.frozen 0, h.hf.frozen 1, h.hf.lt, h.hA⟩

/-- The tree as lists. -/
def upV (up : Nat → Nat) (v : Nat) : Int := if v = 0 then -1 else (up v : Int)
def upL (N : Nat) (up : Nat → Nat) : List Int := (List.range N).map (upV up)
def cutV (N : Nat) (cut : Nat → Nat) : List Int := (List.range N).map fun v => (cut v : Int)
theorem upL_get {N : Nat} (up : Nat → Nat) {v : Nat} (hv : v < N) : (upL N up).getD v 0 = upV up v := by simp [upL, List.getD, hv]
theorem cutV_get {N : Nat} (cut : Nat → Nat) {v : Nat} (hv : v < N) : (cutV N cut).getD v 0 = (cut v : Int) := by simp [cutV, List.getD, hv]

/-- What flow.Tree answers where all is well. -/
def TreeOk (N : Nat) (l : List (Int × Int)) (ws : List Int) (up cut : Nat → Nat) : Prop := ∃ f S, Cuts (capG l ws) f ∧ (0 < N → Gus (capG l ws) f N N up cut S) ∧ cut 0 = 0
/-- flow.Tree comes back. -/
def TreePost (n : Int) (l : List (Int × Int)) (ws : List Int) (w : World) (e : Ending) (w' : World) : Prop :=
  ∃ c a uv cv, e = .returned (.tuple #[uv, cv, .agg #[.int .i64 c, .int .i64 a]]) ∧ TreeSpec n l ws c a ∧ Below w.heap.size w w' ∧
    ((c ≠ 0 ∧ uv = .slice none 0 0 ∧ cv = .slice none 0 0) ∨ (c = 0 ∧ a = 0 ∧ ∃ (N : Nat) (up cut : Nat → Nat), n = N ∧ TreeOk N l ws up cut ∧ IsInts w' uv (upL N up) ∧ IsInts w' cv (cutV N cut)))

theorem upt {a b c : World} (h : Below a.heap.size a b) (k : Below b.heap.size b c) : Below a.heap.size a c := h.trans (k.mono h.size)
theorem PB.setLow {w : World} {base bP bA N : Nat} {V : Nat → Value} {X : Nat → List Nat} (h : PB w base bP bA N V X) {b : Nat} (h1 : b < bP) (h2 : b < bA) (k : Nat) (x : Value) : PB (w.setCell ⟨b, k, none⟩ x) base bP bA N V X := by
  have := h.lt
  exact ⟨h.rP.setOther (a := ⟨b, k, none⟩) (show bP ≠ b by omega) _, h.rA.setOther (a := ⟨b, k, none⟩) (show bA ≠ b by omega) _, h.bank.set (show b < base by omega) _ _, h.lt, h.ne, by rw [size_setCell]; exact h.sz⟩

/-- The tree's two tables. -/
structure TR (w0 wr : World) (bU bC N : Nat) (f g : Nat → Int) : Prop where
  hb : Below w0.heap.size w0 wr
  ru : wr.rowIs bU 3 N (ri f)
  rc : wr.rowIs bC 3 N (ri g)
  hU : w0.heap.size ≤ bU
  hC : w0.heap.size ≤ bC
  hne : bU ≠ bC
section
variable {w0 wr w' : World} {bU bC N : Nat} {f g : Nat → Int}
theorem TR.below (h : TR w0 wr bU bC N f g) (hb : Below wr.heap.size wr w') : TR w0 w' bU bC N f g :=
  ⟨h.hb.trans (hb.mono h.hb.size), h.ru.of_block (hb.block _ h.ru.lt), h.rc.of_block (hb.block _ h.rc.lt), h.hU, h.hC, h.hne⟩
theorem TR.setU (h : TR w0 wr bU bC N f g) (k : Nat) (x : Int) : TR w0 (wr.setCell ⟨bU, k, none⟩ (.int .i64 x)) bU bC N (fun q => if q = k then x else f q) g :=
  ⟨h.hb.setCell h.hU _, row_set_ri h.ru k x, h.rc.setOther (a := ⟨bU, k, none⟩) (Ne.symm h.hne) _, h.hU, h.hC, h.hne⟩
theorem TR.setC (h : TR w0 wr bU bC N f g) (k : Nat) (x : Int) : TR w0 (wr.setCell ⟨bC, k, none⟩ (.int .i64 x)) bU bC N f (fun q => if q = k then x else g q) :=
  ⟨h.hb.setCell h.hC _, h.ru.setOther (a := ⟨bC, k, none⟩) h.hne _, row_set_ri h.rc k x, h.hU, h.hC, h.hne⟩
theorem TR.congr {f' g' : Nat → Int} (h : TR w0 wr bU bC N f g) (e : ∀ k, k < N → f k = f' k) (e' : ∀ k, k < N → g k = g' k) : TR w0 wr bU bC N f' g' :=
  ⟨h.hb, row_ri h.ru e, row_ri h.rc e', h.hU, h.hC, h.hne⟩
theorem TR.facts (h : TR w0 wr bU bC N f g) : bU < wr.heap.size ∧ bC < wr.heap.size ∧ bU ≠ bC := ⟨h.ru.lt, h.rc.lt, h.hne⟩
theorem TR.start (w : World) (N : Nat) : TR w ((w.alloc (.cells (madeCells #[Value.int .i64 0] N) 3)).alloc (.cells (madeCells #[Value.int .i64 0] N) 3)) w.heap.size (w.heap.size + 1) N (fun _ => 0) (fun _ => 0) := by
  have h1 := World.rowIs_made w (.int .i64 0) N 3
  have h2 := World.rowIs_made (w.alloc (.cells (madeCells #[Value.int .i64 0] N) 3)) (.int .i64 0) N 3
  rw [World.size_alloc] at h2
  exact ⟨below2 w _ _, (h1.alloc _).congr fun _ _ => rfl, h2.congr fun _ _ => rfl, Nat.le_refl _, by omega, by omega⟩
theorem TR.swap (h : TR w0 wr bU bC N f g) : TR w0 wr bC bU N g f := ⟨h.hb, h.rc, h.ru, h.hC, h.hU, Ne.symm h.hne⟩
/-- A table from w0's end on may be written. -/
theorem TR.setNew (h : TR w0 wr bU bC N f g) {b : Nat} (h0 : w0.heap.size ≤ b) (h1 : b ≠ bU) (h2 : b ≠ bC) (k : Nat) (x : Value) : TR w0 (wr.setCell ⟨b, k, none⟩ x) bU bC N f g :=
  ⟨h.hb.setCell h0 _, h.ru.setOther (a := ⟨b, k, none⟩) (Ne.symm h1) _, h.rc.setOther (a := ⟨b, k, none⟩) (Ne.symm h2) _, h.hU, h.hC, h.hne⟩
end
/-- Two tables have been made, in whatever order. -/
def RCut (w : World) (N : Nat) (s4 s5 : Value) (wx : World) : Prop := ∃ bU bC, s4 = .slice (some ⟨bU, 0, none⟩) N N ∧ s5 = .slice (some ⟨bC, 0, none⟩) N N ∧ TR w wx bU bC N (fun _ => 0) (fun _ => 0)

/-- A round of the inner loop, under way. -/
def upP (up : Nat → Nat) (i : Nat) (T : Nat → Bool) (k w : Nat) : Nat := if i < w ∧ w < k ∧ T w = true ∧ up w = up i then i else up w
theorem upP_start (up : Nat → Nat) (i : Nat) (T : Nat → Bool) (w : Nat) : upP up i T (i + 1) w = up w := if_neg (by omega)
theorem upP_end {up : Nat → Nat} {n i : Nat} {T : Nat → Bool} {w : Nat} : upP up i T n w = upG up n i T w := rfl
theorem upP_same (up : Nat → Nat) (i : Nat) (T : Nat → Bool) (k : Nat) : upP up i T k i = up i := if_neg (by omega)
theorem upP_at (up : Nat → Nat) (i : Nat) (T : Nat → Bool) (k : Nat) : upP up i T k k = up k := if_neg (by omega)
theorem upP_yes {up : Nat → Nat} {i k : Nat} {T : Nat → Bool} (hi : i < k) (h : T k = true ∧ up k = up i) (w : Nat) : (if w = k then i else upP up i T k w) = upP up i T (k + 1) w := by
  unfold upP
  by_cases e : w = k
  · subst e; rw [if_pos rfl, if_pos ⟨hi, by omega, h⟩]
  · rw [if_neg e]
    have : (w < k + 1) ↔ w < k := by omega
    simp only [this]
theorem upP_no {up : Nat → Nat} {i k : Nat} {T : Nat → Bool} (h : ¬ (T k = true ∧ up k = up i)) (w : Nat) : upP up i T k w = upP up i T (k + 1) w := by
  unfold upP
  by_cases e : w = k
  · subst e; rw [if_neg (by omega), if_neg (fun k2 => h k2.2.2)]
  · have : (w < k + 1) ↔ w < k := by omega
    simp only [this]

end Go.Proofs.Ytbnbhjeknocboaa
