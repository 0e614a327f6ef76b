/- A small graph: what may be wrong. A good graph's edges, as pairs of numbers: plain. No walk. Masks under way in a variable of its own; a variable that holds a function. -/
import Derived.Test.YtmhcnekbfngafaaFVar
import Derived.Test.YtmhcnekbfngafaaGCheck
import Derived.WalkArith
import Derived.Test.YtmhcnekbfngafaaPB
import Derived.Test.YtmhcnekbfngafaaPD
import Derived.Test.YtmhcnekbfngafaaPA
namespace Go.Proofs.Ytmhcnekbfngafaa
open Go.RowKit

/-- What is wrong with a graph that has to be small. -/
def SmallSpec (n : Int) (l : List (Int × Int)) (m : Int) (c a : Int) : Prop := (GraphSpec n l c a ∧ c ≠ 0) ∨ (GraphSpec n l 0 0 ∧ ((m < n ∧ c = 2 ∧ a = 0) ∨ (n ≤ m ∧ c = 0 ∧ a = 0)))
theorem SmallSpec.uniq {n : Int} {l : List (Int × Int)} {m c a c' a' : Int} (h : SmallSpec n l m c a) (h' : SmallSpec n l m c' a') : c = c' ∧ a = a' := by
  rcases h with ⟨h1, h2⟩ | ⟨h1, h2⟩ <;> rcases h' with ⟨h1', h2'⟩ | ⟨h1', h2'⟩
  · exact h1.uniq h1'
  · exact absurd (h1.uniq h1').1 h2
  · exact absurd (h1'.uniq h1).1 h2'
  · omega
theorem spec_zero {n : Int} {l : List (Int × Int)} {a : Int} (h : GraphSpec n l 0 a) : a = 0 := by
  rcases h with ⟨_, h, _⟩ | ⟨_, ⟨_, _, _, hw, _⟩ | ⟨_, _, h⟩⟩
  · cases h
  · exact absurd rfl hw.ne0
  · exact h
theorem upc {a b c : World} (h : Below a.heap.size a b) (k : Below b.heap.size b c) : Below a.heap.size a c := h.trans (k.mono h.size)
theorem GRes.setOff {w wr : World} {A B F : Nat} {n : Int} {s : Value} (h : GRes w wr A B n s) (hF : B < F) (k : Nat) (x : Value) : GRes w (wr.setCell ⟨F, k, none⟩ x) A B n s := by
  have hA := h.hA
  have hB := h.hB
  refine ⟨h.hb.setCell (show w.heap.size ≤ F by omega) _, ?_, ?_, h.hz.setOther (a := ⟨F, k, none⟩) (show B ≠ F by omega) x, h.hB, h.hA⟩
  · rw [World.cell?_setCell_far _ _ _ _ (show F ≠ A by omega)]; exact h.cn
  · rw [World.cell?_setCell_far _ _ _ _ (show F ≠ A by omega)]; exact h.cs

theorem small_good {n : Int} {l : List (Int × Int)} {a : Int} (h : SmallSpec n l 12 0 a) : a = 0 ∧ 0 ≤ n ∧ n ≤ 12 ∧ l.length ≤ 1000 ∧ ∀ j, j < l.length → EndsOk n (l.getD j (0, 0)) ∧ (l.getD j (0, 0)).1 ≠ (l.getD j (0, 0)).2 := by
  rcases h with ⟨_, h⟩ | ⟨h, ⟨_, h2, _⟩ | ⟨h1, _, h2⟩⟩
  · exact absurd rfl h
  · cases h2
  · rcases h with ⟨_, h, _⟩ | ⟨hb, ⟨_, _, _, hw, _⟩ | ⟨h, _, _⟩⟩
    · cases h
    · exact absurd rfl hw.ne0
    · unfold TooBig at hb
      exact ⟨h2, by omega, h1, by omega, fun j hj => ⟨(h j hj).1, (h j hj).2.1⟩⟩

end Go.Proofs.Ytmhcnekbfngafaa
namespace Go.Proofs.Ytmhcnekbfngafaa
open Go Go.RowKit

theorem small_fine {n : Int} {l : List (Int × Int)} {m a : Int} (h : SmallSpec n l m 0 a) : ∀ j, j < l.length → Fine n l j := by
  rcases h with ⟨_, h⟩ | ⟨h, _⟩
  · exact absurd rfl h
  · rcases h with ⟨_, h, _⟩ | ⟨_, ⟨_, _, _, hw, _⟩ | ⟨h, _, _⟩⟩
    · cases h
    · exact absurd rfl hw.ne0
    · exact h
theorem adjE_adj {N : Nat} : ∀ {l : List (Int × Int)}, EndsN N l → ∀ u v : Nat, adjE (elN l) u v = adj l u v
  | [], _, _, _ => rfl
  | e :: l, h, u, v => by
    have ih := adjE_adj (l := l) (fun x hx => h x (by simp [hx])) u v
    have he := h e (by simp)
    rw [show elN (e :: l) = (e.1.toNat, e.2.toNat) :: elN l from rfl, adjE_cons, ih]
    unfold adj hasE
    rw [List.any_cons]
    congr 1
    rw [Bool.eq_iff_iff]
    simp only [Bool.or_eq_true, decide_eq_true_eq, Prod.mk.injEq]
    unfold Meets
    omega
theorem fine_tail {N : Nat} {e : Int × Int} {l : List (Int × Int)} (h : ∀ j, j < (e :: l).length → Fine (N : Int) (e :: l) j) : ∀ j, j < l.length → Fine (N : Int) l j := fun j hj => by
  obtain ⟨h1, h2, h3⟩ := h (j + 1) (by simp; omega)
  simp only [List.getD_cons_succ, List.take_succ_cons] at h1 h2 h3
  refine ⟨h1, h2, ?_⟩
  unfold hasE at h3 ⊢
  rw [List.any_cons, Bool.or_eq_false_iff] at h3
  exact h3.2
theorem fine_ends {N : Nat} {l : List (Int × Int)} (h : ∀ j, j < l.length → Fine (N : Int) l j) : EndsN N l := fun e he => by
  obtain ⟨j, hj, rfl⟩ := List.getElem_of_mem he
  obtain ⟨h1, -, -⟩ := h j hj
  have : l.getD j (0, 0) = l[j] := by simp [List.getD, hj]
  rw [this] at h1
  unfold EndsOk at h1
  omega
theorem fine_good {N : Nat} : ∀ {l : List (Int × Int)}, (∀ j, j < l.length → Fine (N : Int) l j) → GoodE N (elN l)
  | [], _ => trivial
  | e :: l, h => by
    have he := fine_ends h e (by simp)
    obtain ⟨-, h2, -⟩ := h 0 (by simp)
    simp only [List.getD_cons_zero] at h2
    refine ⟨by show e.1.toNat < N; omega, by show e.2.toNat < N; omega, by show e.1.toNat ≠ e.2.toNat; omega, ?_, fine_good (fine_tail h)⟩
    show adjE (elN l) e.1.toNat e.2.toNat = false
    cases hc : adjE (elN l) e.1.toNat e.2.toNat
    · rfl
    · rw [adjE_iff] at hc
      have key : ∀ x : Int × Int, x ∈ l → ¬ Meets e x.1 x.2 := fun x hx hm => by
        obtain ⟨j, hj, rfl⟩ := List.getElem_of_mem hx
        obtain ⟨-, -, h3⟩ := h (j + 1) (by simp; omega)
        simp only [List.getD_cons_succ, List.take_succ_cons] at h3
        have : l.getD j (0, 0) = l[j] := by simp [List.getD, hj]
        rw [this] at h3
        unfold hasE at h3
        rw [List.any_cons, Bool.or_eq_false_iff, decide_eq_false_iff_not] at h3
        exact h3.1 hm
      have mem : ∀ p : Nat × Nat, p ∈ elN l → ∃ x ∈ l, x.1 = (p.1 : Int) ∧ x.2 = (p.2 : Int) := fun p hp => by
        unfold elN at hp
        obtain ⟨x, hx, rfl⟩ := List.mem_map.1 hp
        have := fine_ends (fine_tail h) x hx
        exact ⟨x, hx, by show x.1 = ((x.1.toNat : Nat) : Int); omega, by show x.2 = ((x.2.toNat : Nat) : Int); omega⟩
      rcases hc with hc | hc
      · obtain ⟨x, hx, e1, e2⟩ := mem _ hc
        exact absurd (by unfold Meets; simp only at e1 e2; omega) (key x hx)
      · obtain ⟨x, hx, e1, e2⟩ := mem _ hc
        exact absurd (by unfold Meets; simp only at e1 e2; omega) (key x hx)

end Go.Proofs.Ytmhcnekbfngafaa
namespace Go.Proofs.Ytmhcnekbfngafaa
open Go Go.RowKit

/-- The masks under way, where their slice lies in a variable of its own. -/
structure MB (w0 wr : World) (R NN N : Nat) (M : Nat → Nat) : Prop where
  hb : Below w0.heap.size w0 wr
  up : w0.heap.size ≤ R
  ne : R < NN
  cs : wr.cell? ⟨NN, 0, none⟩ = some (.slice (some ⟨R, 0, none⟩) N N)
  row : wr.rowIs R 3 N (rn M)
theorem MB.below {w0 wr w' : World} {R NN N : Nat} {M : Nat → Nat} (h : MB w0 wr R NN N M) (hb : Below wr.heap.size wr w') : MB w0 w' R NN N M :=
  ⟨h.hb.trans (hb.mono h.hb.size), h.up, h.ne, below_cell hb h.cs, h.row.of_block (hb.block _ h.row.lt)⟩
theorem MB.set {w0 wr : World} {R NN N : Nat} {M : Nat → Nat} (h : MB w0 wr R NN N M) (x y : Nat) : MB w0 (wr.setCell ⟨R, x, none⟩ (.int .i64 (y : Int))) R NN N (fun i => if i = x then y else M i) := by
  have := h.up
  have := h.ne
  refine ⟨h.hb.setCell (show w0.heap.size ≤ R by omega) _, h.up, h.ne, ?_, row_set_rn h.row x y⟩
  rw [World.cell?_setCell_far _ _ _ _ (show R ≠ NN by omega)]; exact h.cs
theorem MB.start (w : World) (N : Nat) : MB w ((w.alloc (.cells (madeCells #[.int .i64 0] N) 3)).alloc (Obj.cells #[.slice (some ⟨w.heap.size, 0, none⟩) N N] 39)) w.heap.size (w.heap.size + 1) N (fun _ => 0) := by
  have h1 := World.rowIs_made w (.int .i64 0) N 3
  refine ⟨below2 _ _ _, Nat.le_refl _, by omega, ?_, (h1.of_block ((below1 _ _).block _ h1.lt)).congr fun i _ => rfl⟩
  rw [World.cell?_alloc_at _ _ _ _ (by simp)]; rfl

theorem run_store_fn {P : Program} (w : World) (a : Addr) (f : Fn) (ts cs : Array Value) : (store a (.func f ts cs) .plain).run P w = stored P w a (.func f ts cs) .plain := run_store P w a _ _ rfl

theorem GRes.chg {w wr w' : World} {A B K : Nat} {n : Int} {s : Value} (h : GRes w wr A B n s) (hc : Chg (· = K) wr w') (hK : B < K) (hw : w.heap.size ≤ K) : GRes w w' A B n s := by
  have hA := h.hA
  have hs := h.hb.size
  refine ⟨h.hb.trans (hc.toBelow hs fun k hk => ?_), hc.cell h.cn (show ¬ A = K by omega), hc.cell h.cs (show ¬ A = K by omega), hc.rowIs h.hz (show ¬ B = K by omega), h.hB, h.hA⟩
  show ¬ k = K
  omega

theorem IsInts.setOff {w : World} {v : Value} {l : List Int} {B k : Nat} {x : Value} (h : IsInts w v l) (hv : ∀ g, v.ownBlock = some g → B ≠ g) : IsInts (w.setCell ⟨B, k, none⟩ x) v l := by
  obtain ⟨a, cap, b, o, rfl, h1, h2, h3, h4, h5⟩ := h
  refine ⟨a, cap, b, o, rfl, h1, h2, h3, h4, fun j hj => ?_⟩
  obtain rfl := h3 (by omega)
  rw [World.cell?_setCell_far _ _ _ _ (hv b rfl)]
  exact h5 j hj

theorem graph_good {n : Int} {l : List (Int × Int)} {a : Int} (h : GraphSpec n l 0 a) : a = 0 ∧ 0 ≤ n ∧ n ≤ 100 ∧ l.length ≤ 1000 ∧ ∀ j, j < l.length → EndsOk n (l.getD j (0, 0)) ∧ (l.getD j (0, 0)).1 ≠ (l.getD j (0, 0)).2 := by
  rcases h with ⟨_, h, _⟩ | ⟨hb, ⟨_, _, _, hw, _⟩ | ⟨h, _, h2⟩⟩
  · cases h
  · exact absurd rfl hw.ne0
  · unfold TooBig at hb
    exact ⟨h2, by omega, by omega, by omega, fun j hj => ⟨(h j hj).1, (h j hj).2.1⟩⟩

end Go.Proofs.Ytmhcnekbfngafaa
