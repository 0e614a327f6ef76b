/- The nodes that a node sees, rising. No program in sight. -/
import Derived.Test.YtnmljgjegodkaaaGLaw
import Derived.Test.YtnmljgjegodkaaaPA
namespace Go.Proofs.Ytnmljgjegodkaaa
open Go.RowKit

/-- What node v sees, rising. -/
def nbrs (l : List (Int × Int)) (N v : Nat) : List Nat := (List.range N).filter (adj l v)
/-- .. in the order of the first k edges. -/
def nbA (l : List (Int × Int)) (v : Nat) : Nat → List Nat
  | 0 => []
  | k + 1 => nbA l v k ++ (if (l.getD k (0, 0)).1.toNat = v then [(l.getD k (0, 0)).2.toNat] else []) ++ (if (l.getD k (0, 0)).2.toNat = v then [(l.getD k (0, 0)).1.toNat] else [])
theorem nbA_succ {l : List (Int × Int)} {k X Y : Nat} (he : l.getD k (0, 0) = ((X : Int), (Y : Int))) (v : Nat) :
    nbA l v (k + 1) = nbA l v k ++ (if X = v then [Y] else []) ++ (if Y = v then [X] else []) := by
  rw [nbA, he]; simp only [Int.toNat_natCast]

theorem nbA_mem {l : List (Int × Int)} {N : Nat} (hg : GoodGraph N l) (v : Nat) : ∀ k, k ≤ l.length → ∀ u, u ∈ nbA l v k ↔ (u < N ∧ adj (l.take k) v u = true) := by
  intro k
  induction k with
  | zero => intro _ u; simp [nbA, adj_nil]
  | succ k ih =>
    intro hk u
    obtain ⟨X, Y, he, hX, hY, hne, -⟩ := hg.at (show k < l.length by omega)
    rw [nbA_succ he, List.mem_append, List.mem_append, ih (by omega), ← adj_succ (by omega) he]
    by_cases e1 : X = v
    · subst e1
      rw [if_pos rfl, if_neg (Ne.symm hne)]
      by_cases e2 : u = Y
      · subst e2; simp [hY]
      · simp [e2, hne]
    · by_cases e2 : Y = v
      · subst e2
        rw [if_neg e1, if_pos rfl]
        by_cases e3 : u = X
        · subst e3; simp [hX]
        · simp [e3, Ne.symm e1]
      · rw [if_neg e1, if_neg e2]
        simp [Ne.symm e1, Ne.symm e2]
theorem nbA_nodup {l : List (Int × Int)} {N : Nat} (hg : GoodGraph N l) (v : Nat) : ∀ k, k ≤ l.length → (nbA l v k).Nodup := by
  intro k
  induction k with
  | zero => intro _; exact List.nodup_nil
  | succ k ih =>
    intro hk
    obtain ⟨X, Y, he, hX, hY, hne, h0⟩ := hg.at (show k < l.length by omega)
    have hi := ih (by omega)
    rw [nbA_succ he]
    by_cases e1 : X = v
    · subst e1
      rw [if_pos rfl, if_neg (Ne.symm hne), List.append_nil, List.nodup_append]
      refine ⟨hi, by simp, fun a ha b hb e => ?_⟩
      rw [List.mem_singleton] at hb
      subst hb e
      have := ((nbA_mem hg X k (by omega) a).1 ha).2
      rw [h0] at this
      cases this
    · by_cases e2 : Y = v
      · subst e2
        rw [if_neg e1, if_pos rfl, List.append_nil, List.nodup_append]
        refine ⟨hi, by simp, fun a ha b hb e => ?_⟩
        rw [List.mem_singleton] at hb
        subst hb e
        have := ((nbA_mem hg Y k (by omega) a).1 ha).2
        rw [adj_symm, h0] at this
        cases this
      · rw [if_neg e1, if_neg e2, List.append_nil, List.append_nil]; exact hi
theorem nbA_len (l : List (Int × Int)) (v : Nat) : ∀ k, (nbA l v k).length ≤ 2 * k
  | 0 => Nat.le_refl _
  | k + 1 => by
    have := nbA_len l v k
    rw [nbA, List.length_append, List.length_append]
    split <;> split <;> simp <;> omega

/-- Sorted, they rise. -/
theorem nbA_sorted {l : List (Int × Int)} {N : Nat} (hg : GoodGraph N l) (v : Nat) : (ints (nbA l v l.length)).mergeSort (fun x y => decide (x ≤ y)) = ints (nbrs l N v) := by
  have hperm := List.mergeSort_perm (ints (nbA l v l.length)) (fun x y : Int => decide (x ≤ y))
  have hnd : (ints (nbA l v l.length)).Nodup := by
    unfold ints
    rw [List.Nodup, List.pairwise_map]
    exact (nbA_nodup hg v l.length (Nat.le_refl _)).imp fun {a b} h e => h (by omega)
  have hs : ((ints (nbA l v l.length)).mergeSort (fun x y => decide (x ≤ y))).Pairwise (fun a b => decide (a ≤ b) = true) :=
    List.pairwise_mergeSort (by intro a b c; simp; omega) (by intro a b; simp; omega) _
  refine rise_uniq (lt := fun a b : Int => a < b) (fun a h => Int.lt_irrefl a h) (fun a b c => Int.lt_trans) ?_ ?_ fun a => ?_
  · refine List.Pairwise.imp₂ ?_ hs (hperm.nodup_iff.2 hnd)
    intro a b h1 h2
    have := of_decide_eq_true h1
    omega
  · unfold ints nbrs
    rw [List.pairwise_map]
    exact (List.Pairwise.filter _ List.pairwise_lt_range).imp fun {a b} h => by omega
  · rw [hperm.mem_iff]
    unfold ints nbrs
    simp only [List.mem_map, List.mem_filter, List.mem_range]
    constructor
    · rintro ⟨u, hu, rfl⟩
      have := (nbA_mem hg v l.length (Nat.le_refl _) u).1 hu
      rw [List.take_length] at this
      exact ⟨u, this, rfl⟩
    · rintro ⟨u, hu, rfl⟩
      refine ⟨u, (nbA_mem hg v l.length (Nat.le_refl _) u).2 ?_, rfl⟩
      rw [List.take_length]; exact hu
theorem nbrs_length (l : List (Int × Int)) (N v : Nat) : (nbrs l N v).length = cntN N (adj l v) := rfl

end Go.Proofs.Ytnmljgjegodkaaa
