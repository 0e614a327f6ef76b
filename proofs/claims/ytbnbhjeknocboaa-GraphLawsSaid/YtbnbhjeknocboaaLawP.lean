/- The plain law of arborlaw.GraphLaws. No program in sight. -/
import Derived.Test.YtbnbhjeknocboaaNbrs
import Derived.Test.YtbnbhjeknocboaaMakesP
namespace Go.Proofs.Ytbnbhjeknocboaa
open Go.RowKit

theorem adj_diag {l : List (Int × Int)} {N : Nat} (hg : GoodGraph N l) (i : Nat) : adj l i i = false := by
  unfold adj
  refine hasE_no fun k hk hm => ?_
  have := (hg.fine k hk).2.1
  unfold Meets at hm
  omega
theorem form_good {l : List (Int × Int)} {N : Nat} (hg : GoodGraph N l) : GoodGraph N (formL N l) :=
  good_prs (by have := hg.hi; omega) (by have := form_length hg; have := hg.len; omega)
theorem adj_form {l : List (Int × Int)} {N : Nat} (hg : GoodGraph N l) {i j : Nat} (hi : i < N) (hj : j < N) : adj (formL N l) i j = adj l i j := by
  rcases Nat.lt_trichotomy i j with h | h | h
  · exact adj_prs h hj
  · subst h; rw [adj_diag hg, adj_diag (form_good hg)]
  · rw [adj_symm, adj_symm l]; exact adj_prs h hi
theorem deg_sum {l : List (Int × Int)} {N : Nat} (hg : GoodGraph N l) : sumN N (fun v => (nbrs l N v).length) = 2 * l.length := by
  have h := (deg_all hg l.length (Nat.le_refl _)).2
  rw [List.take_length] at h
  exact h
theorem deg_touch {l : List (Int × Int)} {N v : Nat} (hg : GoodGraph N l) (hv : v < N) : (nbrs l N v).length = cnt (formL N l).length (fun a => touch (formL N l) a v) := by
  have h := (deg_all (form_good hg) (formL N l).length (Nat.le_refl _)).1 v
  rw [List.take_length] at h
  rw [← h, nbrs_length]
  exact cnt_congr fun j hj => (adj_form hg hv hj).symm
theorem line_count {l : List (Int × Int)} {N : Nat} (hg : GoodGraph N l) : (prsTo (formL N l).length (share (formL N l)) (formL N l).length).length = sumN N (fun v => (nbrs l N v).length * ((nbrs l N v).length - 1) / 2) := by
  rw [share_pairs (form_good hg) _ (Nat.le_refl _)]
  exact sumN_congr fun v hv => by rw [deg_touch hg hv]
theorem compl_back {l : List (Int × Int)} {N : Nat} : prsTo N (fun i j => !adj (prsTo N (fun i j => !adj l i j) N) i j) N = formL N l :=
  prsTo_congr (fun i j h1 h2 => by rw [adj_prs h1 h2]; simp) N
theorem compl_count (l : List (Int × Int)) (N : Nat) : 2 * ((prsTo N (fun i j => !adj l i j) N).length + (formL N l).length) = N * (N - 1) := by
  rw [Nat.add_comm (prsTo N (fun i j => !adj l i j) N).length]
  exact prsTo_len_not (adj l) N
theorem compl_count_int (l : List (Int × Int)) (N : Nat) : ((N : Int) * ((N : Int) - 1)).tdiv 2 = (((prsTo N (fun i j => !adj l i j) N).length + (formL N l).length : Nat) : Int) := by
  have h := compl_count l N
  have e : (N : Int) * ((N : Int) - 1) = 2 * (((prsTo N (fun i j => !adj l i j) N).length + (formL N l).length : Nat) : Int) := by
    have h2 : ((2 * ((prsTo N (fun i j => !adj l i j) N).length + (formL N l).length) : Nat) : Int) = ((N * (N - 1) : Nat) : Int) := by rw [h]
    rw [Int.natCast_mul, Int.natCast_mul] at h2
    cases N with
    | zero => simpa using h2.symm
    | succ k =>
      simp only [Nat.add_sub_cancel] at h2
      have e1 : ((k + 1 : Nat) : Int) - 1 = (k : Int) := by omega
      rw [e1, ← h2]; rfl
  rw [e, Int.mul_tdiv_cancel_left _ (by omega)]
theorem half_int (d : Nat) : ((d : Int) * ((d : Int) - 1)).tdiv 2 = ((d * (d - 1) / 2 : Nat) : Int) := by
  cases d with
  | zero => rfl
  | succ k =>
    have e1 : ((k + 1 : Nat) : Int) - 1 = (k : Int) := by omega
    rw [e1, Nat.add_sub_cancel, ← Int.natCast_mul]
    rfl
theorem mul_le_tri {d : Nat} (h : d ≤ 100) : 0 ≤ (d : Int) * ((d : Int) - 1) ∧ (d : Int) * ((d : Int) - 1) ≤ 10000 := by
  cases d with
  | zero => simp
  | succ k =>
    have e1 : ((k + 1 : Nat) : Int) - 1 = (k : Int) := by omega
    rw [e1, ← Int.natCast_mul]
    have : (k + 1) * k ≤ 100 * 100 := Nat.mul_le_mul (by omega) (by omega)
    omega

end Go.Proofs.Ytbnbhjeknocboaa
