/- FORD AND FULKERSON: the plain law. No program in sight. -/
import Derived.Test.YtfflnpcbpcldeaaMost
namespace Go.Proofs.Ytfflnpcbpcldeaa

theorem sumZ_zero {f : Nat → Int} : ∀ {n}, (∀ k, k < n → f k = 0) → sumZ f n = 0
  | 0, _ => rfl
  | n + 1, h => by rw [sumZ, sumZ_zero fun k hk => h k (by omega), h n (by omega)]; rfl
theorem sumZ_add (f g : Nat → Int) : ∀ n, sumZ (fun k => f k + g k) n = sumZ f n + sumZ g n
  | 0 => rfl
  | n + 1 => by rw [sumZ, sumZ, sumZ, sumZ_add f g n]; omega
theorem sumZ_swap (F : Nat → Nat → Int) (m : Nat) : ∀ n, sumZ (fun u => sumZ (F u) m) n = sumZ (fun k => sumZ (fun u => F u k) n) m
  | 0 => (sumZ_zero fun _ _ => rfl).symm
  | n + 1 => by
    rw [sumZ, sumZ_swap F m n, ← sumZ_add]
    exact sumZ_congr fun k _ => rfl
/-- One alone. -/
theorem sumZ_only {f : Nat → Int} {x : Nat} {n : Nat} (hx : x < n) (h : ∀ k, k < n → k ≠ x → f k = 0) : sumZ f n = f x := by
  have := sumZ_one (f := fun _ => 0) (g := f) (x := x) (d := f x) (n := n) hx (fun k hk hne => h k hk hne) (by simp)
  rw [this, sumZ_zero (fun _ _ => rfl)]
  omega

theorem sumZ_pick {lev : Nat → Int} {a N : Nat} (x : Int) (ha : a < N) : sumZ (fun u => if 0 ≤ lev u then (if a = u then x else 0) else 0) N = if 0 ≤ lev a then x else 0 := by
  rw [sumZ_only ha (fun k _ hne => by simp only [show ¬ a = k from fun e => hne e.symm, if_false]; split <;> rfl)]
  simp

theorem sumZ_reached {N M : Nat} {X : Nat → List Nat} (hX : NetOk N M X) (lev : Nat → Int) :
    sumZ (fun u => if 0 ≤ lev u then outX M X u else 0) N = sumZ (fun k => (if 0 ≤ lev (toX X (2 * k + 1)) then (leftX X (2 * k + 1) : Int) else 0) - (if 0 ≤ lev (toX X (2 * k)) then (leftX X (2 * k + 1) : Int) else 0)) (M / 2) := by
  have e1 : ∀ u, u < N → (if 0 ≤ lev u then outX M X u else 0) = sumZ (fun k => (if 0 ≤ lev u then (if toX X (2 * k + 1) = u then (leftX X (2 * k + 1) : Int) else 0) else 0) + -(if 0 ≤ lev u then (if toX X (2 * k) = u then (leftX X (2 * k + 1) : Int) else 0) else 0)) (M / 2) := fun u _ => by
    by_cases e : 0 ≤ lev u
    · simp only [if_pos e]
      unfold outX
      exact sumZ_congr fun k _ => by omega
    · simp only [if_neg e]
      exact (sumZ_zero fun _ _ => by simp).symm
  rw [sumZ_congr e1, sumZ_swap (fun u k => (if 0 ≤ lev u then (if toX X (2 * k + 1) = u then (leftX X (2 * k + 1) : Int) else 0) else 0) + -(if 0 ≤ lev u then (if toX X (2 * k) = u then (leftX X (2 * k + 1) : Int) else 0) else 0))]
  refine sumZ_congr fun k hk => ?_
  have hev := hX.even
  have neg : ∀ (f : Nat → Int) n, sumZ (fun u => -f u) n = -sumZ f n := fun f n => by
    induction n with
    | zero => rfl
    | succ n ih => rw [sumZ, sumZ, ih]; omega
  rw [sumZ_add, neg, sumZ_pick _ (hX.to_lt _ (by omega)), sumZ_pick _ (hX.to_lt _ (by omega))]
  omega

/-- What has been sent fills a cut. -/
theorem Sent.cut {N M : Nat} {s t : Nat} {X0 X : Nat → List Nat} {sum : Nat} {lev : Nat → Int} (h : Sent N M s t X0 X sum) (hl : LevOk N X s lev) (hlt : lev t < 0) (h00 : ∀ u, outX M X0 u = 0) (hs : s < N) :
    (sum : Int) = sumZ (fun k => if 0 ≤ lev (toX X (2 * k + 1)) ∧ lev (toX X (2 * k)) < 0 then ((leftX X (2 * k) + leftX X (2 * k + 1) : Nat) : Int) else 0) (M / 2) := by
  have hst : t ≠ s := fun e => by have := hl.src; subst e; omega
  have h1 : sumZ (fun u => if 0 ≤ lev u then outX M X u else 0) N = sum := by
    rw [sumZ_only hs (fun u _ hne => by
      by_cases e : 0 ≤ lev u
      · have hut : t ≠ u := fun e2 => by subst e2; omega
        rw [if_pos e, h.out u, h00, if_neg (fun e2 => hne e2.symm), if_neg hut]; rfl
      · rw [if_neg e])]
    rw [if_pos (by rw [hl.src]; omega), h.out s, h00, if_pos rfl, if_neg hst]
    omega
  rw [← h1, sumZ_reached h.ok]
  refine sumZ_congr fun k hk => ?_
  have hev := h.ok.even
  have i0 := h.ok.at_in (2 * k) (by omega)
  have i1 := h.ok.at_in (2 * k + 1) (by omega)
  rw [xor_one_even (i := 2 * k) rfl] at i0
  rw [xor_one_odd (i := 2 * k + 1) rfl] at i1
  have ha := h.ok.to_lt (2 * k + 1) (by omega)
  have hb := h.ok.to_lt (2 * k) (by omega)
  by_cases ra : 0 ≤ lev (toX X (2 * k + 1)) <;> by_cases rb : 0 ≤ lev (toX X (2 * k))
  · rw [if_pos ra, if_pos rb, if_neg (by omega)]; omega
  · have := hl.closed _ ha ra _ i0
    rw [if_pos ra, if_neg rb, if_pos (by omega)]
    have : leftX X (2 * k) = 0 := by omega
    omega
  · have := hl.closed _ hb rb _ i1
    rw [if_neg ra, if_pos rb, if_neg (by omega)]
    have : leftX X (2 * k + 1) = 0 := by omega
    omega
  · rw [if_neg ra, if_neg rb, if_neg (by omega)]; rfl

end Go.Proofs.Ytfflnpcbpcldeaa
