/- Flows along edges, both ways, and the least cuts: the plain law. No program in sight. -/
import Derived.Test.YtfflnpcbpcldeaaFLaw
import Derived.Test.YtfflnpcbpcldeaaFBoth
import Derived.Test.YtfflnpcbpcldeaaGus
namespace Go.Proofs.Ytfflnpcbpcldeaa

/-- What the first k edges hold that lead from S to what is not S. -/
def capE (l : List (Int × Int)) (ws : List Int) (S : Nat → Bool) : Nat → Nat
  | 0 => 0
  | k + 1 => capE l ws S k + (if S (l.getD k (0, 0)).1.toNat = S (l.getD k (0, 0)).2.toNat then 0 else (ws.getD k 0).toNat)
/-- What a cut holds. -/
abbrev capG (l : List (Int × Int)) (ws : List Int) (S : Nat → Bool) : Nat := capE l ws S l.length

theorem capE_sub (l : List (Int × Int)) (ws : List Int) (S T : Nat → Bool) : ∀ k, capE l ws (fun v => S v && T v) k + capE l ws (fun v => S v || T v) k ≤ capE l ws S k + capE l ws T k
  | 0 => Nat.le_refl _
  | k + 1 => by
    have h := capE_sub l ws S T k
    simp only [capE]
    generalize (l.getD k (0, 0)).1.toNat = a
    generalize (l.getD k (0, 0)).2.toNat = b
    generalize (ws.getD k 0).toNat = z
    rcases Bool.eq_false_or_eq_true (S a) with e1 | e1 <;> rcases Bool.eq_false_or_eq_true (S b) with e2 | e2 <;> rcases Bool.eq_false_or_eq_true (T a) with e3 | e3 <;> rcases Bool.eq_false_or_eq_true (T b) with e4 | e4 <;> simp [e1, e2, e3, e4] <;> omega
theorem capE_not (l : List (Int × Int)) (ws : List Int) (S : Nat → Bool) : ∀ k, capE l ws (fun v => !S v) k = capE l ws S k
  | 0 => rfl
  | k + 1 => by
    simp only [capE]
    rw [capE_not l ws S k]
    generalize (l.getD k (0, 0)).1.toNat = a
    generalize (l.getD k (0, 0)).2.toNat = b
    rcases Bool.eq_false_or_eq_true (S a) with e1 | e1 <;> rcases Bool.eq_false_or_eq_true (S b) with e2 | e2 <;> simp [e1, e2]
theorem capE_congr {l : List (Int × Int)} {ws : List Int} {N : Nat} {S T : Nat → Bool} (hok : ∀ j, j < l.length → EndsOk N (l.getD j (0, 0))) (h : ∀ v, v < N → S v = T v) : ∀ k, k ≤ l.length → capE l ws S k = capE l ws T k
  | 0, _ => rfl
  | k + 1, hk => by
    obtain ⟨a1, a2, a3, a4⟩ := hok k (by omega)
    simp only [capE]
    rw [capE_congr hok h k (by omega), h _ (by omega), h _ (by omega)]
theorem capE_few' {l : List (Int × Int)} {ws : List Int} {C : Nat} (hz : ∀ j, j < l.length → (ws.getD j 0).toNat ≤ C) (S : Nat → Bool) : ∀ k, k ≤ l.length → capE l ws S k ≤ k * C := by
  intro k
  induction k with
  | zero => intro _; exact Nat.zero_le _
  | succ k ih =>
    intro hk
    have h := ih (by omega)
    have h2 := hz k (by omega)
    rw [Nat.succ_mul]
    simp only [capE]
    split <;> omega
theorem capE_few {l : List (Int × Int)} {ws : List Int} (hz : ∀ j, j < l.length → 0 ≤ ws.getD j 0 ∧ ws.getD j 0 ≤ 1000000) (S : Nat → Bool) (k : Nat) (hk : k ≤ l.length) : capE l ws S k ≤ k * 1000000 :=
  capE_few' (fun j hj => by have := hz j hj; omega) S k hk

theorem capG_cuts (l : List (Int × Int)) (ws : List Int) : ∃ f, Cuts (capG l ws) f := cuts_ex (fun S T => capE_sub l ws S T _) (fun S => capE_not l ws S _)

/-- The cut of the arcs is that of the edges. -/
theorem cutL_both (l : List (Int × Int)) (ws : List Int) (n : Nat) (lev : Nat → Int) : ∀ k, k ≤ n → cutL (bothN l ws n) lev (2 * k) = (capE l ws (fun v => decide (0 ≤ lev v)) k : Int)
  | 0, _ => rfl
  | k + 1, hk => by
    have h := cutL_both l ws n lev k (by omega)
    obtain ⟨h1, h2⟩ := bothN_get l ws n k (by omega)
    rw [show 2 * (k + 1) = 2 * k + 1 + 1 by omega]
    unfold cutL at h ⊢
    rw [sumZ, sumZ, h]
    simp only [fromL, toL, capL]
    rw [h1, h2]
    simp only [capE]
    generalize (l.getD k (0, 0)).1.toNat = a
    generalize (l.getD k (0, 0)).2.toNat = b
    generalize (ws.getD k 0).toNat = z
    by_cases ha : 0 ≤ lev a <;> by_cases hb : 0 ≤ lev b <;> simp [ha, hb] <;> omega

theorem sumZ_mono {f g : Nat → Int} : ∀ {n}, (∀ k, k < n → f k ≤ g k) → sumZ f n ≤ sumZ g n
  | 0, _ => Int.le_refl _
  | n + 1, h => by
    have h1 := sumZ_mono (n := n) fun k hk => h k (by omega)
    have h2 := h n (by omega)
    rw [sumZ, sumZ]
    omega

/-- No cut holds less than what is sent. -/
theorem MostOk.weak {N : Nat} {l : List (Int × Int × Int)} {s t sum : Nat} {X : Nat → List Nat} {lev lev' : Nat → Int} (h : MostOk N (2 * l.length) l s t sum X lev) (hs : s < N) (h1 : 0 ≤ lev' s) (h2 : lev' t < 0) : (sum : Int) ≤ cutL l lev' l.length := by
  obtain ⟨hS, hl, ht⟩ := h
  have hto : ∀ i, toX X i = toX (netX l) i := fun i => by show (X 0).getD i 0 = _; rw [hS.same 0 (by omega)]
  have hcap : ∀ k, k < l.length → leftX X (2 * k) + leftX X (2 * k + 1) = capL l k := fun k hk => by
    have := hS.sums (2 * k) (by omega)
    rw [xor_one_even (i := 2 * k) rfl] at this
    rw [this, net_caps hk]
  have hM : 2 * l.length / 2 = l.length := by omega
  have hst : t ≠ s := fun e => by subst e; omega
  have e1 : sumZ (fun u => if 0 ≤ lev' u then outX (2 * l.length) X u else 0) N = sum := by
    rw [sumZ_only hs (fun u _ hne => by
      by_cases e : 0 ≤ lev' u
      · have hut : t ≠ u := fun e2 => by subst e2; omega
        rw [if_pos e, hS.out u, net_out0, if_neg (fun e2 => hne e2.symm), if_neg hut]; rfl
      · rw [if_neg e])]
    rw [if_pos h1, hS.out s, net_out0, if_pos rfl, if_neg hst]
    omega
  rw [← e1, sumZ_reached hS.ok, hM]
  refine sumZ_mono fun k hk => ?_
  obtain ⟨a1, a2, -⟩ := (net_whole l).arc k hk
  have hc := hcap k hk
  rw [hto, hto, a1, a2]
  show _ ≤ (if 0 ≤ lev' (fromL l k) ∧ lev' (toL l k) < 0 then (capL l k : Int) else 0)
  by_cases ra : 0 ≤ lev' (fromL l k) <;> by_cases rb : 0 ≤ lev' (toL l k)
  · rw [if_pos ra, if_pos rb, if_neg (by omega)]; omega
  · rw [if_pos ra, if_neg rb, if_pos (by omega)]; omega
  · rw [if_neg ra, if_pos rb, if_neg (by omega)]; omega
  · rw [if_neg ra, if_neg rb, if_neg (by omega)]; omega

/-- What most sends along edges is the least cut. -/
theorem MostOk.least {N : Nat} {l : List (Int × Int)} {ws : List Int} {s t sum : Nat} {X : Nat → List Nat} {lev : Nat → Int} (h : MostOk N (2 * (bothN l ws l.length).length) (bothN l ws l.length) s t sum X lev) (hs : s < N) :
    capG l ws (fun v => decide (0 ≤ lev v)) = sum ∧ LeastC (capG l ws) s t sum := by
  have hL := h.law hs
  have hn := bothN_length l ws l.length
  have hc : capG l ws (fun v => decide (0 ≤ lev v)) = sum := by
    have h1 := hL.cut
    rw [hn, cutL_both l ws _ lev _ (Nat.le_refl _)] at h1
    exact Int.ofNat.inj h1
  refine ⟨hc, ⟨_, decide_eq_true hL.src, decide_eq_false (by have := hL.snk; omega), hc⟩, fun S h1 h2 => ?_⟩
  have h3 := h.weak (lev' := fun v => if S v = true then 0 else -1) hs (by simp [h1]) (by simp [h2])
  rw [hn, cutL_both l ws _ _ _ (Nat.le_refl _)] at h3
  have e : (fun v => decide (0 ≤ (if S v = true then (0 : Int) else -1))) = S := by
    funext v
    cases S v <;> simp
  rw [e] at h3
  exact Int.ofNat_le.1 h3

end Go.Proofs.Ytfflnpcbpcldeaa
