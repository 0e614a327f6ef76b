/- Levels of nodes along what is left: the plain law. No program in sight. -/
import Derived.Test.YtfflnpcbpcldeaaRch
namespace Go.Proofs.Ytfflnpcbpcldeaa

/-- Where pipe i leads to; what is left in it. -/
abbrev toX (X : Nat → List Nat) (i : Nat) : Nat := (X 0).getD i 0
abbrev leftX (X : Nat → List Nat) (i : Nat) : Nat := (X 1).getD i 0

/-- The pipes of a net are as they must be: N nodes, M pipes. -/
structure NetOk (N M : Nat) (X : Nat → List Nat) : Prop where
  toL : (X 0).length = M
  leftL : (X 1).length = M
  to_lt : ∀ i, i < M → toX X i < N
  at_lt : ∀ v, v < N → ∀ i, i ∈ X (v + 2) → i < M ∧ toX X (i ^^^ 1) = v
  at_in : ∀ i, i < M → i ∈ X (toX X (i ^^^ 1) + 2)
  xor_lt : ∀ i, i < M → i ^^^ 1 < M
  small : N ≤ 1000 ∧ M ≤ 10000
  at_len : ∀ v, v < N → (X (v + 2)).length ≤ 10000

theorem cnt_same {I J : Nat → Bool} : ∀ {n}, (∀ k, k < n → I k = J k) → cnt I n = cnt J n
  | 0, _ => rfl
  | n + 1, h => by rw [cnt, cnt, cnt_same fun k hk => h k (by omega), h n (by omega)]
theorem cnt_put {I J : Nat → Bool} {x : Nat} : ∀ {n}, x < n → I x = false → J x = true → (∀ k, k ≠ x → J k = I k) → cnt J n = cnt I n + 1
  | n + 1, hx, h1, h2, h => by
    rw [cnt, cnt]
    by_cases e : n = x
    · subst e
      rw [h1, h2, cnt_same (I := J) (J := I) fun k hk => h k (by omega)]
      simp
    · rw [h n e, cnt_put (n := n) (by omega) h1 h2 h]
      omega

/-- The nodes that are reached. -/
def seenB (lev : Nat → Int) : Nat → Bool := fun v => decide (0 ≤ lev v)

/-- Levels under way; Q: the nodes whose pipes are still to be looked at. -/
structure LevI (N : Nat) (X : Nat → List Nat) (s : Nat) (lev : Nat → Int) (Q : List Nat) : Prop where
  src : lev s = 0
  rng : ∀ v, v < N → lev v = -1 ∨ (0 ≤ lev v ∧ lev v < cnt (seenB lev) N)
  zero : ∀ v, v < N → lev v = 0 → v = s
  pred : ∀ v, v < N → 0 < lev v → ∃ u i, u < N ∧ i ∈ X (u + 2) ∧ toX X i = v ∧ 0 < leftX X i ∧ lev u + 1 = lev v ∧ 0 ≤ lev u
  qs : ∀ u, u ∈ Q → u < N ∧ 0 ≤ lev u
  closed : ∀ u, u < N → 0 ≤ lev u → u ∉ Q → ∀ i, i ∈ X (u + 2) → 0 < leftX X i → 0 ≤ lev (toX X i)
  room : Q.length ≤ cnt (seenB lev) N

/-- What the levels say in the end. -/
structure LevOk (N : Nat) (X : Nat → List Nat) (s : Nat) (lev : Nat → Int) : Prop where
  src : lev s = 0
  rng : ∀ v, v < N → lev v = -1 ∨ (0 ≤ lev v ∧ lev v < N)
  zero : ∀ v, v < N → lev v = 0 → v = s
  pred : ∀ v, v < N → 0 < lev v → ∃ u i, u < N ∧ i ∈ X (u + 2) ∧ toX X i = v ∧ 0 < leftX X i ∧ lev u + 1 = lev v ∧ 0 ≤ lev u
  closed : ∀ u, u < N → 0 ≤ lev u → ∀ i, i ∈ X (u + 2) → 0 < leftX X i → 0 ≤ lev (toX X i)

section
variable {N : Nat} {X : Nat → List Nat} {s : Nat} {lev : Nat → Int} {Q : List Nat}
theorem LevI.start (hs : s < N) : LevI N X s (fun v => if v = s then 0 else -1) [s] where
  src := if_pos rfl
  rng v hv := by
    by_cases e : v = s
    · right
      have := cnt_more (n := N) (x := s) (I := fun _ => false) (J := seenB fun v => if v = s then 0 else -1) (fun _ _ h => by cases h) hs rfl (by simp [seenB])
      simp only [if_pos e]
      omega
    · left; simp only [if_neg e]
  zero v _ h := by
    by_cases e : v = s
    · exact e
    · simp only [if_neg e] at h; omega
  pred v _ h := by
    by_cases e : v = s
    · simp only [if_pos e] at h; omega
    · simp only [if_neg e] at h; omega
  qs u hu := by
    obtain rfl : u = s := by simpa using hu
    exact ⟨hs, by simp⟩
  closed u _ h hn := by
    by_cases e : u = s
    · exact absurd (by simp [e]) hn
    · simp only [if_neg e] at h; omega
  room := by
    have := cnt_more (n := N) (x := s) (I := fun _ => false) (J := seenB fun v => if v = s then 0 else -1) (fun _ _ h => by cases h) hs rfl (by simp [seenB])
    simp only [List.length_cons, List.length_nil]
    omega

/-- A node is seen for the first time. -/
theorem LevI.push (h : LevI N X s lev Q) {u i w : Nat} (hu : u < N) (hlu : 0 ≤ lev u) (hi : i ∈ X (u + 2)) (hw : w < N) (hto : toX X i = w) (hl : 0 < leftX X i) (hn : lev w < 0) :
    LevI N X s (fun q => if q = w then lev u + 1 else lev q) (Q ++ [w]) ∧ cnt (seenB fun q => if q = w then lev u + 1 else lev q) N = cnt (seenB lev) N + 1 := by
  have hc : cnt (seenB fun q => if q = w then lev u + 1 else lev q) N = cnt (seenB lev) N + 1 :=
    cnt_put hw (by simp [seenB]; omega) (by simp [seenB]; omega) (fun k hk => by simp [seenB, hk])
  have huw : u ≠ w := fun e => by subst e; omega
  have hsw : s ≠ w := fun e => by have := h.src; subst e; omega
  have lu := h.rng u hu
  refine ⟨⟨?_, ?_, ?_, ?_, ?_, ?_, ?_⟩, hc⟩
  · simp only [if_neg hsw]; exact h.src
  · intro v hv
    rw [hc]
    by_cases e : v = w
    · simp only [if_pos e]; omega
    · simp only [if_neg e]
      have := h.rng v hv
      omega
  · intro v hv hz
    by_cases e : v = w
    · simp only [if_pos e] at hz; omega
    · simp only [if_neg e] at hz; exact h.zero v hv hz
  · intro v hv hz
    by_cases e : v = w
    · exact ⟨u, i, hu, hi, by rw [hto, e], hl, by simp only [if_neg huw, if_pos e], by simp only [if_neg huw]; exact hlu⟩
    · simp only [if_neg e] at hz
      obtain ⟨u', i', h1, h2, h3, h4, h5, h6⟩ := h.pred v hv hz
      have e' : u' ≠ w := fun e => by subst e; omega
      exact ⟨u', i', h1, h2, h3, h4, by simp only [if_neg e', if_neg e]; exact h5, by simp only [if_neg e']; exact h6⟩
  · intro v hv
    rcases List.mem_append.1 hv with hv | hv
    · obtain ⟨h1, h2⟩ := h.qs v hv
      refine ⟨h1, ?_⟩
      have e : v ≠ w := fun e => by subst e; omega
      simp only [if_neg e]; exact h2
    · obtain rfl : v = w := by simpa using hv
      exact ⟨hw, by simp only [if_true]; omega⟩
  · intro v hv h1 h2 j hj hl'
    have e : v ≠ w := fun e => h2 (by subst e; simp)
    simp only [if_neg e] at h1
    have := h.closed v hv h1 (fun hm => h2 (List.mem_append_left _ hm)) j hj hl'
    by_cases e' : toX X j = w
    · simp only [if_pos e']; omega
    · simp only [if_neg e']; exact this
  · rw [hc, List.length_append]
    have := h.room
    simp only [List.length_cons, List.length_nil]
    omega

/-- A node's pipes have all been looked at. -/
theorem LevI.pop {u : Nat} {R : List Nat} (h : LevI N X s lev (u :: R)) (hall : ∀ i, i ∈ X (u + 2) → 0 < leftX X i → 0 ≤ lev (toX X i)) : LevI N X s lev R :=
  ⟨h.src, h.rng, h.zero, h.pred, fun v hv => h.qs v (List.mem_cons_of_mem _ hv), fun v hv h1 h2 i hi hl => by
    by_cases e : v = u
    · subst e; exact hall i hi hl
    · exact h.closed v hv h1 (fun hm => by
        rcases List.mem_cons.1 hm with hm | hm
        · exact e hm
        · exact h2 hm) i hi hl, by have := h.room; simp only [List.length_cons] at this; omega⟩
theorem LevI.done (h : LevI N X s lev []) : LevOk N X s lev :=
  ⟨h.src, fun v hv => by
    have := h.rng v hv
    have := cnt_le (seenB lev) N
    omega, h.zero, h.pred, fun u hu hl i hi hx => h.closed u hu hl (by simp) i hi hx⟩
end

end Go.Proofs.Ytfflnpcbpcldeaa
