/- Which nodes can be reached; how many components there are. No program in sight. Levels of nodes along what is left: the plain law. No program in sight. What a push along levels does: the plain law. No program in sight. (*flow.pipes).most: the plain law. No program in sight. FORD AND FULKERSON: the plain law. No program in sight. -/
import Derived.Test.YtfflnpcbpcldeaaP4
namespace Go.Proofs.Ytfflnpcbpcldeaa
open Go Go.RowKit

/-- From a one comes to b, where some are shut. -/
inductive Rch (N : Nat) (G : Nat → Nat → Bool) (S : Nat → Bool) (a : Nat) : Nat → Prop
  | refl : Rch N G S a a
  | step {b c : Nat} : Rch N G S a b → b < N → c < N → G b c = true → S c = false → Rch N G S a c
theorem Rch.trans {N : Nat} {G : Nat → Nat → Bool} {S : Nat → Bool} {a b c : Nat} (h : Rch N G S a b) (k : Rch N G S b c) : Rch N G S a c := by
  induction k with
  | refl => exact h
  | step _ h1 h2 h3 h4 ih => exact .step ih h1 h2 h3 h4
theorem Rch.lt {N : Nat} {G : Nat → Nat → Bool} {S : Nat → Bool} {a b : Nat} (h : Rch N G S a b) (ha : a < N) : b < N := by
  cases h with
  | refl => exact ha
  | step _ _ h2 _ _ => exact h2
theorem Rch.free {N : Nat} {G : Nat → Nat → Bool} {S : Nat → Bool} {a b : Nat} (h : Rch N G S a b) (ha : S a = false) : S b = false := by
  cases h with
  | refl => exact ha
  | step _ _ _ _ h4 => exact h4
open Classical in
noncomputable def rchB (N : Nat) (G : Nat → Nat → Bool) (S : Nat → Bool) (a b : Nat) : Bool := decide (Rch N G S a b)
theorem rchB_iff {N : Nat} {G : Nat → Nat → Bool} {S : Nat → Bool} {a b : Nat} : rchB N G S a b = true ↔ Rch N G S a b := by unfold rchB; simp

/-- How many are in. -/
def cnt (I : Nat → Bool) : Nat → Nat
  | 0 => 0
  | n + 1 => cnt I n + (if I n = true then 1 else 0)
theorem cnt_le (I : Nat → Bool) : ∀ n, cnt I n ≤ n
  | 0 => Nat.le_refl _
  | n + 1 => by have := cnt_le I n; rw [cnt]; split <;> omega
theorem cnt_mono {I J : Nat → Bool} : ∀ {n}, (∀ k, k < n → I k = true → J k = true) → cnt I n ≤ cnt J n
  | 0, _ => Nat.le_refl _
  | n + 1, h => by
    have := cnt_mono (n := n) (I := I) (J := J) fun k hk => h k (by omega)
    rw [cnt, cnt]
    by_cases e : I n = true
    · rw [if_pos e, if_pos (h n (by omega) e)]; omega
    · rw [if_neg e]; split <;> omega
theorem cnt_more {I J : Nat → Bool} {x : Nat} : ∀ {n}, (∀ k, k < n → I k = true → J k = true) → x < n → I x = false → J x = true → cnt I n < cnt J n
  | 0, _, hx, _, _ => absurd hx (Nat.not_lt_zero _)
  | n + 1, h, hx, h1, h2 => by
    rw [cnt, cnt]
    by_cases e : x = n
    · subst e
      have := cnt_mono (n := x) (I := I) (J := J) fun k hk => h k (by omega)
      rw [if_neg (by rw [h1]; exact Bool.false_ne_true), if_pos h2]; omega
    · have := cnt_more (n := n) (I := I) (J := J) (fun k hk => h k (by omega)) (by omega) h1 h2
      by_cases e2 : I n = true
      · rw [if_pos e2, if_pos (h n (by omega) e2)]; omega
      · rw [if_neg e2]; split <;> omega

/-- One pass under way: at node i, neighbour j. -/
structure Pass (N : Nat) (G : Nat → Nat → Bool) (S : Nat → Bool) (a : Nat) (I0 I : Nat → Bool) (ag : Bool) (i j : Nat) : Prop where
  has : I a = true
  old : ∀ k, k < N → I0 k = true → I k = true
  con : ∀ k, k < N → I k = true → Rch N G S a k
  more : ag = true → cnt I0 N < cnt I N
  same : ag = false → (∀ k, k < N → I k = I0 k) ∧ ∀ u v, (u < i ∧ v < N ∨ u = i ∧ v < j) → u < N → I u = true → G u v = true → I v = true ∨ S v = true
section
variable {N : Nat} {G : Nat → Nat → Bool} {S : Nat → Bool} {a : Nat} {I0 I : Nat → Bool} {ag : Bool} {i j : Nat}
theorem Pass.start (ha : I a = true) (hc : ∀ k, k < N → I k = true → Rch N G S a k) : Pass N G S a I I false 0 0 :=
  ⟨ha, fun _ _ h => h, hc, (fun h => by cases h), fun _ => ⟨fun _ _ => rfl, fun u v h => by omega⟩⟩
theorem Pass.skip (h : Pass N G S a I0 I ag i j) (hno : ¬ (I i = true ∧ G i j = true ∧ I j = false ∧ S j = false)) : Pass N G S a I0 I ag i (j + 1) :=
  ⟨h.has, h.old, h.con, h.more, fun e => ⟨(h.same e).1, fun u v huv hu h1 h2 => by
    by_cases e2 : u = i ∧ v = j
    · obtain ⟨rfl, rfl⟩ := e2
      cases e3 : I v
      · cases e4 : S v
        · exact absurd ⟨h1, h2, e3, e4⟩ hno
        · exact Or.inr rfl
      · exact Or.inl rfl
    · exact (h.same e).2 u v (by omega) hu h1 h2⟩⟩
theorem Pass.add (h : Pass N G S a I0 I ag i j) (hi : i < N) (hj : j < N) (h1 : I i = true) (h2 : G i j = true) (h3 : I j = false) (h4 : S j = false) : Pass N G S a I0 (fun k => if k = j then true else I k) true i (j + 1) := by
  have up : ∀ k, k < N → I k = true → (if k = j then true else I k) = true := fun k _ hk => by split <;> simp_all
  refine ⟨?_, fun k hk h0 => up k hk (h.old k hk h0), fun k hk h0 => ?_, fun _ => ?_, (fun e => by cases e)⟩
  · show (if a = j then true else I a) = true
    rw [h.has]; simp
  · by_cases e : k = j
    · subst e; exact .step (h.con i hi h1) hi hk h2 h4
    · rw [if_neg e] at h0; exact h.con k hk h0
  · have h5 := cnt_mono (n := N) fun k hk => h.old k hk
    have h6 := cnt_more (n := N) (x := j) (J := fun k => if k = j then true else I k) (fun k hk h => up k hk h) hj h3 (by simp)
    omega
theorem Pass.next (h : Pass N G S a I0 I ag i N) : Pass N G S a I0 I ag (i + 1) 0 :=
  ⟨h.has, h.old, h.con, h.more, fun e => ⟨(h.same e).1, fun u v huv => (h.same e).2 u v (by omega)⟩⟩
theorem Pass.fin (ha : a < N) (h : Pass N G S a I0 I false N 0) : ∀ k, k < N → I k = rchB N G S a k := fun k hk => by
  have cl : ∀ c, Rch N G S a c → I c = true := fun c hc => by
    induction hc with
    | refl => exact h.has
    | @step b c h1 h2 h3 h4 h5 ih =>
      rcases (h.same rfl).2 b c (Or.inl ⟨h2, h3⟩) h2 ih h4 with h6 | h6
      · exact h6
      · rw [h5] at h6; cases h6
  cases e : rchB N G S a k
  · cases e2 : I k
    · rfl
    · rw [rchB_iff.2 (h.con k hk e2)] at e; cases e
  · exact cl k (rchB_iff.1 e)
end

/-- The first node of a component. -/
def Lead (N : Nat) (G : Nat → Nat → Bool) (S : Nat → Bool) (v : Nat) : Prop := S v = false ∧ ∀ u, u < v → S u = false → ¬ Rch N G S u v
open Classical in
noncomputable def leadB (N : Nat) (G : Nat → Nat → Bool) (S : Nat → Bool) (v : Nat) : Bool := decide (Lead N G S v)
theorem leadB_iff {N : Nat} {G : Nat → Nat → Bool} {S : Nat → Bool} {v : Nat} : leadB N G S v = true ↔ Lead N G S v := by unfold leadB; simp
/-- How many components there are. -/
noncomputable def partsF (N : Nat) (G : Nat → Nat → Bool) (S : Nat → Bool) : Nat := cnt (leadB N G S) N

open Classical in
/-- What is done by those before v. -/
noncomputable def doneB (N : Nat) (G : Nat → Nat → Bool) (S : Nat → Bool) (v k : Nat) : Bool := decide (∃ u, u < v ∧ S u = false ∧ Rch N G S u k)
theorem doneB_iff {N : Nat} {G : Nat → Nat → Bool} {S : Nat → Bool} {v k : Nat} : doneB N G S v k = true ↔ ∃ u, u < v ∧ S u = false ∧ Rch N G S u k := by unfold doneB; simp
theorem leadB_eq {N : Nat} {G : Nat → Nat → Bool} {S : Nat → Bool} {v : Nat} : leadB N G S v = (!doneB N G S v v && !S v) := by
  rw [Bool.eq_iff_iff, leadB_iff, Bool.and_eq_true, Bool.not_eq_true', Bool.not_eq_true']
  constructor
  · rintro ⟨h1, h2⟩
    refine ⟨?_, h1⟩
    cases e : doneB N G S v v
    · rfl
    · obtain ⟨u, hu, hs, hr⟩ := doneB_iff.1 e
      exact absurd hr (h2 u hu hs)
  · rintro ⟨h1, h2⟩
    refine ⟨h2, fun u hu hs hr => ?_⟩
    rw [doneB_iff.2 ⟨u, hu, hs, hr⟩] at h1; cases h1
theorem doneB_lead {N : Nat} {G : Nat → Nat → Bool} {S : Nat → Bool} {v : Nat} (h : leadB N G S v = true) (k : Nat) : doneB N G S (v + 1) k = (doneB N G S v k || rchB N G S v k) := by
  rw [Bool.eq_iff_iff, Bool.or_eq_true, doneB_iff, doneB_iff, rchB_iff]
  constructor
  · rintro ⟨u, hu, hs, hr⟩
    by_cases e : u = v
    · subst e; exact Or.inr hr
    · exact Or.inl ⟨u, by omega, hs, hr⟩
  · rintro (⟨u, hu, hs, hr⟩ | hr)
    · exact ⟨u, by omega, hs, hr⟩
    · exact ⟨v, by omega, (leadB_iff.1 h).1, hr⟩
theorem doneB_other {N : Nat} {G : Nat → Nat → Bool} {S : Nat → Bool} {v : Nat} (h : leadB N G S v = false) (k : Nat) : doneB N G S (v + 1) k = doneB N G S v k := by
  rw [Bool.eq_iff_iff, doneB_iff, doneB_iff]
  constructor
  · rintro ⟨u, hu, hs, hr⟩
    by_cases e : u = v
    · subst e
      rw [leadB_eq] at h
      have hd : doneB N G S u u = true := by
        cases e2 : doneB N G S u u
        · rw [e2, hs] at h; cases h
        · rfl
      obtain ⟨x, hx, hxs, hxr⟩ := doneB_iff.1 hd
      exact ⟨x, hx, hxs, hxr.trans hr⟩
    · exact ⟨u, by omega, hs, hr⟩
  · rintro ⟨u, hu, hs, hr⟩
    exact ⟨u, by omega, hs, hr⟩

end Go.Proofs.Ytfflnpcbpcldeaa
namespace Go.Proofs.Ytfflnpcbpcldeaa

/-- Where pipe i leads to; what is left in it. -/
abbrev toX (X : Nat → List Nat) (i : Nat) : Nat := (X 0).getD i 0
abbrev leftX (X : Nat → List Nat) (i : Nat) : Nat := (X 1).getD i 0

/-- The pipes of a net are as they must be: N nodes, M pipes. -/
structure NetOk (N M : Nat) (X : Nat → List Nat) : Prop where
  toL : (X 0).length = M
  leftL : (X 1).length = M
  to_lt : ∀ i, i < M → toX X i < N
  at_lt : ∀ v, v < N → ∀ i, i ∈ X (v + 2) → i < M ∧ toX X (i ^^^ 1) = v
  at_in : ∀ i, i < M → i ∈ X (toX X (i ^^^ 1) + 2)
  xor_lt : ∀ i, i < M → i ^^^ 1 < M
  small : N ≤ 1000 ∧ M ≤ 10000
  at_len : ∀ v, v < N → (X (v + 2)).length ≤ 10000

theorem cnt_same {I J : Nat → Bool} : ∀ {n}, (∀ k, k < n → I k = J k) → cnt I n = cnt J n
  | 0, _ => rfl
  | n + 1, h => by rw [cnt, cnt, cnt_same fun k hk => h k (by omega), h n (by omega)]
theorem cnt_put {I J : Nat → Bool} {x : Nat} : ∀ {n}, x < n → I x = false → J x = true → (∀ k, k ≠ x → J k = I k) → cnt J n = cnt I n + 1
  | n + 1, hx, h1, h2, h => by
    rw [cnt, cnt]
    by_cases e : n = x
    · subst e
      rw [h1, h2, cnt_same (I := J) (J := I) fun k hk => h k (by omega)]
      simp
    · rw [h n e, cnt_put (n := n) (by omega) h1 h2 h]
      omega

/-- The nodes that are reached. -/
def seenB (lev : Nat → Int) : Nat → Bool := fun v => decide (0 ≤ lev v)

/-- Levels under way; Q: the nodes whose pipes are still to be looked at. -/
structure LevI (N : Nat) (X : Nat → List Nat) (s : Nat) (lev : Nat → Int) (Q : List Nat) : Prop where
  src : lev s = 0
  rng : ∀ v, v < N → lev v = -1 ∨ (0 ≤ lev v ∧ lev v < cnt (seenB lev) N)
  zero : ∀ v, v < N → lev v = 0 → v = s
  pred : ∀ v, v < N → 0 < lev v → ∃ u i, u < N ∧ i ∈ X (u + 2) ∧ toX X i = v ∧ 0 < leftX X i ∧ lev u + 1 = lev v ∧ 0 ≤ lev u
  qs : ∀ u, u ∈ Q → u < N ∧ 0 ≤ lev u
  closed : ∀ u, u < N → 0 ≤ lev u → u ∉ Q → ∀ i, i ∈ X (u + 2) → 0 < leftX X i → 0 ≤ lev (toX X i)
  room : Q.length ≤ cnt (seenB lev) N

/-- What the levels say in the end. -/
structure LevOk (N : Nat) (X : Nat → List Nat) (s : Nat) (lev : Nat → Int) : Prop where
  src : lev s = 0
  rng : ∀ v, v < N → lev v = -1 ∨ (0 ≤ lev v ∧ lev v < N)
  zero : ∀ v, v < N → lev v = 0 → v = s
  pred : ∀ v, v < N → 0 < lev v → ∃ u i, u < N ∧ i ∈ X (u + 2) ∧ toX X i = v ∧ 0 < leftX X i ∧ lev u + 1 = lev v ∧ 0 ≤ lev u
  closed : ∀ u, u < N → 0 ≤ lev u → ∀ i, i ∈ X (u + 2) → 0 < leftX X i → 0 ≤ lev (toX X i)

section
variable {N : Nat} {X : Nat → List Nat} {s : Nat} {lev : Nat → Int} {Q : List Nat}
theorem LevI.start (hs : s < N) : LevI N X s (fun v => if v = s then 0 else -1) [s] where
  src := if_pos rfl
  rng v hv := by
    by_cases e : v = s
    · right
      have := cnt_more (n := N) (x := s) (I := fun _ => false) (J := seenB fun v => if v = s then 0 else -1) (fun _ _ h => by cases h) hs rfl (by simp [seenB])
      simp only [if_pos e]
      omega
    · left; simp only [if_neg e]
  zero v _ h := by
    by_cases e : v = s
    · exact e
    · simp only [if_neg e] at h; omega
  pred v _ h := by
    by_cases e : v = s
    · simp only [if_pos e] at h; omega
    · simp only [if_neg e] at h; omega
  qs u hu := by
    obtain rfl : u = s := by simpa using hu
    exact ⟨hs, by simp⟩
  closed u _ h hn := by
    by_cases e : u = s
    · exact absurd (by simp [e]) hn
    · simp only [if_neg e] at h; omega
  room := by
    have := cnt_more (n := N) (x := s) (I := fun _ => false) (J := seenB fun v => if v = s then 0 else -1) (fun _ _ h => by cases h) hs rfl (by simp [seenB])
    simp only [List.length_cons, List.length_nil]
    omega

/-- A node is seen for the first time. -/
theorem LevI.push (h : LevI N X s lev Q) {u i w : Nat} (hu : u < N) (hlu : 0 ≤ lev u) (hi : i ∈ X (u + 2)) (hw : w < N) (hto : toX X i = w) (hl : 0 < leftX X i) (hn : lev w < 0) :
    LevI N X s (fun q => if q = w then lev u + 1 else lev q) (Q ++ [w]) ∧ cnt (seenB fun q => if q = w then lev u + 1 else lev q) N = cnt (seenB lev) N + 1 := by
  have hc : cnt (seenB fun q => if q = w then lev u + 1 else lev q) N = cnt (seenB lev) N + 1 :=
    cnt_put hw (by simp [seenB]; omega) (by simp [seenB]; omega) (fun k hk => by simp [seenB, hk])
  have huw : u ≠ w := fun e => by subst e; omega
  have hsw : s ≠ w := fun e => by have := h.src; subst e; omega
  have lu := h.rng u hu
  refine ⟨⟨?_, ?_, ?_, ?_, ?_, ?_, ?_⟩, hc⟩
  · simp only [if_neg hsw]; exact h.src
  · intro v hv
    rw [hc]
    by_cases e : v = w
    · simp only [if_pos e]; omega
    · simp only [if_neg e]
      have := h.rng v hv
      omega
  · intro v hv hz
    by_cases e : v = w
    · simp only [if_pos e] at hz; omega
    · simp only [if_neg e] at hz; exact h.zero v hv hz
  · intro v hv hz
    by_cases e : v = w
    · exact ⟨u, i, hu, hi, by rw [hto, e], hl, by simp only [if_neg huw, if_pos e], by simp only [if_neg huw]; exact hlu⟩
    · simp only [if_neg e] at hz
      obtain ⟨u', i', h1, h2, h3, h4, h5, h6⟩ := h.pred v hv hz
      have e' : u' ≠ w := fun e => by subst e; omega
      exact ⟨u', i', h1, h2, h3, h4, by simp only [if_neg e', if_neg e]; exact h5, by simp only [if_neg e']; exact h6⟩
  · intro v hv
    rcases List.mem_append.1 hv with hv | hv
    · obtain ⟨h1, h2⟩ := h.qs v hv
      refine ⟨h1, ?_⟩
      have e : v ≠ w := fun e => by subst e; omega
      simp only [if_neg e]; exact h2
    · obtain rfl : v = w := by simpa using hv
      exact ⟨hw, by simp only [if_true]; omega⟩
  · intro v hv h1 h2 j hj hl'
    have e : v ≠ w := fun e => h2 (by subst e; simp)
    simp only [if_neg e] at h1
    have := h.closed v hv h1 (fun hm => h2 (List.mem_append_left _ hm)) j hj hl'
    by_cases e' : toX X j = w
    · simp only [if_pos e']; omega
    · simp only [if_neg e']; exact this
  · rw [hc, List.length_append]
    have := h.room
    simp only [List.length_cons, List.length_nil]
    omega

/-- A node's pipes have all been looked at. -/
theorem LevI.pop {u : Nat} {R : List Nat} (h : LevI N X s lev (u :: R)) (hall : ∀ i, i ∈ X (u + 2) → 0 < leftX X i → 0 ≤ lev (toX X i)) : LevI N X s lev R :=
  ⟨h.src, h.rng, h.zero, h.pred, fun v hv => h.qs v (List.mem_cons_of_mem _ hv), fun v hv h1 h2 i hi hl => by
    by_cases e : v = u
    · subst e; exact hall i hi hl
    · exact h.closed v hv h1 (fun hm => by
        rcases List.mem_cons.1 hm with hm | hm
        · exact e hm
        · exact h2 hm) i hi hl, by have := h.room; simp only [List.length_cons] at this; omega⟩
theorem LevI.done (h : LevI N X s lev []) : LevOk N X s lev :=
  ⟨h.src, fun v hv => by
    have := h.rng v hv
    have := cnt_le (seenB lev) N
    omega, h.zero, h.pred, fun u hu hl i hi hx => h.closed u hu hl (by simp) i hi hx⟩
end

end Go.Proofs.Ytfflnpcbpcldeaa
namespace Go.Proofs.Ytfflnpcbpcldeaa

theorem xor_one_div (i : Nat) : (i ^^^ 1) / 2 = i / 2 := by rw [Nat.xor_div_two]; simp
theorem xor_one_mod (i : Nat) : (i ^^^ 1) % 2 = (i + 1) % 2 := by
  have h := @Nat.xor_mod_two_eq_one i 1
  omega
theorem xor_one_ne (i : Nat) : i ^^^ 1 ≠ i := fun e => by have := xor_one_mod i; rw [e] at this; omega
theorem xor_one_xor (i : Nat) : (i ^^^ 1) ^^^ 1 = i := by
  have h1 := xor_one_div i
  have h2 := xor_one_mod i
  have h3 := xor_one_div (i ^^^ 1)
  have h4 := xor_one_mod (i ^^^ 1)
  omega
theorem xor_one_even {i k : Nat} (h : i = 2 * k) : i ^^^ 1 = 2 * k + 1 := by
  have h1 := xor_one_div i
  have h2 := xor_one_mod i
  omega
theorem xor_one_odd {i k : Nat} (h : i = 2 * k + 1) : i ^^^ 1 = 2 * k := by
  have h1 := xor_one_div i
  have h2 := xor_one_mod i
  omega

theorem NetOk.even {N M : Nat} {X : Nat → List Nat} (h : NetOk N M X) : M % 2 = 0 := by
  by_cases e : M % 2 = 0
  · exact e
  · have h1 := h.xor_lt (M - 1) (by omega)
    have h2 := xor_one_even (i := M - 1) (k := M / 2) (by omega)
    omega

/-- A sum. -/
def sumZ (f : Nat → Int) : Nat → Int
  | 0 => 0
  | n + 1 => sumZ f n + f n
theorem sumZ_congr {f g : Nat → Int} : ∀ {n}, (∀ k, k < n → f k = g k) → sumZ f n = sumZ g n
  | 0, _ => rfl
  | n + 1, h => by rw [sumZ, sumZ, sumZ_congr fun k hk => h k (by omega), h n (by omega)]
theorem sumZ_one {f g : Nat → Int} {x : Nat} {d : Int} : ∀ {n}, x < n → (∀ k, k < n → k ≠ x → g k = f k) → g x = f x + d → sumZ g n = sumZ f n + d
  | n + 1, hx, h, hd => by
    rw [sumZ, sumZ]
    by_cases e : n = x
    · subst e
      rw [sumZ_congr (f := g) (g := f) fun k hk => h k (by omega) (by omega), hd]
      omega
    · rw [h n (by omega) e, sumZ_one (n := n) (by omega) (fun k hk => h k (by omega)) hd]
      omega

abbrev tailX (X : Nat → List Nat) (i : Nat) : Nat := toX X (i ^^^ 1)
/-- What flows out of node u, less what flows in. -/
def outX (M : Nat) (X : Nat → List Nat) (u : Nat) : Int :=
  sumZ (fun k => (if toX X (2 * k + 1) = u then (leftX X (2 * k + 1) : Int) else 0) - (if toX X (2 * k) = u then (leftX X (2 * k + 1) : Int) else 0)) (M / 2)

/-- n goes along pipe i. -/
def putL (X : Nat → List Nat) (i n : Nat) : Nat → List Nat := fun q => if q = 1 then ((X 1).set i (leftX X i - n)).set (i ^^^ 1) (leftX X (i ^^^ 1) + n) else X q

theorem getD_set (l : List Nat) (i j x : Nat) (hi : i < l.length) : (l.set i x).getD j 0 = if j = i then x else l.getD j 0 := by
  simp only [List.getD, List.getElem?_set]
  by_cases e : i = j
  · subst e; simp [hi]
  · rw [if_neg e, if_neg (fun h => e h.symm)]
theorem putL_left {N M : Nat} {X : Nat → List Nat} (hX : NetOk N M X) {i : Nat} (hi : i < M) (n j : Nat) : leftX (putL X i n) j = if j = i ^^^ 1 then leftX X (i ^^^ 1) + n else if j = i then leftX X i - n else leftX X j := by
  have h1 := hX.leftL
  have h2 := hX.xor_lt i hi
  unfold leftX putL
  simp only [if_true]
  rw [getD_set _ _ _ _ (by rw [List.length_set]; omega), getD_set _ _ _ _ (by omega)]
theorem putL_to (X : Nat → List Nat) (i n j : Nat) : toX (putL X i n) j = toX X j := rfl
theorem putL_ok {N M : Nat} {X : Nat → List Nat} (hX : NetOk N M X) (i n : Nat) : NetOk N M (putL X i n) where
  toL := hX.toL
  leftL := by show (((X 1).set i _).set _ _).length = M; rw [List.length_set, List.length_set]; exact hX.leftL
  to_lt := hX.to_lt
  at_lt v hv j hj := hX.at_lt v hv j (by simpa [putL] using hj)
  at_in j hj := by simpa [putL] using hX.at_in j hj
  xor_lt := hX.xor_lt
  small := hX.small
  at_len v hv := by simpa [putL] using hX.at_len v hv

theorem putL_out {N M : Nat} {X : Nat → List Nat} (hX : NetOk N M X) {i n : Nat} (hi : i < M) (hn : n ≤ leftX X i) (u : Nat) :
    outX M (putL X i n) u = outX M X u + ((if tailX X i = u then (n : Int) else 0) - (if toX X i = u then (n : Int) else 0)) := by
  have hx := hX.xor_lt i hi
  have hd := xor_one_div i
  unfold outX
  have hev := hX.even
  refine sumZ_one (x := i / 2) (by omega) (fun k hk hne => ?_) ?_
  · have e1 : 2 * k + 1 ≠ i ^^^ 1 := by omega
    have e2 : 2 * k + 1 ≠ i := by omega
    simp only [putL_to, putL_left hX hi, if_neg e1, if_neg e2]
  · simp only [putL_to, putL_left hX hi]
    rcases (show i = 2 * (i / 2) ∨ i = 2 * (i / 2) + 1 by omega) with e | e
    · have e3 := xor_one_even e
      have e4 : 2 * (i / 2) + 1 = i ^^^ 1 := e3.symm
      rw [e4, if_pos rfl, ← e]
      by_cases a : toX X (i ^^^ 1) = u <;> by_cases b : toX X i = u <;> simp only [tailX, a, b, if_true, if_false] <;> omega
    · have e3 := xor_one_odd e
      have e4 : 2 * (i / 2) + 1 ≠ i ^^^ 1 := by omega
      rw [if_neg e4, ← e, if_pos rfl, ← e3]
      by_cases a : toX X (i ^^^ 1) = u <;> by_cases b : toX X i = u <;> simp only [tailX, a, b, if_true, if_false] <;> omega

/-- n has gone from v to t, along nodes that lie no lower than v. -/
structure Aug (N M : Nat) (lev : Nat → Int) (t v n : Nat) (X X' : Nat → List Nat) : Prop where
  ok : NetOk N M X'
  same : ∀ q, q ≠ 1 → X' q = X q
  sum : ∀ i, i < M → leftX X' i + leftX X' (i ^^^ 1) = leftX X i + leftX X (i ^^^ 1)
  low : ∀ i, i < M → lev (tailX X i) < lev v → leftX X' i = leftX X i
  out : ∀ u, outX M X' u = outX M X u + ((if v = u then (n : Int) else 0) - (if t = u then (n : Int) else 0))

theorem Aug.refl {N M : Nat} {lev : Nat → Int} {t n : Nat} {X : Nat → List Nat} (h : NetOk N M X) : Aug N M lev t t n X X :=
  ⟨h, fun _ _ => rfl, fun _ _ => rfl, fun _ _ _ => rfl, fun u => by omega⟩

theorem Aug.step {N M : Nat} {lev : Nat → Int} {t v w n i : Nat} {X X' : Nat → List Nat} (hX : NetOk N M X) (hi : i < M) (ht : tailX X i = v) (hw : toX X i = w) (hl : lev w = lev v + 1) (hn : n ≤ leftX X i) (h : Aug N M lev t w n X X') :
    Aug N M lev t v n X (putL X' i n) ∧ leftX X' i = leftX X i := by
  have hto : ∀ j, toX X' j = toX X j := fun j => by show (X' 0).getD j 0 = _; rw [h.same 0 (by omega)]
  have hli : leftX X' i = leftX X i := h.low i hi (by rw [ht]; omega)
  have hx := hX.xor_lt i hi
  have hxx := xor_one_xor i
  have hne := xor_one_ne i
  refine ⟨⟨putL_ok h.ok i n, fun q hq => ?_, fun j hj => ?_, fun j hj hlow => ?_, fun u => ?_⟩, hli⟩
  · rw [← h.same q hq]; simp [putL, hq]
  · rw [← h.sum j hj, putL_left h.ok hi, putL_left h.ok hi]
    by_cases e1 : j = i
    · subst e1
      rw [if_neg (Ne.symm hne), if_pos rfl, if_pos rfl]
      omega
    · by_cases e2 : j = i ^^^ 1
      · rw [if_pos e2, e2, hxx, if_neg (Ne.symm hne), if_pos rfl]
        omega
      · have e3 : j ^^^ 1 ≠ i := fun e => e2 (by rw [← e, xor_one_xor])
        have e4 : j ^^^ 1 ≠ i ^^^ 1 := fun e => e1 (by rw [← xor_one_xor j, e, hxx])
        rw [if_neg e2, if_neg e1, if_neg e4, if_neg e3]
  · have e1 : j ≠ i := fun e => by subst e; rw [ht] at hlow; omega
    have e2 : j ≠ i ^^^ 1 := fun e => by
      subst e
      have : tailX X (i ^^^ 1) = w := by show toX X _ = w; rw [hxx]; exact hw
      rw [this] at hlow; omega
    rw [putL_left h.ok hi, if_neg e2, if_neg e1]
    exact h.low j hj (by omega)
  · rw [putL_out h.ok hi (by omega), h.out u]
    have e1 : tailX X' i = v := by show toX X' _ = v; rw [hto]; exact ht
    have e2 : toX X' i = w := by rw [hto]; exact hw
    rw [e1, e2]
    omega

/-- What lies behind is of no use. -/
def Dead (N : Nat) (X : Nat → List Nat) (lev : Nat → Int) (t : Nat) (nx : Nat → Nat) : Prop :=
  ∀ u, u < N → ∀ j, j < nx u → j < (X (u + 2)).length → leftX X ((X (u + 2)).getD j 0) = 0 ∨ lev (toX X ((X (u + 2)).getD j 0)) ≠ lev u + 1 ∨ (toX X ((X (u + 2)).getD j 0) ≠ t ∧ nx (toX X ((X (u + 2)).getD j 0)) = (X (toX X ((X (u + 2)).getD j 0) + 2)).length)

theorem Dead.start (N : Nat) (X : Nat → List Nat) (lev : Nat → Int) (t : Nat) : Dead N X lev t (fun _ => 0) := fun _ _ _ h => absurd h (Nat.not_lt_zero _)
/-- One further. -/
theorem Dead.next {N : Nat} {X : Nat → List Nat} {lev : Nat → Int} {t v : Nat} {nx : Nat → Nat} (h : Dead N X lev t nx) (hv : nx v < (X (v + 2)).length)
    (hu : leftX X ((X (v + 2)).getD (nx v) 0) = 0 ∨ lev (toX X ((X (v + 2)).getD (nx v) 0)) ≠ lev v + 1 ∨ (toX X ((X (v + 2)).getD (nx v) 0) ≠ t ∧ nx (toX X ((X (v + 2)).getD (nx v) 0)) = (X (toX X ((X (v + 2)).getD (nx v) 0) + 2)).length)) :
    Dead N X lev t (fun q => if q = v then nx v + 1 else nx q) := by
  have up : ∀ w, nx w = (X (w + 2)).length → (if w = v then nx v + 1 else nx w) = (X (w + 2)).length := fun w hw => by
    have : w ≠ v := fun e => by subst e; omega
    rw [if_neg this]; exact hw
  intro u hlt j hj hjl
  by_cases e : u = v
  · subst e
    simp only [if_true] at hj
    by_cases e2 : j = nx u
    · subst e2
      rcases hu with hu | hu | ⟨hu1, hu2⟩
      · exact Or.inl hu
      · exact Or.inr (Or.inl hu)
      · exact Or.inr (Or.inr ⟨hu1, up _ hu2⟩)
    · rcases h u hlt j (by omega) hjl with hu | hu | ⟨hu1, hu2⟩
      · exact Or.inl hu
      · exact Or.inr (Or.inl hu)
      · exact Or.inr (Or.inr ⟨hu1, up _ hu2⟩)
  · simp only [if_neg e] at hj
    rcases h u hlt j hj hjl with hu | hu | ⟨hu1, hu2⟩
    · exact Or.inl hu
    · exact Or.inr (Or.inl hu)
    · exact Or.inr (Or.inr ⟨hu1, up _ hu2⟩)

/-- A push that gives nothing, where nothing was looked at before: t is not reached. -/
theorem Dead.shut {N : Nat} {X : Nat → List Nat} {lev : Nat → Int} {s t : Nat} {nx : Nat → Nat} (hl : LevOk N X s lev) (h : Dead N X lev t nx) (hs : nx s = (X (s + 2)).length) (hst : s ≠ t) :
    ∀ k : Nat, ∀ v, v < N → lev v = k → v ≠ t ∧ nx v = (X (v + 2)).length := by
  intro k
  induction k with
  | zero =>
    intro v hv h0
    obtain rfl := hl.zero v hv (by omega)
    exact ⟨hst, hs⟩
  | succ k ih =>
    intro v hv h1
    obtain ⟨u, i, hu, hi, hto, hle, hlu, -⟩ := hl.pred v hv (by omega)
    obtain ⟨-, hd⟩ := ih u hu (by omega)
    obtain ⟨j, hj, rfl⟩ := List.mem_iff_getElem.1 hi
    have e : (X (u + 2)).getD j 0 = (X (u + 2))[j] := by simp [List.getD, hj]
    have := h u hu j (by omega) hj
    rw [e, hto] at this
    rcases this with a | a | a
    · omega
    · omega
    · exact a

end Go.Proofs.Ytfflnpcbpcldeaa
namespace Go.Proofs.Ytfflnpcbpcldeaa

/-- Pipes after some pushes: what went from s to t is sum. -/
structure Sent (N M : Nat) (s t : Nat) (X0 X : Nat → List Nat) (sum : Nat) : Prop where
  ok : NetOk N M X
  same : ∀ q, q ≠ 1 → X q = X0 q
  sums : ∀ i, i < M → leftX X i + leftX X (i ^^^ 1) = leftX X0 i + leftX X0 (i ^^^ 1)
  out : ∀ u, outX M X u = outX M X0 u + ((if s = u then (sum : Int) else 0) - (if t = u then (sum : Int) else 0))

theorem Sent.start {N M : Nat} {s t : Nat} {X : Nat → List Nat} (h : NetOk N M X) : Sent N M s t X X 0 := ⟨h, fun _ _ => rfl, fun _ _ => rfl, fun u => by simp⟩
theorem Sent.more {N M : Nat} {s t : Nat} {X0 X X' : Nat → List Nat} {sum n : Nat} {lev : Nat → Int} (h : Sent N M s t X0 X sum) (a : Aug N M lev t s n X X') : Sent N M s t X0 X' (sum + n) where
  ok := a.ok
  same q hq := (a.same q hq).trans (h.same q hq)
  sums i hi := (a.sum i hi).trans (h.sums i hi)
  out u := by
    rw [a.out u, h.out u]
    by_cases e1 : s = u <;> by_cases e2 : t = u <;> simp only [e1, e2, if_true, if_false] <;> omega

theorem sumZ_le {f : Nat → Int} {c : Int} : ∀ {n}, (∀ k, k < n → f k ≤ c) → sumZ f n ≤ n * c
  | 0, _ => by simp [sumZ]
  | n + 1, h => by
    have h1 := sumZ_le (n := n) fun k hk => h k (by omega)
    have h2 := h n (by omega)
    rw [sumZ]
    have e : ((n + 1 : Nat) : Int) * c = n * c + c := by rw [Int.natCast_add, Int.add_mul]; simp
    omega
theorem sumZ_ge {f : Nat → Int} {c : Int} : ∀ {n}, (∀ k, k < n → -c ≤ f k) → -(n * c) ≤ sumZ f n
  | 0, _ => by simp [sumZ]
  | n + 1, h => by
    have h1 := sumZ_ge (n := n) fun k hk => h k (by omega)
    have h2 := h n (by omega)
    rw [sumZ]
    have e : ((n + 1 : Nat) : Int) * c = n * c + c := by rw [Int.natCast_add, Int.add_mul]; simp
    omega

/-- There is an end to what can be sent. -/
theorem Sent.bound {N M : Nat} {s t : Nat} {X0 X : Nat → List Nat} {sum C : Nat} (h : Sent N M s t X0 X sum) (h0 : NetOk N M X0) (hc : ∀ i, i < M → leftX X0 i + leftX X0 (i ^^^ 1) ≤ C) (hst : s ≠ t) : sum ≤ M * C := by
  have hev := h.ok.even
  have cap : ∀ Y : Nat → List Nat, (∀ i, i < M → leftX Y i + leftX Y (i ^^^ 1) ≤ C) → ∀ u, outX M Y u ≤ (M / 2 : Nat) * (C : Int) ∧ -((M / 2 : Nat) * (C : Int)) ≤ outX M Y u := fun Y hY u => by
    have hk : ∀ k, k < M / 2 → leftX Y (2 * k + 1) ≤ C := fun k hk => by have := hY (2 * k + 1) (by omega); omega
    refine ⟨sumZ_le fun k hlt => ?_, sumZ_ge fun k hlt => ?_⟩
    · have := hk k hlt
      split <;> split <;> omega
    · have := hk k hlt
      split <;> split <;> omega
  have h1 := (cap X (fun i hi => by rw [h.sums i hi]; exact hc i hi) s).1
  have h2 := (cap X0 hc s).2
  have h3 := h.out s
  rw [if_pos rfl, if_neg (fun e => hst e.symm)] at h3
  have e : ((M * C : Nat) : Int) = (M / 2 : Nat) * (C : Int) + (M / 2 : Nat) * (C : Int) := by
    rw [← Int.add_mul, Int.natCast_mul]
    congr 1
    omega
  omega

end Go.Proofs.Ytfflnpcbpcldeaa
namespace Go.Proofs.Ytfflnpcbpcldeaa

theorem sumZ_zero {f : Nat → Int} : ∀ {n}, (∀ k, k < n → f k = 0) → sumZ f n = 0
  | 0, _ => rfl
  | n + 1, h => by rw [sumZ, sumZ_zero fun k hk => h k (by omega), h n (by omega)]; rfl
theorem sumZ_add (f g : Nat → Int) : ∀ n, sumZ (fun k => f k + g k) n = sumZ f n + sumZ g n
  | 0 => rfl
  | n + 1 => by rw [sumZ, sumZ, sumZ, sumZ_add f g n]; omega
theorem sumZ_swap (F : Nat → Nat → Int) (m : Nat) : ∀ n, sumZ (fun u => sumZ (F u) m) n = sumZ (fun k => sumZ (fun u => F u k) n) m
  | 0 => (sumZ_zero fun _ _ => rfl).symm
  | n + 1 => by
    rw [sumZ, sumZ_swap F m n, ← sumZ_add]
    exact sumZ_congr fun k _ => rfl
/-- One alone. -/
theorem sumZ_only {f : Nat → Int} {x : Nat} {n : Nat} (hx : x < n) (h : ∀ k, k < n → k ≠ x → f k = 0) : sumZ f n = f x := by
  have := sumZ_one (f := fun _ => 0) (g := f) (x := x) (d := f x) (n := n) hx (fun k hk hne => h k hk hne) (by simp)
  rw [this, sumZ_zero (fun _ _ => rfl)]
  omega

theorem sumZ_pick {lev : Nat → Int} {a N : Nat} (x : Int) (ha : a < N) : sumZ (fun u => if 0 ≤ lev u then (if a = u then x else 0) else 0) N = if 0 ≤ lev a then x else 0 := by
  rw [sumZ_only ha (fun k _ hne => by simp only [show ¬ a = k from fun e => hne e.symm, if_false]; split <;> rfl)]
  simp

theorem sumZ_reached {N M : Nat} {X : Nat → List Nat} (hX : NetOk N M X) (lev : Nat → Int) :
    sumZ (fun u => if 0 ≤ lev u then outX M X u else 0) N = sumZ (fun k => (if 0 ≤ lev (toX X (2 * k + 1)) then (leftX X (2 * k + 1) : Int) else 0) - (if 0 ≤ lev (toX X (2 * k)) then (leftX X (2 * k + 1) : Int) else 0)) (M / 2) := by
  have e1 : ∀ u, u < N → (if 0 ≤ lev u then outX M X u else 0) = sumZ (fun k => (if 0 ≤ lev u then (if toX X (2 * k + 1) = u then (leftX X (2 * k + 1) : Int) else 0) else 0) + -(if 0 ≤ lev u then (if toX X (2 * k) = u then (leftX X (2 * k + 1) : Int) else 0) else 0)) (M / 2) := fun u _ => by
    by_cases e : 0 ≤ lev u
    · simp only [if_pos e]
      unfold outX
      exact sumZ_congr fun k _ => by omega
    · simp only [if_neg e]
      exact (sumZ_zero fun _ _ => by simp).symm
  rw [sumZ_congr e1, sumZ_swap (fun u k => (if 0 ≤ lev u then (if toX X (2 * k + 1) = u then (leftX X (2 * k + 1) : Int) else 0) else 0) + -(if 0 ≤ lev u then (if toX X (2 * k) = u then (leftX X (2 * k + 1) : Int) else 0) else 0))]
  refine sumZ_congr fun k hk => ?_
  have hev := hX.even
  have neg : ∀ (f : Nat → Int) n, sumZ (fun u => -f u) n = -sumZ f n := fun f n => by
    induction n with
    | zero => rfl
    | succ n ih => rw [sumZ, sumZ, ih]; omega
  rw [sumZ_add, neg, sumZ_pick _ (hX.to_lt _ (by omega)), sumZ_pick _ (hX.to_lt _ (by omega))]
  omega

/-- What has been sent fills a cut. -/
theorem Sent.cut {N M : Nat} {s t : Nat} {X0 X : Nat → List Nat} {sum : Nat} {lev : Nat → Int} (h : Sent N M s t X0 X sum) (hl : LevOk N X s lev) (hlt : lev t < 0) (h00 : ∀ u, outX M X0 u = 0) (hs : s < N) :
    (sum : Int) = sumZ (fun k => if 0 ≤ lev (toX X (2 * k + 1)) ∧ lev (toX X (2 * k)) < 0 then ((leftX X (2 * k) + leftX X (2 * k + 1) : Nat) : Int) else 0) (M / 2) := by
  have hst : t ≠ s := fun e => by have := hl.src; subst e; omega
  have h1 : sumZ (fun u => if 0 ≤ lev u then outX M X u else 0) N = sum := by
    rw [sumZ_only hs (fun u _ hne => by
      by_cases e : 0 ≤ lev u
      · have hut : t ≠ u := fun e2 => by subst e2; omega
        rw [if_pos e, h.out u, h00, if_neg (fun e2 => hne e2.symm), if_neg hut]; rfl
      · rw [if_neg e])]
    rw [if_pos (by rw [hl.src]; omega), h.out s, h00, if_pos rfl, if_neg hst]
    omega
  rw [← h1, sumZ_reached h.ok]
  refine sumZ_congr fun k hk => ?_
  have hev := h.ok.even
  have i0 := h.ok.at_in (2 * k) (by omega)
  have i1 := h.ok.at_in (2 * k + 1) (by omega)
  rw [xor_one_even (i := 2 * k) rfl] at i0
  rw [xor_one_odd (i := 2 * k + 1) rfl] at i1
  have ha := h.ok.to_lt (2 * k + 1) (by omega)
  have hb := h.ok.to_lt (2 * k) (by omega)
  by_cases ra : 0 ≤ lev (toX X (2 * k + 1)) <;> by_cases rb : 0 ≤ lev (toX X (2 * k))
  · rw [if_pos ra, if_pos rb, if_neg (by omega)]; omega
  · have := hl.closed _ ha ra _ i0
    rw [if_pos ra, if_neg rb, if_pos (by omega)]
    have : leftX X (2 * k) = 0 := by omega
    omega
  · have := hl.closed _ hb rb _ i1
    rw [if_neg ra, if_pos rb, if_neg (by omega)]
    have : leftX X (2 * k + 1) = 0 := by omega
    omega
  · rw [if_neg ra, if_neg rb, if_neg (by omega)]; rfl

end Go.Proofs.Ytfflnpcbpcldeaa
