/- What a push along levels does: the plain law. No program in sight. -/
import Derived.Test.YtfflnpcbpcldeaaLev
namespace Go.Proofs.Ytfflnpcbpcldeaa

theorem xor_one_div (i : Nat) : (i ^^^ 1) / 2 = i / 2 := by rw [Nat.xor_div_two]; simp
theorem xor_one_mod (i : Nat) : (i ^^^ 1) % 2 = (i + 1) % 2 := by
  have h := @Nat.xor_mod_two_eq_one i 1
  omega
theorem xor_one_ne (i : Nat) : i ^^^ 1 ≠ i := fun e => by have := xor_one_mod i; rw [e] at this; omega
theorem xor_one_xor (i : Nat) : (i ^^^ 1) ^^^ 1 = i := by
  have h1 := xor_one_div i
  have h2 := xor_one_mod i
  have h3 := xor_one_div (i ^^^ 1)
  have h4 := xor_one_mod (i ^^^ 1)
  omega
theorem xor_one_even {i k : Nat} (h : i = 2 * k) : i ^^^ 1 = 2 * k + 1 := by
  have h1 := xor_one_div i
  have h2 := xor_one_mod i
  omega
theorem xor_one_odd {i k : Nat} (h : i = 2 * k + 1) : i ^^^ 1 = 2 * k := by
  have h1 := xor_one_div i
  have h2 := xor_one_mod i
  omega

theorem NetOk.even {N M : Nat} {X : Nat → List Nat} (h : NetOk N M X) : M % 2 = 0 := by
  by_cases e : M % 2 = 0
  · exact e
  · have h1 := h.xor_lt (M - 1) (by omega)
    have h2 := xor_one_even (i := M - 1) (k := M / 2) (by omega)
    omega

/-- A sum. -/
def sumZ (f : Nat → Int) : Nat → Int
  | 0 => 0
  | n + 1 => sumZ f n + f n
theorem sumZ_congr {f g : Nat → Int} : ∀ {n}, (∀ k, k < n → f k = g k) → sumZ f n = sumZ g n
  | 0, _ => rfl
  | n + 1, h => by rw [sumZ, sumZ, sumZ_congr fun k hk => h k (by omega), h n (by omega)]
theorem sumZ_one {f g : Nat → Int} {x : Nat} {d : Int} : ∀ {n}, x < n → (∀ k, k < n → k ≠ x → g k = f k) → g x = f x + d → sumZ g n = sumZ f n + d
  | n + 1, hx, h, hd => by
    rw [sumZ, sumZ]
    by_cases e : n = x
    · subst e
      rw [sumZ_congr (f := g) (g := f) fun k hk => h k (by omega) (by omega), hd]
      omega
    · rw [h n (by omega) e, sumZ_one (n := n) (by omega) (fun k hk => h k (by omega)) hd]
      omega

abbrev tailX (X : Nat → List Nat) (i : Nat) : Nat := toX X (i ^^^ 1)
/-- What flows out of node u, less what flows in. -/
def outX (M : Nat) (X : Nat → List Nat) (u : Nat) : Int :=
  sumZ (fun k => (if toX X (2 * k + 1) = u then (leftX X (2 * k + 1) : Int) else 0) - (if toX X (2 * k) = u then (leftX X (2 * k + 1) : Int) else 0)) (M / 2)

/-- n goes along pipe i. -/
def putL (X : Nat → List Nat) (i n : Nat) : Nat → List Nat := fun q => if q = 1 then ((X 1).set i (leftX X i - n)).set (i ^^^ 1) (leftX X (i ^^^ 1) + n) else X q

theorem getD_set (l : List Nat) (i j x : Nat) (hi : i < l.length) : (l.set i x).getD j 0 = if j = i then x else l.getD j 0 := by
  simp only [List.getD, List.getElem?_set]
  by_cases e : i = j
  · subst e; simp [hi]
  · rw [if_neg e, if_neg (fun h => e h.symm)]
theorem putL_left {N M : Nat} {X : Nat → List Nat} (hX : NetOk N M X) {i : Nat} (hi : i < M) (n j : Nat) : leftX (putL X i n) j = if j = i ^^^ 1 then leftX X (i ^^^ 1) + n else if j = i then leftX X i - n else leftX X j := by
  have h1 := hX.leftL
  have h2 := hX.xor_lt i hi
  unfold leftX putL
  simp only [if_true]
  rw [getD_set _ _ _ _ (by rw [List.length_set]; omega), getD_set _ _ _ _ (by omega)]
theorem putL_to (X : Nat → List Nat) (i n j : Nat) : toX (putL X i n) j = toX X j := rfl
theorem putL_ok {N M : Nat} {X : Nat → List Nat} (hX : NetOk N M X) (i n : Nat) : NetOk N M (putL X i n) where
  toL := hX.toL
  leftL := by show (((X 1).set i _).set _ _).length = M; rw [List.length_set, List.length_set]; exact hX.leftL
  to_lt := hX.to_lt
  at_lt v hv j hj := hX.at_lt v hv j (by simpa [putL] using hj)
  at_in j hj := by simpa [putL] using hX.at_in j hj
  xor_lt := hX.xor_lt
  small := hX.small
  at_len v hv := by simpa [putL] using hX.at_len v hv

theorem putL_out {N M : Nat} {X : Nat → List Nat} (hX : NetOk N M X) {i n : Nat} (hi : i < M) (hn : n ≤ leftX X i) (u : Nat) :
    outX M (putL X i n) u = outX M X u + ((if tailX X i = u then (n : Int) else 0) - (if toX X i = u then (n : Int) else 0)) := by
  have hx := hX.xor_lt i hi
  have hd := xor_one_div i
  unfold outX
  have hev := hX.even
  refine sumZ_one (x := i / 2) (by omega) (fun k hk hne => ?_) ?_
  · have e1 : 2 * k + 1 ≠ i ^^^ 1 := by omega
    have e2 : 2 * k + 1 ≠ i := by omega
    simp only [putL_to, putL_left hX hi, if_neg e1, if_neg e2]
  · simp only [putL_to, putL_left hX hi]
    rcases (show i = 2 * (i / 2) ∨ i = 2 * (i / 2) + 1 by omega) with e | e
    · have e3 := xor_one_even e
      have e4 : 2 * (i / 2) + 1 = i ^^^ 1 := e3.symm
      rw [e4, if_pos rfl, ← e]
      by_cases a : toX X (i ^^^ 1) = u <;> by_cases b : toX X i = u <;> simp only [tailX, a, b, if_true, if_false] <;> omega
    · have e3 := xor_one_odd e
      have e4 : 2 * (i / 2) + 1 ≠ i ^^^ 1 := by omega
      rw [if_neg e4, ← e, if_pos rfl, ← e3]
      by_cases a : toX X (i ^^^ 1) = u <;> by_cases b : toX X i = u <;> simp only [tailX, a, b, if_true, if_false] <;> omega

/-- n has gone from v to t, along nodes that lie no lower than v. -/
structure Aug (N M : Nat) (lev : Nat → Int) (t v n : Nat) (X X' : Nat → List Nat) : Prop where
  ok : NetOk N M X'
  same : ∀ q, q ≠ 1 → X' q = X q
  sum : ∀ i, i < M → leftX X' i + leftX X' (i ^^^ 1) = leftX X i + leftX X (i ^^^ 1)
  low : ∀ i, i < M → lev (tailX X i) < lev v → leftX X' i = leftX X i
  out : ∀ u, outX M X' u = outX M X u + ((if v = u then (n : Int) else 0) - (if t = u then (n : Int) else 0))

theorem Aug.refl {N M : Nat} {lev : Nat → Int} {t n : Nat} {X : Nat → List Nat} (h : NetOk N M X) : Aug N M lev t t n X X :=
  ⟨h, fun _ _ => rfl, fun _ _ => rfl, fun _ _ _ => rfl, fun u => by omega⟩

theorem Aug.step {N M : Nat} {lev : Nat → Int} {t v w n i : Nat} {X X' : Nat → List Nat} (hX : NetOk N M X) (hi : i < M) (ht : tailX X i = v) (hw : toX X i = w) (hl : lev w = lev v + 1) (hn : n ≤ leftX X i) (h : Aug N M lev t w n X X') :
    Aug N M lev t v n X (putL X' i n) ∧ leftX X' i = leftX X i := by
  have hto : ∀ j, toX X' j = toX X j := fun j => by show (X' 0).getD j 0 = _; rw [h.same 0 (by omega)]
  have hli : leftX X' i = leftX X i := h.low i hi (by rw [ht]; omega)
  have hx := hX.xor_lt i hi
  have hxx := xor_one_xor i
  have hne := xor_one_ne i
  refine ⟨⟨putL_ok h.ok i n, fun q hq => ?_, fun j hj => ?_, fun j hj hlow => ?_, fun u => ?_⟩, hli⟩
  · rw [← h.same q hq]; simp [putL, hq]
  · rw [← h.sum j hj, putL_left h.ok hi, putL_left h.ok hi]
    by_cases e1 : j = i
    · subst e1
      rw [if_neg (Ne.symm hne), if_pos rfl, if_pos rfl]
      omega
    · by_cases e2 : j = i ^^^ 1
      · rw [if_pos e2, e2, hxx, if_neg (Ne.symm hne), if_pos rfl]
        omega
      · have e3 : j ^^^ 1 ≠ i := fun e => e2 (by rw [← e, xor_one_xor])
        have e4 : j ^^^ 1 ≠ i ^^^ 1 := fun e => e1 (by rw [← xor_one_xor j, e, hxx])
        rw [if_neg e2, if_neg e1, if_neg e4, if_neg e3]
  · have e1 : j ≠ i := fun e => by subst e; rw [ht] at hlow; omega
    have e2 : j ≠ i ^^^ 1 := fun e => by
      subst e
      have : tailX X (i ^^^ 1) = w := by show toX X _ = w; rw [hxx]; exact hw
      rw [this] at hlow; omega
    rw [putL_left h.ok hi, if_neg e2, if_neg e1]
    exact h.low j hj (by omega)
  · rw [putL_out h.ok hi (by omega), h.out u]
    have e1 : tailX X' i = v := by show toX X' _ = v; rw [hto]; exact ht
    have e2 : toX X' i = w := by rw [hto]; exact hw
    rw [e1, e2]
    omega

/-- What lies behind is of no use. -/
def Dead (N : Nat) (X : Nat → List Nat) (lev : Nat → Int) (t : Nat) (nx : Nat → Nat) : Prop :=
  ∀ u, u < N → ∀ j, j < nx u → j < (X (u + 2)).length → leftX X ((X (u + 2)).getD j 0) = 0 ∨ lev (toX X ((X (u + 2)).getD j 0)) ≠ lev u + 1 ∨ (toX X ((X (u + 2)).getD j 0) ≠ t ∧ nx (toX X ((X (u + 2)).getD j 0)) = (X (toX X ((X (u + 2)).getD j 0) + 2)).length)

theorem Dead.start (N : Nat) (X : Nat → List Nat) (lev : Nat → Int) (t : Nat) : Dead N X lev t (fun _ => 0) := fun _ _ _ h => absurd h (Nat.not_lt_zero _)
/-- One further. -/
theorem Dead.next {N : Nat} {X : Nat → List Nat} {lev : Nat → Int} {t v : Nat} {nx : Nat → Nat} (h : Dead N X lev t nx) (hv : nx v < (X (v + 2)).length)
    (hu : leftX X ((X (v + 2)).getD (nx v) 0) = 0 ∨ lev (toX X ((X (v + 2)).getD (nx v) 0)) ≠ lev v + 1 ∨ (toX X ((X (v + 2)).getD (nx v) 0) ≠ t ∧ nx (toX X ((X (v + 2)).getD (nx v) 0)) = (X (toX X ((X (v + 2)).getD (nx v) 0) + 2)).length)) :
    Dead N X lev t (fun q => if q = v then nx v + 1 else nx q) := by
  have up : ∀ w, nx w = (X (w + 2)).length → (if w = v then nx v + 1 else nx w) = (X (w + 2)).length := fun w hw => by
    have : w ≠ v := fun e => by subst e; omega
    rw [if_neg this]; exact hw
  intro u hlt j hj hjl
  by_cases e : u = v
  · subst e
    simp only [if_true] at hj
    by_cases e2 : j = nx u
    · subst e2
      rcases hu with hu | hu | ⟨hu1, hu2⟩
      · exact Or.inl hu
      · exact Or.inr (Or.inl hu)
      · exact Or.inr (Or.inr ⟨hu1, up _ hu2⟩)
    · rcases h u hlt j (by omega) hjl with hu | hu | ⟨hu1, hu2⟩
      · exact Or.inl hu
      · exact Or.inr (Or.inl hu)
      · exact Or.inr (Or.inr ⟨hu1, up _ hu2⟩)
  · simp only [if_neg e] at hj
    rcases h u hlt j hj hjl with hu | hu | ⟨hu1, hu2⟩
    · exact Or.inl hu
    · exact Or.inr (Or.inl hu)
    · exact Or.inr (Or.inr ⟨hu1, up _ hu2⟩)

/-- A push that gives nothing, where nothing was looked at before: t is not reached. -/
theorem Dead.shut {N : Nat} {X : Nat → List Nat} {lev : Nat → Int} {s t : Nat} {nx : Nat → Nat} (hl : LevOk N X s lev) (h : Dead N X lev t nx) (hs : nx s = (X (s + 2)).length) (hst : s ≠ t) :
    ∀ k : Nat, ∀ v, v < N → lev v = k → v ≠ t ∧ nx v = (X (v + 2)).length := by
  intro k
  induction k with
  | zero =>
    intro v hv h0
    obtain rfl := hl.zero v hv (by omega)
    exact ⟨hst, hs⟩
  | succ k ih =>
    intro v hv h1
    obtain ⟨u, i, hu, hi, hto, hle, hlu, -⟩ := hl.pred v hv (by omega)
    obtain ⟨-, hd⟩ := ih u hu (by omega)
    obtain ⟨j, hj, rfl⟩ := List.mem_iff_getElem.1 hi
    have e : (X (u + 2)).getD j 0 = (X (u + 2))[j] := by simp [List.getD, hj]
    have := h u hu j (by omega) hj
    rw [e, hto] at this
    rcases this with a | a | a
    · omega
    · omega
    · exact a

end Go.Proofs.Ytfflnpcbpcldeaa
