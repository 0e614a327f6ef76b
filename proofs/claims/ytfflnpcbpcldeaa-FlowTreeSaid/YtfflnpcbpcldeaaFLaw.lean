/- What flow.Most answers: the plain law. No program in sight. -/
import Derived.Test.YtfflnpcbpcldeaaFlowM
namespace Go.Proofs.Ytfflnpcbpcldeaa

theorem LevOk.reach {N : Nat} {X : Nat → List Nat} {s : Nat} {lev lev' : Nat → Int} (h : LevOk N X s lev) (h' : LevOk N X s lev') : ∀ (n v : Nat), v < N → lev v = n → 0 ≤ lev' v := by
  intro n
  induction n with
  | zero =>
    intro v hv e
    obtain rfl := h.zero v hv e
    rw [h'.src]; omega
  | succ n ih =>
    intro v hv e
    obtain ⟨u, i, hu, hi, rfl, hl, h1, h2⟩ := h.pred v hv (by omega)
    exact h'.closed u hu (ih u hu (by omega)) i hi hl
theorem LevOk.shut {N : Nat} {X : Nat → List Nat} {s t : Nat} {lev lev' : Nat → Int} (h : LevOk N X s lev) (h' : LevOk N X s lev') (ht : t < N) (hl : lev t < 0) : lev' t < 0 := by
  rcases Int.lt_or_le (lev' t) 0 with e | e
  · exact e
  · have := h'.reach h (lev' t).toNat t ht (by omega)
    omega

section
variable {l : List (Int × Int × Int)} {N : Nat}
/-- Where an arc comes from, where it goes to, what it holds. -/
abbrev fromL (l : List (Int × Int × Int)) (k : Nat) : Nat := (l.getD k (0, 0, 0)).1.toNat
abbrev toL (l : List (Int × Int × Int)) (k : Nat) : Nat := (l.getD k (0, 0, 0)).2.1.toNat
abbrev capL (l : List (Int × Int × Int)) (k : Nat) : Nat := (l.getD k (0, 0, 0)).2.2.toNat

theorem net_whole (l : List (Int × Int × Int)) : NetAt l l.length (netX l) := by
  have h := netAt l l.length (Nat.le_refl _)
  rwa [List.take_length] at h
theorem net_caps {k : Nat} (hk : k < l.length) : leftX (netX l) (2 * k) + leftX (netX l) (2 * k + 1) = capL l k := by
  obtain ⟨-, -, h1, h2⟩ := (net_whole l).arc k hk
  rw [h1, h2]
  rfl
theorem net_few (hok : ∀ j, j < l.length → ArcOk N (l.getD j (0, 0, 0))) : ∀ i, i < 2 * l.length → leftX (netX l) i + leftX (netX l) (i ^^^ 1) ≤ 1000000 := fun i hi => by
  have h := net_caps (l := l) (k := i / 2) (by omega)
  obtain ⟨-, -, -, -, -, o6⟩ := hok (i / 2) (by omega)
  have hc : capL l (i / 2) ≤ 1000000 := by show (l.getD (i / 2) (0, 0, 0)).2.2.toNat ≤ 1000000; omega
  rcases (show i = 2 * (i / 2) ∨ i = 2 * (i / 2) + 1 by omega) with e | e
  · have e' : leftX (netX l) i = leftX (netX l) (2 * (i / 2)) := by rw [← e]
    rw [xor_one_even e, e']
    omega
  · have e' : leftX (netX l) i = leftX (netX l) (2 * (i / 2) + 1) := by rw [← e]
    rw [xor_one_odd e, e']
    omega
theorem net_out0 (u : Nat) : outX (2 * l.length) (netX l) u = 0 := by
  refine sumZ_zero fun k hk => ?_
  obtain ⟨-, -, -, h2⟩ := (net_whole l).arc k (by omega)
  rw [h2]
  simp

/-- What flows out of u, less what flows in, along the first k arcs. -/
def outL (l : List (Int × Int × Int)) (fl : Nat → Nat) (u k : Nat) : Int := sumZ (fun j => (if fromL l j = u then (fl j : Int) else 0) - (if toL l j = u then (fl j : Int) else 0)) k
/-- What the first k arcs hold that lead over the cut. -/
def cutL (l : List (Int × Int × Int)) (lev : Nat → Int) (k : Nat) : Int := sumZ (fun j => if 0 ≤ lev (fromL l j) ∧ lev (toL l j) < 0 then (capL l j : Int) else 0) k

/-- All that the law asks of flow.Most's answer. -/
structure MostLaw (N : Nat) (l : List (Int × Int × Int)) (s t sum : Nat) (fl : Nat → Nat) (lev : Nat → Int) : Prop where
  le : ∀ k, k < l.length → fl k ≤ capL l k
  out : ∀ u, outL l fl u l.length = (if s = u then (sum : Int) else 0) - (if t = u then (sum : Int) else 0)
  cut : cutL l lev l.length = sum
  src : 0 ≤ lev s
  snk : lev t < 0

theorem MostOk.law {s t sum : Nat} {X : Nat → List Nat} {lev : Nat → Int} (h : MostOk N (2 * l.length) l s t sum X lev) (hs : s < N) : MostLaw N l s t sum (fun k => leftX X (2 * k + 1)) lev := by
  obtain ⟨hS, hl, ht⟩ := h
  have hto : ∀ i, toX X i = toX (netX l) i := fun i => by show (X 0).getD i 0 = _; rw [hS.same 0 (by omega)]
  have hcap : ∀ k, k < l.length → leftX X (2 * k) + leftX X (2 * k + 1) = capL l k := fun k hk => by
    have := hS.sums (2 * k) (by omega)
    rw [xor_one_even (i := 2 * k) rfl] at this
    rw [this, net_caps hk]
  have hM : 2 * l.length / 2 = l.length := by omega
  refine ⟨fun k hk => by have := hcap k hk; omega, fun u => ?_, ?_, by rw [hl.src]; omega, ht⟩
  · have h1 := hS.out u
    rw [net_out0] at h1
    rw [show (if s = u then (sum : Int) else 0) - (if t = u then (sum : Int) else 0) = outX (2 * l.length) X u by omega]
    unfold outX outL
    rw [hM]
    refine sumZ_congr fun k hk => ?_
    obtain ⟨a1, a2, -⟩ := (net_whole l).arc k hk
    rw [hto, hto, a1, a2]
  · have h1 := hS.cut hl ht net_out0 hs
    rw [h1, hM]
    refine sumZ_congr fun k hk => ?_
    obtain ⟨a1, a2, -⟩ := (net_whole l).arc k hk
    rw [hto, hto, a1, a2, hcap k hk]
end

/-- The document's example. -/
theorem most_begun {sum : Nat} {X : Nat → List Nat} {lev : Nat → Int} (h : MostOk 3 4 [(0, 1, 3), (1, 2, 2)] 0 2 sum X lev) : sum = 2 := by
  have hl := MostOk.law (l := [(0, 1, 3), (1, 2, 2)]) h (by omega)
  have h1 := hl.le 1 (by simp)
  have h2 := hl.out 2
  have h3 := hl.cut
  have h4 := hl.src
  have h5 := hl.snk
  simp [outL, cutL, sumZ, fromL, toL, capL] at h1 h2 h3
  by_cases e : 0 ≤ lev 1
  · simp [e, h4, h5] at h3
    split at h3 <;> omega
  · simp [e, h4] at h3
    omega

end Go.Proofs.Ytfflnpcbpcldeaa
