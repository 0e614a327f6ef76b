/- The pipes of a net are as they must be: the plain law. flow.Most. What flow.Most answers: the plain law. No program in sight. -/
import Derived.Test.YtfflnpcbpcldeaaBuild
import Derived.Test.YtfflnpcbpcldeaaP1
import Derived.Test.YtfflnpcbpcldeaaFMost
import Derived.Test.YtfflnpcbpcldeaaSide
import Derived.Test.YtfflnpcbpcldeaaEnds
namespace Go.Proofs.Ytfflnpcbpcldeaa

theorem addX_zero (X : Nat → List Nat) (u v c : Nat) : addX X u v c 0 = X 0 ++ [v, u] := by simp [addX, upX]
theorem addX_one (X : Nat → List Nat) (u v c : Nat) : addX X u v c 1 = X 1 ++ [c, 0] := by simp [addX, upX]
theorem addX_at (X : Nat → List Nat) (u v c q i : Nat) : i ∈ addX X u v c (q + 2) ↔ i ∈ X (q + 2) ∨ (q = u ∧ i = (X 0).length) ∨ (q = v ∧ i = (X 0).length + 1) := by
  unfold addX upX
  by_cases e1 : q = u <;> by_cases e2 : q = v <;> simp [e1, e2]
  all_goals (try subst e1) <;> (try subst e2) <;> simp_all

theorem getD_app_old (l m : List Nat) (j : Nat) (h : j < l.length) : (l ++ m).getD j 0 = l.getD j 0 := by
  rw [List.getD, List.getD, List.getElem?_append_left h]
theorem getD_app_0 (l : List Nat) (x y : Nat) : (l ++ [x, y]).getD l.length 0 = x := by simp [List.getD]
theorem getD_app_1 (l : List Nat) (x y : Nat) : (l ++ [x, y]).getD (l.length + 1) 0 = y := by
  rw [List.getD, List.getElem?_append_right (by omega)]; simp

/-- The pipes of the first k arcs. -/
structure NetAt (l : List (Int × Int × Int)) (k : Nat) (X : Nat → List Nat) : Prop where
  len0 : (X 0).length = 2 * k
  len1 : (X 1).length = 2 * k
  arc : ∀ j, j < k → toX X (2 * j) = (l.getD j (0, 0, 0)).2.1.toNat ∧ toX X (2 * j + 1) = (l.getD j (0, 0, 0)).1.toNat ∧ leftX X (2 * j) = (l.getD j (0, 0, 0)).2.2.toNat ∧ leftX X (2 * j + 1) = 0
  at_iff : ∀ v i, i ∈ X (v + 2) ↔ i < 2 * k ∧ tailX X i = v

theorem netAt (l : List (Int × Int × Int)) : ∀ k, k ≤ l.length → NetAt l k (netX (l.take k)) := by
  intro k
  induction k with
  | zero =>
    intro _
    exact ⟨rfl, rfl, fun j hj => absurd hj (Nat.not_lt_zero _), fun v i => ⟨fun h => by simp [netX] at h, fun h => by omega⟩⟩
  | succ k ih =>
    intro hk
    have h := ih (by omega)
    obtain ⟨x, y, z, he⟩ : ∃ x y z, l.getD k (0, 0, 0) = (x, y, z) := ⟨_, _, _, rfl⟩
    rw [netX_succ (by omega) he]
    generalize netX (l.take k) = X at h ⊢
    have t0 : ∀ j, j < 2 * k → toX (addX X x.toNat y.toNat z.toNat) j = toX X j := fun j hj => by
      show (addX X _ _ _ 0).getD j 0 = _
      rw [addX_zero, getD_app_old _ _ _ (by rw [h.len0]; exact hj)]
    have l0 : ∀ j, j < 2 * k → leftX (addX X x.toNat y.toNat z.toNat) j = leftX X j := fun j hj => by
      show (addX X _ _ _ 1).getD j 0 = _
      rw [addX_one, getD_app_old _ _ _ (by rw [h.len1]; exact hj)]
    have t1 : toX (addX X x.toNat y.toNat z.toNat) (2 * k) = y.toNat := by
      show (addX X _ _ _ 0).getD _ 0 = _
      rw [addX_zero, ← h.len0, getD_app_0]
    have t2 : toX (addX X x.toNat y.toNat z.toNat) (2 * k + 1) = x.toNat := by
      show (addX X _ _ _ 0).getD _ 0 = _
      rw [addX_zero, ← h.len0, getD_app_1]
    have l1 : leftX (addX X x.toNat y.toNat z.toNat) (2 * k) = z.toNat := by
      show (addX X _ _ _ 1).getD _ 0 = _
      rw [addX_one, ← h.len1, getD_app_0]
    have l2 : leftX (addX X x.toNat y.toNat z.toNat) (2 * k + 1) = 0 := by
      show (addX X _ _ _ 1).getD _ 0 = _
      rw [addX_one, ← h.len1, getD_app_1]
    refine ⟨by rw [addX_zero, List.length_append, h.len0]; simp; omega, by rw [addX_one, List.length_append, h.len1]; simp; omega, fun j hj => ?_, fun v i => ?_⟩
    · by_cases e : j = k
      · subst e; rw [he]; exact ⟨t1, t2, l1, l2⟩
      · obtain ⟨a1, a2, a3, a4⟩ := h.arc j (by omega)
        exact ⟨(t0 _ (by omega)).trans a1, (t0 _ (by omega)).trans a2, (l0 _ (by omega)).trans a3, (l0 _ (by omega)).trans a4⟩
    · rw [addX_at, h.at_iff, h.len0]
      have hd := xor_one_div i
      have hm := xor_one_mod i
      rcases (show i < 2 * k ∨ i = 2 * k ∨ i = 2 * k + 1 ∨ 2 * k + 2 ≤ i by omega) with e | e | e | e
      · rw [show tailX (addX X x.toNat y.toNat z.toNat) i = tailX X i from t0 _ (by omega)]
        constructor
        · rintro (⟨a, b⟩ | ⟨-, b⟩ | ⟨-, b⟩)
          · exact ⟨by omega, b⟩
          · omega
          · omega
        · rintro ⟨-, b⟩; exact Or.inl ⟨e, b⟩
      · rw [show tailX (addX X x.toNat y.toNat z.toNat) i = x.toNat by show toX _ (i ^^^ 1) = _; rw [xor_one_even e]; exact t2]
        constructor
        · rintro (⟨a, b⟩ | ⟨a, b⟩ | ⟨a, b⟩)
          · omega
          · exact ⟨by omega, a.symm⟩
          · omega
        · rintro ⟨-, b⟩; exact Or.inr (Or.inl ⟨b.symm, e⟩)
      · rw [show tailX (addX X x.toNat y.toNat z.toNat) i = y.toNat by show toX _ (i ^^^ 1) = _; rw [xor_one_odd e]; exact t1]
        constructor
        · rintro (⟨a, b⟩ | ⟨a, b⟩ | ⟨a, b⟩)
          · omega
          · omega
          · exact ⟨by omega, a.symm⟩
        · rintro ⟨-, b⟩; exact Or.inr (Or.inr ⟨b.symm, e⟩)
      · constructor
        · rintro (⟨a, b⟩ | ⟨a, b⟩ | ⟨a, b⟩) <;> omega
        · rintro ⟨a, b⟩; omega

theorem netOk {l : List (Int × Int × Int)} {N : Nat} (hN : N ≤ 1000) (hl : l.length ≤ 5000) (hok : ∀ j, j < l.length → ArcOk N (l.getD j (0, 0, 0))) : NetOk N (2 * l.length) (netX l) := by
  have h := netAt l l.length (Nat.le_refl _)
  rw [List.take_length] at h
  refine ⟨h.len0, h.len1, fun i hi => ?_, fun v _ i hi => (h.at_iff v i).1 hi, fun i hi => (h.at_iff _ i).2 ⟨hi, rfl⟩, fun i hi => ?_, ⟨hN, by omega⟩, fun v _ => ?_⟩
  · obtain ⟨a1, a2, -⟩ := h.arc (i / 2) (by omega)
    obtain ⟨o1, o2, o3, o4, -⟩ := hok (i / 2) (by omega)
    rcases (show i = 2 * (i / 2) ∨ i = 2 * (i / 2) + 1 by omega) with e | e
    · rw [e, a1]; omega
    · rw [e, a2]; omega
  · have hd := xor_one_div i
    omega
  · have := netX_length l (v + 2)
    omega

end Go.Proofs.Ytfflnpcbpcldeaa
namespace Go.Proofs.Ytfflnpcbpcldeaa
open Go.RowKit

/-- What is wrong with a net and two nodes. -/
def MostSpec (n : Int) (l : List (Int × Int × Int)) (s t : Int) (c a : Int) : Prop := (NetSpec n l c a ∧ c ≠ 0) ∨ (NetSpec n l 0 0 ∧ EndsSpec n s t c a)
theorem NetSpec.zero {n : Int} {l : List (Int × Int × Int)} {a : Int} (h : NetSpec n l 0 a) : a = 0 ∧ ¬ NetBig n l ∧ ∀ j, j < l.length → ArcOk n (l.getD j (0, 0, 0)) := by
  rcases h with ⟨-, h, -⟩ | ⟨h1, ⟨i, -, -, -, h, -⟩ | ⟨h2, -, h3⟩⟩
  · omega
  · omega
  · exact ⟨h3, h1, h2⟩
theorem MostSpec.uniq {n : Int} {l : List (Int × Int × Int)} {s t c a c' a' : Int} (h : MostSpec n l s t c a) (h' : MostSpec n l s t c' a') : c = c' ∧ a = a' := by
  rcases h with ⟨h1, h2⟩ | ⟨h1, h2⟩ <;> rcases h' with ⟨h1', h2'⟩ | ⟨h1', h2'⟩
  · exact h1.uniq h1'
  · exact absurd (h1.uniq h1').1 h2
  · exact absurd (h1'.uniq h1).1 h2'
  · exact h2.uniq h2'

/-- What flow.Most answers where all is well. -/
def MostOk (N M : Nat) (l : List (Int × Int × Int)) (s t sum : Nat) (X : Nat → List Nat) (lev : Nat → Int) : Prop := Sent N M s t (netX l) X sum ∧ LevOk N X s lev ∧ lev t < 0
/-- The flows. -/
def flowsL (X : Nat → List Nat) (k : Nat) : List Nat := (List.range k).map fun j => leftX X (2 * j + 1)
theorem flowsL_succ (X : Nat → List Nat) (k : Nat) : flowsL X (k + 1) = flowsL X k ++ [leftX X (2 * k + 1)] := by
  unfold flowsL
  rw [List.range_succ, List.map_append]
  rfl
theorem flowsL_length (X : Nat → List Nat) (k : Nat) : (flowsL X k).length = k := by simp [flowsL]

/-- flow.Most comes back. -/
def FlowPost (n : Int) (l : List (Int × Int × Int)) (s t : Int) (w : World) (e : Ending) (w' : World) : Prop :=
  ∃ c a v fv sv, e = .returned (.tuple #[v, fv, sv, .agg #[.int .i64 c, .int .i64 a]]) ∧ MostSpec n l s t c a ∧ Below w.heap.size w w' ∧
    ((c ≠ 0 ∧ v = .int .i64 0 ∧ fv = .slice none 0 0 ∧ sv = .slice none 0 0) ∨
     (c = 0 ∧ a = 0 ∧ ∃ (N s' t' sum : Nat) (X : Nat → List Nat) (lev : Nat → Int), n = N ∧ s = s' ∧ t = t' ∧ v = .int .i64 (sum : Int) ∧ MostOk N (2 * l.length) l s' t' sum X lev ∧
        w'.ownsRow w.heap.size 3 1 fv l.length ((ints (flowsL X l.length)).map (Value.int .i64)) ∧ w'.ownsRow w.heap.size 3 1 sv (sideL lev N).length ((ints (sideL lev N)).map (Value.int .i64))))

/-- The result's fault cell holds c, a. -/
structure NRes (w wr : World) (A B : Nat) (n : Int) (v : Value) (c a : Int) : Prop where
  hb : Below w.heap.size w wr
  cn : wr.cell? ⟨A, 0, none⟩ = some (.int .i64 n)
  cs : wr.cell? ⟨A, 1, none⟩ = some v
  hf : wr.rowIs B 27 2 (fun i => if i = 0 then .int .i64 c else .int .i64 a)
  hB : w.heap.size ≤ B
  hA : A < B
section
variable {w wr w' : World} {A B : Nat} {n : Int} {v : Value} {c a : Int}
theorem GRes.toN (h : GRes w wr A B n v) (c a : Int) : NRes w ((wr.setCell ⟨B, 0, none⟩ (.int .i64 c)).setCell ⟨B, 1, none⟩ (.int .i64 a)) A B n v c a where
  hb := (h.hb.setCell h.hB _).setCell h.hB _
  cn := by
    have := h.hA
    rw [World.cell?_setCell_far _ _ _ _ (by show B ≠ A; omega), World.cell?_setCell_far _ _ _ _ (by show B ≠ A; omega)]; exact h.cn
  cs := by
    have := h.hA
    rw [World.cell?_setCell_far _ _ _ _ (by show B ≠ A; omega), World.cell?_setCell_far _ _ _ _ (by show B ≠ A; omega)]; exact h.cs
  hf := ((h.hz.set 0 (.int .i64 c)).set 1 (.int .i64 a)).congr fun i hi => by
    match i, hi with
    | 0, _ => rfl
    | 1, _ => rfl
  hB := h.hB
  hA := h.hA
theorem NRes.put (h : NRes w wr A B n v c a) (c' a' : Int) : NRes w ((wr.setCell ⟨B, 0, none⟩ (.int .i64 c')).setCell ⟨B, 1, none⟩ (.int .i64 a')) A B n v c' a' where
  hb := (h.hb.setCell h.hB _).setCell h.hB _
  cn := by
    have := h.hA
    rw [World.cell?_setCell_far _ _ _ _ (by show B ≠ A; omega), World.cell?_setCell_far _ _ _ _ (by show B ≠ A; omega)]; exact h.cn
  cs := by
    have := h.hA
    rw [World.cell?_setCell_far _ _ _ _ (by show B ≠ A; omega), World.cell?_setCell_far _ _ _ _ (by show B ≠ A; omega)]; exact h.cs
  hf := ((h.hf.set 0 (.int .i64 c')).set 1 (.int .i64 a')).congr fun i hi => by
    match i, hi with
    | 0, _ => rfl
    | 1, _ => rfl
  hB := h.hB
  hA := h.hA
theorem NRes.below (h : NRes w wr A B n v c a) (hb : Below wr.heap.size wr w') : NRes w w' A B n v c a :=
  ⟨h.hb.trans (hb.mono h.hb.size), below_cell hb h.cn, below_cell hb h.cs, h.hf.of_block (hb.block _ h.hf.lt), h.hB, h.hA⟩
theorem NRes.drew (h : NRes w wr A B n v c a) : NRes w wr.drew A B n v c a := h.below (Below.refl _ _).drew
theorem NRes.f0 (h : NRes w wr A B n v c a) : wr.cell? ⟨B, 0, none⟩ = some (.int .i64 c) := by rw [h.hf.cell (show 0 < 2 by omega)]; rfl
theorem NRes.f1 (h : NRes w wr A B n v c a) : wr.cell? ⟨B, 1, none⟩ = some (.int .i64 a) := by rw [h.hf.cell (show 1 < 2 by omega)]; rfl
end

end Go.Proofs.Ytfflnpcbpcldeaa
namespace Go.Proofs.Ytfflnpcbpcldeaa

theorem LevOk.reach {N : Nat} {X : Nat → List Nat} {s : Nat} {lev lev' : Nat → Int} (h : LevOk N X s lev) (h' : LevOk N X s lev') : ∀ (n v : Nat), v < N → lev v = n → 0 ≤ lev' v := by
  intro n
  induction n with
  | zero =>
    intro v hv e
    obtain rfl := h.zero v hv e
    rw [h'.src]; omega
  | succ n ih =>
    intro v hv e
    obtain ⟨u, i, hu, hi, rfl, hl, h1, h2⟩ := h.pred v hv (by omega)
    exact h'.closed u hu (ih u hu (by omega)) i hi hl
theorem LevOk.shut {N : Nat} {X : Nat → List Nat} {s t : Nat} {lev lev' : Nat → Int} (h : LevOk N X s lev) (h' : LevOk N X s lev') (ht : t < N) (hl : lev t < 0) : lev' t < 0 := by
  rcases Int.lt_or_le (lev' t) 0 with e | e
  · exact e
  · have := h'.reach h (lev' t).toNat t ht (by omega)
    omega

section
variable {l : List (Int × Int × Int)} {N : Nat}
/-- Where an arc comes from, where it goes to, what it holds. -/
abbrev fromL (l : List (Int × Int × Int)) (k : Nat) : Nat := (l.getD k (0, 0, 0)).1.toNat
abbrev toL (l : List (Int × Int × Int)) (k : Nat) : Nat := (l.getD k (0, 0, 0)).2.1.toNat
abbrev capL (l : List (Int × Int × Int)) (k : Nat) : Nat := (l.getD k (0, 0, 0)).2.2.toNat

theorem net_whole (l : List (Int × Int × Int)) : NetAt l l.length (netX l) := by
  have h := netAt l l.length (Nat.le_refl _)
  rwa [List.take_length] at h
theorem net_caps {k : Nat} (hk : k < l.length) : leftX (netX l) (2 * k) + leftX (netX l) (2 * k + 1) = capL l k := by
  obtain ⟨-, -, h1, h2⟩ := (net_whole l).arc k hk
  rw [h1, h2]
  rfl
theorem net_few (hok : ∀ j, j < l.length → ArcOk N (l.getD j (0, 0, 0))) : ∀ i, i < 2 * l.length → leftX (netX l) i + leftX (netX l) (i ^^^ 1) ≤ 1000000 := fun i hi => by
  have h := net_caps (l := l) (k := i / 2) (by omega)
  obtain ⟨-, -, -, -, -, o6⟩ := hok (i / 2) (by omega)
  have hc : capL l (i / 2) ≤ 1000000 := by show (l.getD (i / 2) (0, 0, 0)).2.2.toNat ≤ 1000000; omega
  rcases (show i = 2 * (i / 2) ∨ i = 2 * (i / 2) + 1 by omega) with e | e
  · have e' : leftX (netX l) i = leftX (netX l) (2 * (i / 2)) := by rw [← e]
    rw [xor_one_even e, e']
    omega
  · have e' : leftX (netX l) i = leftX (netX l) (2 * (i / 2) + 1) := by rw [← e]
    rw [xor_one_odd e, e']
    omega
theorem net_out0 (u : Nat) : outX (2 * l.length) (netX l) u = 0 := by
  refine sumZ_zero fun k hk => ?_
  obtain ⟨-, -, -, h2⟩ := (net_whole l).arc k (by omega)
  rw [h2]
  simp

/-- What flows out of u, less what flows in, along the first k arcs. -/
def outL (l : List (Int × Int × Int)) (fl : Nat → Nat) (u k : Nat) : Int := sumZ (fun j => (if fromL l j = u then (fl j : Int) else 0) - (if toL l j = u then (fl j : Int) else 0)) k
/-- What the first k arcs hold that lead over the cut. -/
def cutL (l : List (Int × Int × Int)) (lev : Nat → Int) (k : Nat) : Int := sumZ (fun j => if 0 ≤ lev (fromL l j) ∧ lev (toL l j) < 0 then (capL l j : Int) else 0) k

/-- All that the law asks of flow.Most's answer. -/
structure MostLaw (N : Nat) (l : List (Int × Int × Int)) (s t sum : Nat) (fl : Nat → Nat) (lev : Nat → Int) : Prop where
  le : ∀ k, k < l.length → fl k ≤ capL l k
  out : ∀ u, outL l fl u l.length = (if s = u then (sum : Int) else 0) - (if t = u then (sum : Int) else 0)
  cut : cutL l lev l.length = sum
  src : 0 ≤ lev s
  snk : lev t < 0

theorem MostOk.law {s t sum : Nat} {X : Nat → List Nat} {lev : Nat → Int} (h : MostOk N (2 * l.length) l s t sum X lev) (hs : s < N) : MostLaw N l s t sum (fun k => leftX X (2 * k + 1)) lev := by
  obtain ⟨hS, hl, ht⟩ := h
  have hto : ∀ i, toX X i = toX (netX l) i := fun i => by show (X 0).getD i 0 = _; rw [hS.same 0 (by omega)]
  have hcap : ∀ k, k < l.length → leftX X (2 * k) + leftX X (2 * k + 1) = capL l k := fun k hk => by
    have := hS.sums (2 * k) (by omega)
    rw [xor_one_even (i := 2 * k) rfl] at this
    rw [this, net_caps hk]
  have hM : 2 * l.length / 2 = l.length := by omega
  refine ⟨fun k hk => by have := hcap k hk; omega, fun u => ?_, ?_, by rw [hl.src]; omega, ht⟩
  · have h1 := hS.out u
    rw [net_out0] at h1
    rw [show (if s = u then (sum : Int) else 0) - (if t = u then (sum : Int) else 0) = outX (2 * l.length) X u by omega]
    unfold outX outL
    rw [hM]
    refine sumZ_congr fun k hk => ?_
    obtain ⟨a1, a2, -⟩ := (net_whole l).arc k hk
    rw [hto, hto, a1, a2]
  · have h1 := hS.cut hl ht net_out0 hs
    rw [h1, hM]
    refine sumZ_congr fun k hk => ?_
    obtain ⟨a1, a2, -⟩ := (net_whole l).arc k hk
    rw [hto, hto, a1, a2, hcap k hk]
end

/-- The document's example. -/
theorem most_begun {sum : Nat} {X : Nat → List Nat} {lev : Nat → Int} (h : MostOk 3 4 [(0, 1, 3), (1, 2, 2)] 0 2 sum X lev) : sum = 2 := by
  have hl := MostOk.law (l := [(0, 1, 3), (1, 2, 2)]) h (by omega)
  have h1 := hl.le 1 (by simp)
  have h2 := hl.out 2
  have h3 := hl.cut
  have h4 := hl.src
  have h5 := hl.snk
  simp [outL, cutL, sumZ, fromL, toL, capL] at h1 h2 h3
  by_cases e : 0 ≤ lev 1
  · simp [e, h4, h5] at h3
    split at h3 <;> omega
  · simp [e, h4] at h3
    omega

end Go.Proofs.Ytfflnpcbpcldeaa
