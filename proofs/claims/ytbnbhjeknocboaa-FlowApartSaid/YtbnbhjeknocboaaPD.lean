/- The pipes of a net are as they must be: the plain law. flow.Most. What flow.Most answers: the plain law. No program in sight. Ways along arcs that carry a flow: the plain law. No program in sight. What lies between two visits of a node is left away: the plain law. No program in sight. Flows along edges, both ways, and the least cuts: the plain law. No program in sight. Edges in form: normed and in order they are the table's pairs. No program in sight. Counting a graph: how many each node sees; pairs of edges that share a node. No program in sight. MENGER: ways that share no node: the plain law. No program in sight. MENGER, ways that share no edge: the plain law of flow.Apart. No program in sight. arborlaw.FlowApart: the plain law. No program in sight. -/
import Derived.Test.YtbnbhjeknocboaaBuild
import Derived.Test.YtbnbhjeknocboaaPA
import Derived.Test.YtbnbhjeknocboaaFMost
import Derived.Test.YtbnbhjeknocboaaSide
import Derived.Test.YtbnbhjeknocboaaEnds
import Derived.Test.YtbnbhjeknocboaaFBoth
import Derived.Test.YtbnbhjeknocboaaCompl
import Derived.Test.YtbnbhjeknocboaaReach
namespace Go.Proofs.Ytbnbhjeknocboaa

theorem addX_zero (X : Nat → List Nat) (u v c : Nat) : addX X u v c 0 = X 0 ++ [v, u] := by simp [addX, upX]
theorem addX_one (X : Nat → List Nat) (u v c : Nat) : addX X u v c 1 = X 1 ++ [c, 0] := by simp [addX, upX]
theorem addX_at (X : Nat → List Nat) (u v c q i : Nat) : i ∈ addX X u v c (q + 2) ↔ i ∈ X (q + 2) ∨ (q = u ∧ i = (X 0).length) ∨ (q = v ∧ i = (X 0).length + 1) := by
  unfold addX upX
  by_cases e1 : q = u <;> by_cases e2 : q = v <;> simp [e1, e2]
  all_goals (try subst e1) <;> (try subst e2) <;> simp_all

theorem getD_app_old (l m : List Nat) (j : Nat) (h : j < l.length) : (l ++ m).getD j 0 = l.getD j 0 := by
  rw [List.getD, List.getD, List.getElem?_append_left h]
theorem getD_app_0 (l : List Nat) (x y : Nat) : (l ++ [x, y]).getD l.length 0 = x := by simp [List.getD]
theorem getD_app_1 (l : List Nat) (x y : Nat) : (l ++ [x, y]).getD (l.length + 1) 0 = y := by
  rw [List.getD, List.getElem?_append_right (by omega)]; simp

/-- The pipes of the first k arcs. -/
structure NetAt (l : List (Int × Int × Int)) (k : Nat) (X : Nat → List Nat) : Prop where
  len0 : (X 0).length = 2 * k
  len1 : (X 1).length = 2 * k
  arc : ∀ j, j < k → toX X (2 * j) = (l.getD j (0, 0, 0)).2.1.toNat ∧ toX X (2 * j + 1) = (l.getD j (0, 0, 0)).1.toNat ∧ leftX X (2 * j) = (l.getD j (0, 0, 0)).2.2.toNat ∧ leftX X (2 * j + 1) = 0
  at_iff : ∀ v i, i ∈ X (v + 2) ↔ i < 2 * k ∧ tailX X i = v

theorem netAt (l : List (Int × Int × Int)) : ∀ k, k ≤ l.length → NetAt l k (netX (l.take k)) := by
  intro k
  induction k with
  | zero =>
    intro _
    exact ⟨rfl, rfl, fun j hj => absurd hj (Nat.not_lt_zero _), fun v i => ⟨fun h => by simp [netX] at h, fun h => by omega⟩⟩
  | succ k ih =>
    intro hk
    have h := ih (by omega)
    obtain ⟨x, y, z, he⟩ : ∃ x y z, l.getD k (0, 0, 0) = (x, y, z) := ⟨_, _, _, rfl⟩
    rw [netX_succ (by omega) he]
    generalize netX (l.take k) = X at h ⊢
    have t0 : ∀ j, j < 2 * k → toX (addX X x.toNat y.toNat z.toNat) j = toX X j := fun j hj => by
      show (addX X _ _ _ 0).getD j 0 = _
      rw [addX_zero, getD_app_old _ _ _ (by rw [h.len0]; exact hj)]
    have l0 : ∀ j, j < 2 * k → leftX (addX X x.toNat y.toNat z.toNat) j = leftX X j := fun j hj => by
      show (addX X _ _ _ 1).getD j 0 = _
      rw [addX_one, getD_app_old _ _ _ (by rw [h.len1]; exact hj)]
    have t1 : toX (addX X x.toNat y.toNat z.toNat) (2 * k) = y.toNat := by
      show (addX X _ _ _ 0).getD _ 0 = _
      rw [addX_zero, ← h.len0, getD_app_0]
    have t2 : toX (addX X x.toNat y.toNat z.toNat) (2 * k + 1) = x.toNat := by
      show (addX X _ _ _ 0).getD _ 0 = _
      rw [addX_zero, ← h.len0, getD_app_1]
    have l1 : leftX (addX X x.toNat y.toNat z.toNat) (2 * k) = z.toNat := by
      show (addX X _ _ _ 1).getD _ 0 = _
      rw [addX_one, ← h.len1, getD_app_0]
    have l2 : leftX (addX X x.toNat y.toNat z.toNat) (2 * k + 1) = 0 := by
      show (addX X _ _ _ 1).getD _ 0 = _
      rw [addX_one, ← h.len1, getD_app_1]
    refine ⟨by rw [addX_zero, List.length_append, h.len0]; simp; omega, by rw [addX_one, List.length_append, h.len1]; simp; omega, fun j hj => ?_, fun v i => ?_⟩
    · by_cases e : j = k
      · subst e; rw [he]; exact ⟨t1, t2, l1, l2⟩
      · obtain ⟨a1, a2, a3, a4⟩ := h.arc j (by omega)
        exact ⟨(t0 _ (by omega)).trans a1, (t0 _ (by omega)).trans a2, (l0 _ (by omega)).trans a3, (l0 _ (by omega)).trans a4⟩
    · rw [addX_at, h.at_iff, h.len0]
      have hd := xor_one_div i
      have hm := xor_one_mod i
      rcases (show i < 2 * k ∨ i = 2 * k ∨ i = 2 * k + 1 ∨ 2 * k + 2 ≤ i by omega) with e | e | e | e
      · rw [show tailX (addX X x.toNat y.toNat z.toNat) i = tailX X i from t0 _ (by omega)]
        constructor
        · rintro (⟨a, b⟩ | ⟨-, b⟩ | ⟨-, b⟩)
          · exact ⟨by omega, b⟩
          · omega
          · omega
        · rintro ⟨-, b⟩; exact Or.inl ⟨e, b⟩
      · rw [show tailX (addX X x.toNat y.toNat z.toNat) i = x.toNat by show toX _ (i ^^^ 1) = _; rw [xor_one_even e]; exact t2]
        constructor
        · rintro (⟨a, b⟩ | ⟨a, b⟩ | ⟨a, b⟩)
          · omega
          · exact ⟨by omega, a.symm⟩
          · omega
        · rintro ⟨-, b⟩; exact Or.inr (Or.inl ⟨b.symm, e⟩)
      · rw [show tailX (addX X x.toNat y.toNat z.toNat) i = y.toNat by show toX _ (i ^^^ 1) = _; rw [xor_one_odd e]; exact t1]
        constructor
        · rintro (⟨a, b⟩ | ⟨a, b⟩ | ⟨a, b⟩)
          · omega
          · omega
          · exact ⟨by omega, a.symm⟩
        · rintro ⟨-, b⟩; exact Or.inr (Or.inr ⟨b.symm, e⟩)
      · constructor
        · rintro (⟨a, b⟩ | ⟨a, b⟩ | ⟨a, b⟩) <;> omega
        · rintro ⟨a, b⟩; omega

theorem netOk {l : List (Int × Int × Int)} {N : Nat} (hN : N ≤ 1000) (hl : l.length ≤ 5000) (hok : ∀ j, j < l.length → ArcOk N (l.getD j (0, 0, 0))) : NetOk N (2 * l.length) (netX l) := by
  have h := netAt l l.length (Nat.le_refl _)
  rw [List.take_length] at h
  refine ⟨h.len0, h.len1, fun i hi => ?_, fun v _ i hi => (h.at_iff v i).1 hi, fun i hi => (h.at_iff _ i).2 ⟨hi, rfl⟩, fun i hi => ?_, ⟨hN, by omega⟩, fun v _ => ?_⟩
  · obtain ⟨a1, a2, -⟩ := h.arc (i / 2) (by omega)
    obtain ⟨o1, o2, o3, o4, -⟩ := hok (i / 2) (by omega)
    rcases (show i = 2 * (i / 2) ∨ i = 2 * (i / 2) + 1 by omega) with e | e
    · rw [e, a1]; omega
    · rw [e, a2]; omega
  · have hd := xor_one_div i
    omega
  · have := netX_length l (v + 2)
    omega

end Go.Proofs.Ytbnbhjeknocboaa
namespace Go.Proofs.Ytbnbhjeknocboaa
open Go.RowKit

/-- What is wrong with a net and two nodes. -/
def MostSpec (n : Int) (l : List (Int × Int × Int)) (s t : Int) (c a : Int) : Prop := (NetSpec n l c a ∧ c ≠ 0) ∨ (NetSpec n l 0 0 ∧ EndsSpec n s t c a)
theorem NetSpec.zero {n : Int} {l : List (Int × Int × Int)} {a : Int} (h : NetSpec n l 0 a) : a = 0 ∧ ¬ NetBig n l ∧ ∀ j, j < l.length → ArcOk n (l.getD j (0, 0, 0)) := by
  rcases h with ⟨-, h, -⟩ | ⟨h1, ⟨i, -, -, -, h, -⟩ | ⟨h2, -, h3⟩⟩
  · omega
  · omega
  · exact ⟨h3, h1, h2⟩
theorem MostSpec.uniq {n : Int} {l : List (Int × Int × Int)} {s t c a c' a' : Int} (h : MostSpec n l s t c a) (h' : MostSpec n l s t c' a') : c = c' ∧ a = a' := by
  rcases h with ⟨h1, h2⟩ | ⟨h1, h2⟩ <;> rcases h' with ⟨h1', h2'⟩ | ⟨h1', h2'⟩
  · exact h1.uniq h1'
  · exact absurd (h1.uniq h1').1 h2
  · exact absurd (h1'.uniq h1).1 h2'
  · exact h2.uniq h2'

/-- What flow.Most answers where all is well. -/
def MostOk (N M : Nat) (l : List (Int × Int × Int)) (s t sum : Nat) (X : Nat → List Nat) (lev : Nat → Int) : Prop := Sent N M s t (netX l) X sum ∧ LevOk N X s lev ∧ lev t < 0
/-- The flows. -/
def flowsL (X : Nat → List Nat) (k : Nat) : List Nat := (List.range k).map fun j => leftX X (2 * j + 1)
theorem flowsL_succ (X : Nat → List Nat) (k : Nat) : flowsL X (k + 1) = flowsL X k ++ [leftX X (2 * k + 1)] := by
  unfold flowsL
  rw [List.range_succ, List.map_append]
  rfl
theorem flowsL_length (X : Nat → List Nat) (k : Nat) : (flowsL X k).length = k := by simp [flowsL]

/-- flow.Most comes back. -/
def FlowPost (n : Int) (l : List (Int × Int × Int)) (s t : Int) (w : World) (e : Ending) (w' : World) : Prop :=
  ∃ c a v fv sv, e = .returned (.tuple #[v, fv, sv, .agg #[.int .i64 c, .int .i64 a]]) ∧ MostSpec n l s t c a ∧ Below w.heap.size w w' ∧
    ((c ≠ 0 ∧ v = .int .i64 0 ∧ fv = .slice none 0 0 ∧ sv = .slice none 0 0) ∨
     (c = 0 ∧ a = 0 ∧ ∃ (N s' t' sum : Nat) (X : Nat → List Nat) (lev : Nat → Int), n = N ∧ s = s' ∧ t = t' ∧ v = .int .i64 (sum : Int) ∧ MostOk N (2 * l.length) l s' t' sum X lev ∧
        w'.ownsRow w.heap.size 3 1 fv l.length ((ints (flowsL X l.length)).map (Value.int .i64)) ∧ w'.ownsRow w.heap.size 3 1 sv (sideL lev N).length ((ints (sideL lev N)).map (Value.int .i64))))

/-- The result's fault cell holds c, a. -/
structure NRes (w wr : World) (A B : Nat) (n : Int) (v : Value) (c a : Int) : Prop where
  hb : Below w.heap.size w wr
  cn : wr.cell? ⟨A, 0, none⟩ = some (.int .i64 n)
  cs : wr.cell? ⟨A, 1, none⟩ = some v
  hf : wr.rowIs B 28 2 (fun i => if i = 0 then .int .i64 c else .int .i64 a)
  hB : w.heap.size ≤ B
  hA : A < B
section
variable {w wr w' : World} {A B : Nat} {n : Int} {v : Value} {c a : Int}
theorem GRes.toN (h : GRes w wr A B n v) (c a : Int) : NRes w ((wr.setCell ⟨B, 0, none⟩ (.int .i64 c)).setCell ⟨B, 1, none⟩ (.int .i64 a)) A B n v c a where
  hb := (h.hb.setCell h.hB _).setCell h.hB _
  cn := by
    have := h.hA
    rw [World.cell?_setCell_far _ _ _ _ (by show B ≠ A; omega), World.cell?_setCell_far _ _ _ _ (by show B ≠ A; omega)]; exact h.cn
  cs := by
    have := h.hA
    rw [World.cell?_setCell_far _ _ _ _ (by show B ≠ A; omega), World.cell?_setCell_far _ _ _ _ (by show B ≠ A; omega)]; exact h.cs
  hf := ((h.hz.set 0 (.int .i64 c)).set 1 (.int .i64 a)).congr fun i hi => by
    match i, hi with
    | 0, _ => rfl
    | 1, _ => rfl
  hB := h.hB
  hA := h.hA
theorem NRes.put (h : NRes w wr A B n v c a) (c' a' : Int) : NRes w ((wr.setCell ⟨B, 0, none⟩ (.int .i64 c')).setCell ⟨B, 1, none⟩ (.int .i64 a')) A B n v c' a' where
  hb := (h.hb.setCell h.hB _).setCell h.hB _
  cn := by
    have := h.hA
    rw [World.cell?_setCell_far _ _ _ _ (by show B ≠ A; omega), World.cell?_setCell_far _ _ _ _ (by show B ≠ A; omega)]; exact h.cn
  cs := by
    have := h.hA
    rw [World.cell?_setCell_far _ _ _ _ (by show B ≠ A; omega), World.cell?_setCell_far _ _ _ _ (by show B ≠ A; omega)]; exact h.cs
  hf := ((h.hf.set 0 (.int .i64 c')).set 1 (.int .i64 a')).congr fun i hi => by
    match i, hi with
    | 0, _ => rfl
    | 1, _ => rfl
  hB := h.hB
  hA := h.hA
theorem NRes.below (h : NRes w wr A B n v c a) (hb : Below wr.heap.size wr w') : NRes w w' A B n v c a :=
  ⟨h.hb.trans (hb.mono h.hb.size), below_cell hb h.cn, below_cell hb h.cs, h.hf.of_block (hb.block _ h.hf.lt), h.hB, h.hA⟩
theorem NRes.drew (h : NRes w wr A B n v c a) : NRes w wr.drew A B n v c a := h.below (Below.refl _ _).drew
theorem NRes.f0 (h : NRes w wr A B n v c a) : wr.cell? ⟨B, 0, none⟩ = some (.int .i64 c) := by rw [h.hf.cell (show 0 < 2 by omega)]; rfl
theorem NRes.f1 (h : NRes w wr A B n v c a) : wr.cell? ⟨B, 1, none⟩ = some (.int .i64 a) := by rw [h.hf.cell (show 1 < 2 by omega)]; rfl
end

end Go.Proofs.Ytbnbhjeknocboaa
namespace Go.Proofs.Ytbnbhjeknocboaa

theorem LevOk.reach {N : Nat} {X : Nat → List Nat} {s : Nat} {lev lev' : Nat → Int} (h : LevOk N X s lev) (h' : LevOk N X s lev') : ∀ (n v : Nat), v < N → lev v = n → 0 ≤ lev' v := by
  intro n
  induction n with
  | zero =>
    intro v hv e
    obtain rfl := h.zero v hv e
    rw [h'.src]; omega
  | succ n ih =>
    intro v hv e
    obtain ⟨u, i, hu, hi, rfl, hl, h1, h2⟩ := h.pred v hv (by omega)
    exact h'.closed u hu (ih u hu (by omega)) i hi hl
theorem LevOk.shut {N : Nat} {X : Nat → List Nat} {s t : Nat} {lev lev' : Nat → Int} (h : LevOk N X s lev) (h' : LevOk N X s lev') (ht : t < N) (hl : lev t < 0) : lev' t < 0 := by
  rcases Int.lt_or_le (lev' t) 0 with e | e
  · exact e
  · have := h'.reach h (lev' t).toNat t ht (by omega)
    omega

section
variable {l : List (Int × Int × Int)} {N : Nat}
/-- Where an arc comes from, where it goes to, what it holds. -/
abbrev fromL (l : List (Int × Int × Int)) (k : Nat) : Nat := (l.getD k (0, 0, 0)).1.toNat
abbrev toL (l : List (Int × Int × Int)) (k : Nat) : Nat := (l.getD k (0, 0, 0)).2.1.toNat
abbrev capL (l : List (Int × Int × Int)) (k : Nat) : Nat := (l.getD k (0, 0, 0)).2.2.toNat

theorem net_whole (l : List (Int × Int × Int)) : NetAt l l.length (netX l) := by
  have h := netAt l l.length (Nat.le_refl _)
  rwa [List.take_length] at h
theorem net_caps {k : Nat} (hk : k < l.length) : leftX (netX l) (2 * k) + leftX (netX l) (2 * k + 1) = capL l k := by
  obtain ⟨-, -, h1, h2⟩ := (net_whole l).arc k hk
  rw [h1, h2]
  rfl
theorem net_few (hok : ∀ j, j < l.length → ArcOk N (l.getD j (0, 0, 0))) : ∀ i, i < 2 * l.length → leftX (netX l) i + leftX (netX l) (i ^^^ 1) ≤ 1000000 := fun i hi => by
  have h := net_caps (l := l) (k := i / 2) (by omega)
  obtain ⟨-, -, -, -, -, o6⟩ := hok (i / 2) (by omega)
  have hc : capL l (i / 2) ≤ 1000000 := by show (l.getD (i / 2) (0, 0, 0)).2.2.toNat ≤ 1000000; omega
  rcases (show i = 2 * (i / 2) ∨ i = 2 * (i / 2) + 1 by omega) with e | e
  · have e' : leftX (netX l) i = leftX (netX l) (2 * (i / 2)) := by rw [← e]
    rw [xor_one_even e, e']
    omega
  · have e' : leftX (netX l) i = leftX (netX l) (2 * (i / 2) + 1) := by rw [← e]
    rw [xor_one_odd e, e']
    omega
theorem net_out0 (u : Nat) : outX (2 * l.length) (netX l) u = 0 := by
  refine sumZ_zero fun k hk => ?_
  obtain ⟨-, -, -, h2⟩ := (net_whole l).arc k (by omega)
  rw [h2]
  simp

/-- What flows out of u, less what flows in, along the first k arcs. -/
def outL (l : List (Int × Int × Int)) (fl : Nat → Nat) (u k : Nat) : Int := sumZ (fun j => (if fromL l j = u then (fl j : Int) else 0) - (if toL l j = u then (fl j : Int) else 0)) k
/-- What the first k arcs hold that lead over the cut. -/
def cutL (l : List (Int × Int × Int)) (lev : Nat → Int) (k : Nat) : Int := sumZ (fun j => if 0 ≤ lev (fromL l j) ∧ lev (toL l j) < 0 then (capL l j : Int) else 0) k

/-- All that the law asks of flow.Most's answer. -/
structure MostLaw (N : Nat) (l : List (Int × Int × Int)) (s t sum : Nat) (fl : Nat → Nat) (lev : Nat → Int) : Prop where
  le : ∀ k, k < l.length → fl k ≤ capL l k
  out : ∀ u, outL l fl u l.length = (if s = u then (sum : Int) else 0) - (if t = u then (sum : Int) else 0)
  cut : cutL l lev l.length = sum
  src : 0 ≤ lev s
  snk : lev t < 0

theorem MostOk.law {s t sum : Nat} {X : Nat → List Nat} {lev : Nat → Int} (h : MostOk N (2 * l.length) l s t sum X lev) (hs : s < N) : MostLaw N l s t sum (fun k => leftX X (2 * k + 1)) lev := by
  obtain ⟨hS, hl, ht⟩ := h
  have hto : ∀ i, toX X i = toX (netX l) i := fun i => by show (X 0).getD i 0 = _; rw [hS.same 0 (by omega)]
  have hcap : ∀ k, k < l.length → leftX X (2 * k) + leftX X (2 * k + 1) = capL l k := fun k hk => by
    have := hS.sums (2 * k) (by omega)
    rw [xor_one_even (i := 2 * k) rfl] at this
    rw [this, net_caps hk]
  have hM : 2 * l.length / 2 = l.length := by omega
  refine ⟨fun k hk => by have := hcap k hk; omega, fun u => ?_, ?_, by rw [hl.src]; omega, ht⟩
  · have h1 := hS.out u
    rw [net_out0] at h1
    rw [show (if s = u then (sum : Int) else 0) - (if t = u then (sum : Int) else 0) = outX (2 * l.length) X u by omega]
    unfold outX outL
    rw [hM]
    refine sumZ_congr fun k hk => ?_
    obtain ⟨a1, a2, -⟩ := (net_whole l).arc k hk
    rw [hto, hto, a1, a2]
  · have h1 := hS.cut hl ht net_out0 hs
    rw [h1, hM]
    refine sumZ_congr fun k hk => ?_
    obtain ⟨a1, a2, -⟩ := (net_whole l).arc k hk
    rw [hto, hto, a1, a2, hcap k hk]
end

/-- The document's example. -/
theorem most_begun {sum : Nat} {X : Nat → List Nat} {lev : Nat → Int} (h : MostOk 3 4 [(0, 1, 3), (1, 2, 2)] 0 2 sum X lev) : sum = 2 := by
  have hl := MostOk.law (l := [(0, 1, 3), (1, 2, 2)]) h (by omega)
  have h1 := hl.le 1 (by simp)
  have h2 := hl.out 2
  have h3 := hl.cut
  have h4 := hl.src
  have h5 := hl.snk
  simp [outL, cutL, sumZ, fromL, toL, capL] at h1 h2 h3
  by_cases e : 0 ≤ lev 1
  · simp [e, h4, h5] at h3
    split at h3 <;> omega
  · simp [e, h4] at h3
    omega

end Go.Proofs.Ytbnbhjeknocboaa
namespace Go.Proofs.Ytbnbhjeknocboaa

section
variable {l : List (Int × Int × Int)} {m : Nat}
theorem out_exists {F : Nat → Nat} {v : Nat} (h : 0 < outL l F v m) : ∃ k, k < m ∧ fromL l k = v ∧ 0 < F k := by
  refine Classical.byContradiction fun hc => ?_
  have h1 : outL l F v m ≤ m * 0 := sumZ_le fun k hk => by
    by_cases e : fromL l k = v
    · have : F k = 0 := by
        rcases Nat.eq_zero_or_pos (F k) with h0 | h0
        · exact h0
        · exact absurd ⟨k, hk, e, h0⟩ hc
      rw [this]
      split <;> split <;> omega
    · rw [if_neg e]
      split <;> omega
  omega
/-- One unit less along arc k. -/
def lessF (F : Nat → Nat) (k : Nat) : Nat → Nat := fun q => if q = k then F k - 1 else F q
theorem out_less {F : Nat → Nat} {k : Nat} (hk : k < m) (h0 : 0 < F k) (u : Nat) : outL l (lessF F k) u m = outL l F u m + ((if toL l k = u then 1 else 0) - (if fromL l k = u then 1 else 0)) := by
  refine sumZ_one hk (fun q _ hne => ?_) ?_
  · simp only [lessF, if_neg hne]
  · simp only [lessF, if_true]
    by_cases e1 : fromL l k = u <;> by_cases e2 : toL l k = u <;> simp only [e1, e2, if_true, if_false] <;> omega
/-- All that flows. -/
def allF (F : Nat → Nat) : Nat → Nat
  | 0 => 0
  | n + 1 => allF F n + F n
theorem allF_congr {F G : Nat → Nat} : ∀ n, (∀ k, k < n → F k = G k) → allF F n = allF G n
  | 0, _ => rfl
  | n + 1, h => by rw [allF, allF, allF_congr n fun k hk => h k (by omega), h n (by omega)]
theorem allF_less {F : Nat → Nat} {k : Nat} (h0 : 0 < F k) : ∀ n, k < n → allF (lessF F k) n + 1 = allF F n
  | n + 1, hk => by
    rw [allF, allF]
    by_cases e : n = k
    · subst e
      rw [allF_congr (F := lessF F n) (G := F) n fun q hq => by simp only [lessF, if_neg (show ¬ q = n by omega)]]
      simp only [lessF, if_true]
      omega
    · have := allF_less h0 n (by omega)
      have e2 : lessF F k n = F n := by simp only [lessF, if_neg e]
      rw [e2]
      omega
end

/-- A way P along arcs K, not yet at t before its end; F is what is left of F0. -/
structure Trail (l : List (Int × Int × Int)) (m s t : Nat) (F0 F : Nat → Nat) (P K : List Nat) : Prop where
  len : P.length = K.length + 1
  head : P.getD 0 0 = s
  step : ∀ j, j < K.length → K.getD j 0 < m ∧ fromL l (K.getD j 0) = P.getD j 0 ∧ toL l (K.getD j 0) = P.getD (j + 1) 0 ∧ P.getD j 0 ≠ t
  left : ∀ k, F k + K.count k = F0 k

section
variable {l : List (Int × Int × Int)} {m s t : Nat} {F0 F : Nat → Nat} {P K : List Nat}
theorem Trail.start : Trail l m s t F0 F0 [s] [] := ⟨rfl, rfl, fun j hj => absurd hj (Nat.not_lt_zero _), fun k => by simp⟩
theorem getD_app_lt {L : List Nat} {x j : Nat} (h : j < L.length) : (L ++ [x]).getD j 0 = L.getD j 0 := by simp [List.getD, List.getElem?_append_left h]
theorem getD_app_eq {L : List Nat} {x : Nat} : (L ++ [x]).getD L.length 0 = x := by simp [List.getD]
theorem Trail.more (h : Trail l m s t F0 F P K) {k : Nat} (hk : k < m) (hf : fromL l k = P.getD K.length 0) (h0 : 0 < F k) (hne : P.getD K.length 0 ≠ t) : Trail l m s t F0 (lessF F k) (P ++ [toL l k]) (K ++ [k]) := by
  have hl := h.len
  refine ⟨by simp [hl], by rw [getD_app_lt (by omega)]; exact h.head, fun j hj => ?_, fun q => ?_⟩
  · by_cases e : j = K.length
    · subst e
      rw [getD_app_eq, getD_app_lt (by omega), ← hl, getD_app_eq]
      exact ⟨hk, hf, rfl, hne⟩
    · have hj' : j < K.length := by simp at hj; omega
      rw [getD_app_lt hj', getD_app_lt (by omega), getD_app_lt (by omega)]
      exact h.step j hj'
  · have := h.left q
    rw [List.count_append, List.count_singleton]
    unfold lessF
    by_cases e : q = k
    · subst e; simp; omega
    · have : ¬ (k == q) = true := by simp; exact fun e2 => e e2.symm
      simp only [if_neg e, this, if_false]
      simpa using h.left q
/-- Where a unit is under way to t, it goes on. -/
theorem Trail.on {n : Nat} {v : Nat} (hout : ∀ u, outL l F u m = (n : Int) * ((if s = u then 1 else 0) - (if t = u then 1 else 0)) + ((if v = u then 1 else 0) - (if t = u then 1 else 0))) (hvt : v ≠ t) (hst : s ≠ t) : ∃ k, k < m ∧ fromL l k = v ∧ 0 < F k := by
  refine out_exists ?_
  rw [hout v, if_pos rfl, if_neg (Ne.symm hvt)]
  by_cases e : s = v
  · rw [if_pos e]
    omega
  · rw [if_neg e]
    omega
theorem out_step {n v k : Nat} (hout : ∀ u, outL l F u m = (n : Int) * ((if s = u then 1 else 0) - (if t = u then 1 else 0)) + ((if v = u then 1 else 0) - (if t = u then 1 else 0))) (hk : k < m) (hf : fromL l k = v) (h0 : 0 < F k) :
    ∀ u, outL l (lessF F k) u m = (n : Int) * ((if s = u then 1 else 0) - (if t = u then 1 else 0)) + ((if toL l k = u then 1 else 0) - (if t = u then 1 else 0)) := fun u => by
  rw [out_less hk h0, hout u, hf]
  omega
end

end Go.Proofs.Ytbnbhjeknocboaa
namespace Go.Proofs.Ytbnbhjeknocboaa

/-- What has been kept of the first k of l. -/
structure StrOk (l : List Nat) (k : Nat) (o : List Nat) : Prop where
  none : k = 0 → o = []
  some : 0 < k → 0 < o.length
  dif : ∀ i j, i < j → j < o.length → o.getD i 0 ≠ o.getD j 0
  head : 0 < k → o.getD 0 0 = l.getD 0 0
  last : 0 < k → o.getD (o.length - 1) 0 = l.getD (k - 1) 0
  pair : ∀ j, j + 1 < o.length → ∃ i, i + 1 < k ∧ l.getD i 0 = o.getD j 0 ∧ l.getD (i + 1) 0 = o.getD (j + 1) 0
theorem getD_take {L : List Nat} {n j : Nat} (h : j < n) : (L.take n).getD j 0 = L.getD j 0 := by simp [List.getD, List.getElem?_take, h]

section
variable {l o : List Nat} {k : Nat}
theorem StrOk.start (l : List Nat) : StrOk l 0 [] := ⟨fun _ => rfl, fun h => absurd h (Nat.lt_irrefl _), fun i j _ h => absurd h (Nat.not_lt_zero _), fun h => absurd h (Nat.lt_irrefl _), fun h => absurd h (Nat.lt_irrefl _), fun j h => absurd h (Nat.not_lt_zero _)⟩
theorem StrOk.pos (h : StrOk l k o) (ho : 0 < o.length) : 0 < k := by
  rcases Nat.eq_zero_or_pos k with e | e
  · rw [h.none e] at ho; exact absurd ho (Nat.lt_irrefl _)
  · exact e
theorem StrOk.cut (h : StrOk l k o) {j : Nat} (hj : j < o.length) (e : o.getD j 0 = l.getD k 0) : StrOk l (k + 1) (o.take (j + 1)) := by
  have hk := h.pos (by omega)
  have hlen : (o.take (j + 1)).length = j + 1 := by rw [List.length_take]; omega
  refine ⟨fun h => by omega, fun _ => by omega, fun i q hi hq => ?_, fun _ => ?_, fun _ => ?_, fun q hq => ?_⟩
  · rw [hlen] at hq
    rw [getD_take (by omega), getD_take (by omega)]
    exact h.dif i q hi (by omega)
  · rw [getD_take (by omega)]; exact h.head hk
  · rw [hlen, getD_take (by omega), Nat.add_sub_cancel, Nat.add_sub_cancel]; exact e
  · rw [hlen] at hq
    obtain ⟨i, h1, h2, h3⟩ := h.pair q (by omega)
    rw [getD_take (by omega), getD_take (by omega)]
    exact ⟨i, by omega, h2, h3⟩
theorem StrOk.app (h : StrOk l k o) (hn : ∀ j, j < o.length → o.getD j 0 ≠ l.getD k 0) : StrOk l (k + 1) (o ++ [l.getD k 0]) := by
  have hlen : (o ++ [l.getD k 0]).length = o.length + 1 := by simp
  refine ⟨fun h => by omega, fun _ => by omega, fun i q hi hq => ?_, fun _ => ?_, fun _ => ?_, fun q hq => ?_⟩
  · rw [hlen] at hq
    rw [getD_app_lt (by omega)]
    by_cases e : q = o.length
    · subst e; rw [getD_app_eq]; exact hn i hi
    · rw [getD_app_lt (by omega)]; exact h.dif i q hi (by omega)
  · rcases Nat.eq_zero_or_pos k with e | e
    · subst e; rw [h.none rfl]; rfl
    · rw [getD_app_lt (h.some e)]; exact h.head e
  · rw [hlen, Nat.add_sub_cancel, getD_app_eq, Nat.add_sub_cancel]
  · rw [hlen] at hq
    rw [getD_app_lt (by omega)]
    by_cases e : q + 1 = o.length
    · rw [e, getD_app_eq]
      have hk := h.pos (by omega)
      have hl := h.last hk
      rw [show o.length - 1 = q by omega] at hl
      exact ⟨k - 1, by omega, hl.symm, by rw [show k - 1 + 1 = k by omega]⟩
    · rw [getD_app_lt (by omega)]
      obtain ⟨i, h1, h2, h3⟩ := h.pair q (by omega)
      exact ⟨i, by omega, h2, h3⟩
end

end Go.Proofs.Ytbnbhjeknocboaa
namespace Go.Proofs.Ytbnbhjeknocboaa

/-- What the first k edges hold that lead from S to what is not S. -/
def capE (l : List (Int × Int)) (ws : List Int) (S : Nat → Bool) : Nat → Nat
  | 0 => 0
  | k + 1 => capE l ws S k + (if S (l.getD k (0, 0)).1.toNat = S (l.getD k (0, 0)).2.toNat then 0 else (ws.getD k 0).toNat)
/-- What a cut holds. -/
abbrev capG (l : List (Int × Int)) (ws : List Int) (S : Nat → Bool) : Nat := capE l ws S l.length

theorem capE_sub (l : List (Int × Int)) (ws : List Int) (S T : Nat → Bool) : ∀ k, capE l ws (fun v => S v && T v) k + capE l ws (fun v => S v || T v) k ≤ capE l ws S k + capE l ws T k
  | 0 => Nat.le_refl _
  | k + 1 => by
    have h := capE_sub l ws S T k
    simp only [capE]
    generalize (l.getD k (0, 0)).1.toNat = a
    generalize (l.getD k (0, 0)).2.toNat = b
    generalize (ws.getD k 0).toNat = z
    rcases Bool.eq_false_or_eq_true (S a) with e1 | e1 <;> rcases Bool.eq_false_or_eq_true (S b) with e2 | e2 <;> rcases Bool.eq_false_or_eq_true (T a) with e3 | e3 <;> rcases Bool.eq_false_or_eq_true (T b) with e4 | e4 <;> simp [e1, e2, e3, e4] <;> omega
theorem capE_not (l : List (Int × Int)) (ws : List Int) (S : Nat → Bool) : ∀ k, capE l ws (fun v => !S v) k = capE l ws S k
  | 0 => rfl
  | k + 1 => by
    simp only [capE]
    rw [capE_not l ws S k]
    generalize (l.getD k (0, 0)).1.toNat = a
    generalize (l.getD k (0, 0)).2.toNat = b
    rcases Bool.eq_false_or_eq_true (S a) with e1 | e1 <;> rcases Bool.eq_false_or_eq_true (S b) with e2 | e2 <;> simp [e1, e2]
theorem capE_congr {l : List (Int × Int)} {ws : List Int} {N : Nat} {S T : Nat → Bool} (hok : ∀ j, j < l.length → EndsOk N (l.getD j (0, 0))) (h : ∀ v, v < N → S v = T v) : ∀ k, k ≤ l.length → capE l ws S k = capE l ws T k
  | 0, _ => rfl
  | k + 1, hk => by
    obtain ⟨a1, a2, a3, a4⟩ := hok k (by omega)
    simp only [capE]
    rw [capE_congr hok h k (by omega), h _ (by omega), h _ (by omega)]
theorem capE_few' {l : List (Int × Int)} {ws : List Int} {C : Nat} (hz : ∀ j, j < l.length → (ws.getD j 0).toNat ≤ C) (S : Nat → Bool) : ∀ k, k ≤ l.length → capE l ws S k ≤ k * C := by
  intro k
  induction k with
  | zero => intro _; exact Nat.zero_le _
  | succ k ih =>
    intro hk
    have h := ih (by omega)
    have h2 := hz k (by omega)
    rw [Nat.succ_mul]
    simp only [capE]
    split <;> omega
theorem capE_few {l : List (Int × Int)} {ws : List Int} (hz : ∀ j, j < l.length → 0 ≤ ws.getD j 0 ∧ ws.getD j 0 ≤ 1000000) (S : Nat → Bool) (k : Nat) (hk : k ≤ l.length) : capE l ws S k ≤ k * 1000000 :=
  capE_few' (fun j hj => by have := hz j hj; omega) S k hk

theorem capG_cuts (l : List (Int × Int)) (ws : List Int) : ∃ f, Cuts (capG l ws) f := cuts_ex (fun S T => capE_sub l ws S T _) (fun S => capE_not l ws S _)

/-- The cut of the arcs is that of the edges. -/
theorem cutL_both (l : List (Int × Int)) (ws : List Int) (n : Nat) (lev : Nat → Int) : ∀ k, k ≤ n → cutL (bothN l ws n) lev (2 * k) = (capE l ws (fun v => decide (0 ≤ lev v)) k : Int)
  | 0, _ => rfl
  | k + 1, hk => by
    have h := cutL_both l ws n lev k (by omega)
    obtain ⟨h1, h2⟩ := bothN_get l ws n k (by omega)
    rw [show 2 * (k + 1) = 2 * k + 1 + 1 by omega]
    unfold cutL at h ⊢
    rw [sumZ, sumZ, h]
    simp only [fromL, toL, capL]
    rw [h1, h2]
    simp only [capE]
    generalize (l.getD k (0, 0)).1.toNat = a
    generalize (l.getD k (0, 0)).2.toNat = b
    generalize (ws.getD k 0).toNat = z
    by_cases ha : 0 ≤ lev a <;> by_cases hb : 0 ≤ lev b <;> simp [ha, hb] <;> omega

theorem sumZ_mono {f g : Nat → Int} : ∀ {n}, (∀ k, k < n → f k ≤ g k) → sumZ f n ≤ sumZ g n
  | 0, _ => Int.le_refl _
  | n + 1, h => by
    have h1 := sumZ_mono (n := n) fun k hk => h k (by omega)
    have h2 := h n (by omega)
    rw [sumZ, sumZ]
    omega

/-- No cut holds less than what is sent. -/
theorem MostOk.weak {N : Nat} {l : List (Int × Int × Int)} {s t sum : Nat} {X : Nat → List Nat} {lev lev' : Nat → Int} (h : MostOk N (2 * l.length) l s t sum X lev) (hs : s < N) (h1 : 0 ≤ lev' s) (h2 : lev' t < 0) : (sum : Int) ≤ cutL l lev' l.length := by
  obtain ⟨hS, hl, ht⟩ := h
  have hto : ∀ i, toX X i = toX (netX l) i := fun i => by show (X 0).getD i 0 = _; rw [hS.same 0 (by omega)]
  have hcap : ∀ k, k < l.length → leftX X (2 * k) + leftX X (2 * k + 1) = capL l k := fun k hk => by
    have := hS.sums (2 * k) (by omega)
    rw [xor_one_even (i := 2 * k) rfl] at this
    rw [this, net_caps hk]
  have hM : 2 * l.length / 2 = l.length := by omega
  have hst : t ≠ s := fun e => by subst e; omega
  have e1 : sumZ (fun u => if 0 ≤ lev' u then outX (2 * l.length) X u else 0) N = sum := by
    rw [sumZ_only hs (fun u _ hne => by
      by_cases e : 0 ≤ lev' u
      · have hut : t ≠ u := fun e2 => by subst e2; omega
        rw [if_pos e, hS.out u, net_out0, if_neg (fun e2 => hne e2.symm), if_neg hut]; rfl
      · rw [if_neg e])]
    rw [if_pos h1, hS.out s, net_out0, if_pos rfl, if_neg hst]
    omega
  rw [← e1, sumZ_reached hS.ok, hM]
  refine sumZ_mono fun k hk => ?_
  obtain ⟨a1, a2, -⟩ := (net_whole l).arc k hk
  have hc := hcap k hk
  rw [hto, hto, a1, a2]
  show _ ≤ (if 0 ≤ lev' (fromL l k) ∧ lev' (toL l k) < 0 then (capL l k : Int) else 0)
  by_cases ra : 0 ≤ lev' (fromL l k) <;> by_cases rb : 0 ≤ lev' (toL l k)
  · rw [if_pos ra, if_pos rb, if_neg (by omega)]; omega
  · rw [if_pos ra, if_neg rb, if_pos (by omega)]; omega
  · rw [if_neg ra, if_pos rb, if_neg (by omega)]; omega
  · rw [if_neg ra, if_neg rb, if_neg (by omega)]; omega

/-- What most sends along edges is the least cut. -/
theorem MostOk.least {N : Nat} {l : List (Int × Int)} {ws : List Int} {s t sum : Nat} {X : Nat → List Nat} {lev : Nat → Int} (h : MostOk N (2 * (bothN l ws l.length).length) (bothN l ws l.length) s t sum X lev) (hs : s < N) :
    capG l ws (fun v => decide (0 ≤ lev v)) = sum ∧ LeastC (capG l ws) s t sum := by
  have hL := h.law hs
  have hn := bothN_length l ws l.length
  have hc : capG l ws (fun v => decide (0 ≤ lev v)) = sum := by
    have h1 := hL.cut
    rw [hn, cutL_both l ws _ lev _ (Nat.le_refl _)] at h1
    exact Int.ofNat.inj h1
  refine ⟨hc, ⟨_, decide_eq_true hL.src, decide_eq_false (by have := hL.snk; omega), hc⟩, fun S h1 h2 => ?_⟩
  have h3 := h.weak (lev' := fun v => if S v = true then 0 else -1) hs (by simp [h1]) (by simp [h2])
  rw [hn, cutL_both l ws _ _ _ (Nat.le_refl _)] at h3
  have e : (fun v => decide (0 ≤ (if S v = true then (0 : Int) else -1))) = S := by
    funext v
    cases S v <;> simp
  rw [e] at h3
  exact Int.ofNat_le.1 h3

end Go.Proofs.Ytbnbhjeknocboaa
namespace Go.Proofs.Ytbnbhjeknocboaa
open Go.RowKit

theorem norm_meets (e : Int × Int) : Meets e (norm e).1 (norm e).2 := by
  unfold Meets norm
  by_cases h : e.1 ≤ e.2 <;> simp [h]
theorem meets_norm {e : Int × Int} {a b : Int} (h : Meets e a b) (hab : a < b) : norm e = (a, b) := by
  obtain ⟨x, y⟩ := e
  unfold Meets at h
  unfold norm
  simp only at *
  rcases h with ⟨rfl, rfl⟩ | ⟨rfl, rfl⟩
  · have : x ≤ y := by omega
    simp [this]
  · have : ¬ x ≤ y := by omega
    simp [this]
theorem norm_lt {e : Int × Int} (h : e.1 ≠ e.2) : (norm e).1 < (norm e).2 := by
  unfold norm
  by_cases h' : e.1 ≤ e.2
  · simp only [h', if_true]; omega
  · simp only [h', if_false]; omega
theorem norm_ends {e : Int × Int} {n : Int} (h : EndsOk n e) : EndsOk n (norm e) := by
  unfold EndsOk norm at *
  by_cases h' : e.1 ≤ e.2 <;> simp only [h', if_true, if_false] <;> omega

theorem form_mem {l : List (Int × Int)} {N : Nat} (hg : GoodGraph N l) (e : Int × Int) : e ∈ l.map norm ↔ e ∈ prsTo N (adj l) N := by
  rw [mem_prsTo, List.mem_map]
  constructor
  · rintro ⟨f, hf, rfl⟩
    obtain ⟨k, hk, rfl⟩ := List.getElem_of_mem hf
    have hfine := hg.fine k hk
    have eg : l.getD k (0, 0) = l[k] := by simp [List.getD, hk]
    have h1 := norm_ends hfine.1
    have h2 := norm_lt hfine.2.1
    rw [eg] at h1 h2
    unfold EndsOk at h1
    refine ⟨(norm l[k]).1.toNat, (norm l[k]).2.toNat, by omega, by omega, by omega, ?_, ?_⟩
    · unfold adj
      refine hasE_yes hk ?_
      rw [eg, Int.toNat_of_nonneg (by omega), Int.toNat_of_nonneg (by omega)]
      exact norm_meets _
    · rw [Int.toNat_of_nonneg (by omega), Int.toNat_of_nonneg (by omega)]
  · rintro ⟨i, j, h1, h2, h3, h4, rfl⟩
    unfold adj hasE at h4
    obtain ⟨f, hf, hm⟩ := List.any_eq_true.1 h4
    exact ⟨f, hf, meets_norm (of_decide_eq_true hm) (by omega)⟩

theorem meets_of_norm {e f : Int × Int} (h : norm e = norm f) : Meets e f.1 f.2 := by
  have h1 := norm_meets e
  rw [h] at h1
  unfold norm at h1
  by_cases h' : f.1 ≤ f.2
  · simp only [h', if_true] at h1; exact h1
  · simp only [h', if_false] at h1; unfold Meets at *; omega

theorem form_nodup {l : List (Int × Int)} {N : Int} (hg : GoodGraph N l) : (l.map norm).Nodup := by
  rw [List.Nodup, List.pairwise_map, List.pairwise_iff_getElem]
  intro i j hi hj hij e
  have hfine := (hg.fine j hj).2.2
  have ej : l.getD j (0, 0) = l[j] := by simp [List.getD, hj]
  rw [ej] at hfine
  have hi' : i < (l.take j).length := by simp; omega
  have := hasE_yes (l := l.take j) (a := l[j].1) (b := l[j].2) hi' (by
    have e' : (l.take j).getD i (0, 0) = l[i] := by simp [List.getD, hij, hi]
    rw [e']
    exact meets_of_norm e)
  rw [this] at hfine
  cases hfine

theorem form_is_prs {l L' : List (Int × Int)} {N : Nat} (hg : GoodGraph N l) (hp : L'.Perm (l.map norm)) (hs : L'.Pairwise fun a b => ¬ LexLt b a) : L' = prsTo N (adj l) N :=
  rise_uniq LexLt.irr LexLt.tr (rise_of hs (hp.nodup_iff.2 (form_nodup hg))) (prsTo_rise _ _ _) fun e => by rw [hp.mem_iff]; exact form_mem hg e

theorem adj_prs {N i j : Nat} {p : Nat → Nat → Bool} (hij : i < j) (hj : j < N) : adj (prsTo N p N) i j = p i j := by
  unfold adj
  cases h : p i j with
  | true =>
    have hm : ((i : Int), (j : Int)) ∈ prsTo N p N := mem_prsTo.2 ⟨i, j, by omega, hij, hj, h, rfl⟩
    unfold hasE
    exact List.any_eq_true.2 ⟨_, hm, by simp [Meets]⟩
  | false =>
    unfold hasE
    refine List.any_eq_false.2 fun e he hm => ?_
    obtain ⟨i', j', -, h2, -, h4, rfl⟩ := mem_prsTo.1 he
    have hm := of_decide_eq_true hm
    unfold Meets at hm
    simp only at hm
    have e1 : i' = i := by omega
    have e2 : j' = j := by omega
    rw [e1, e2, h] at h4
    cases h4

theorem good_rise {N : Nat} {L : List (Int × Int)} (hN : N ≤ 100) (hl : L.length ≤ 1000) (hr : L.Pairwise LexLt) (h : ∀ e ∈ L, 0 ≤ e.1 ∧ e.1 < e.2 ∧ e.2 < (N : Int)) : GoodGraph N L where
  lo := by omega
  hi := by omega
  len := hl
  fine := fun j hj => by
    have ej : L.getD j (0, 0) = L[j] := by simp [List.getD, hj]
    have hj' := h L[j] (List.getElem_mem hj)
    refine ⟨?_, ?_, ?_⟩
    · rw [ej]; unfold EndsOk; omega
    · rw [ej]; omega
    · refine hasE_no fun k hk hm => ?_
      have hk' : k < j := by simp at hk; omega
      have hkl : k < L.length := by omega
      have ek : (L.take j).getD k (0, 0) = L[k] := by simp [List.getD, hk', hkl]
      rw [ej, ek] at hm
      have := List.pairwise_iff_getElem.1 hr k j hkl hj hk'
      have hk2 := h L[k] (List.getElem_mem hkl)
      unfold Meets at hm
      unfold LexLt at this
      omega
theorem prs_ends {N : Nat} {p : Nat → Nat → Bool} : ∀ e ∈ prsTo N p N, 0 ≤ e.1 ∧ e.1 < e.2 ∧ e.2 < (N : Int) := fun e he => by
  obtain ⟨i, j, h1, h2, h3, -, rfl⟩ := mem_prsTo.1 he
  simp only; omega
theorem good_prs {N : Nat} {p : Nat → Nat → Bool} (hN : N ≤ 100) (hl : (prsTo N p N).length ≤ 1000) : GoodGraph N (prsTo N p N) := good_rise hN hl (prsTo_rise _ _ _) prs_ends
/-- A graph in form has as many edges as the graph. -/
theorem form_length {l : List (Int × Int)} {N : Nat} (hg : GoodGraph N l) : (prsTo N (adj l) N).length = l.length := by
  have h1 : (prsTo N (adj l) N).Perm (l.map norm) := (List.perm_ext_iff_of_nodup (rise_nodup (prsTo_rise _ _ _)) (form_nodup hg)).2 fun e => (form_mem hg e).symm
  rw [h1.length_eq, List.length_map]

end Go.Proofs.Ytbnbhjeknocboaa
namespace Go.Proofs.Ytbnbhjeknocboaa
open Go.RowKit

/-- Does edge a touch node v? -/
def touch (l : List (Int × Int)) (a v : Nat) : Bool := decide ((l.getD a (0, 0)).1 = (v : Int) ∨ (l.getD a (0, 0)).2 = (v : Int))
/-- Do two edges share a node? -/
def share (l : List (Int × Int)) (a b : Nat) : Bool :=
  decide ((l.getD a (0, 0)).1 = (l.getD b (0, 0)).1 ∨ (l.getD a (0, 0)).1 = (l.getD b (0, 0)).2 ∨ (l.getD a (0, 0)).2 = (l.getD b (0, 0)).1 ∨ (l.getD a (0, 0)).2 = (l.getD b (0, 0)).2)

theorem adj_symm (l : List (Int × Int)) (i j : Nat) : adj l i j = adj l j i := by
  unfold adj hasE
  congr 1
  funext e
  unfold Meets
  congr 1
  exact propext ⟨fun h => h.symm, fun h => h.symm⟩
theorem adj_nil (i j : Nat) : adj [] i j = false := rfl

theorem GoodGraph.at {l : List (Int × Int)} {N : Nat} (hg : GoodGraph N l) {k : Nat} (hk : k < l.length) :
    ∃ X Y : Nat, l.getD k (0, 0) = ((X : Int), (Y : Int)) ∧ X < N ∧ Y < N ∧ X ≠ Y ∧ adj (l.take k) X Y = false := by
  obtain ⟨h1, h2, h3⟩ := hg.fine k hk
  generalize l.getD k (0, 0) = e at *
  obtain ⟨x, y⟩ := e
  unfold EndsOk at h1
  simp only at h1 h2 h3
  refine ⟨x.toNat, y.toNat, ?_, by omega, by omega, by omega, ?_⟩
  · rw [Int.toNat_of_nonneg h1.1, Int.toNat_of_nonneg h1.2.1]
  · unfold adj; rw [Int.toNat_of_nonneg h1.1, Int.toNat_of_nonneg h1.2.1]; exact h3

theorem deg_step {l : List (Int × Int)} {N k X Y : Nat} (hk : k < l.length) (he : l.getD k (0, 0) = ((X : Int), (Y : Int))) (hX : X < N) (hY : Y < N) (hne : X ≠ Y) (h0 : adj (l.take k) X Y = false) (v : Nat) :
    cntN N (adj (l.take (k + 1)) v) = cntN N (adj (l.take k) v) + ((if v = X then 1 else 0) + (if v = Y then 1 else 0)) := by
  by_cases e1 : v = X
  · subst e1
    rw [if_pos rfl, if_neg hne, ← cntN_one hY h0]
    refine cntN_congr fun j _ => ?_
    rw [← adj_succ hk he, if_neg (fun h => hne h.1)]
    by_cases e : j = Y <;> simp [e]
  · by_cases e2 : v = Y
    · subst e2
      rw [if_neg e1, if_pos rfl, ← cntN_one hX (by rw [adj_symm]; exact h0)]
      refine cntN_congr fun j _ => ?_
      rw [← adj_succ hk he]
      by_cases e : j = X
      · simp [e]
      · rw [if_neg (fun h => e h.2), if_neg (fun h => e1 h.1)]; simp [e]
    · rw [if_neg e1, if_neg e2]
      refine cntN_congr fun j _ => ?_
      rw [← adj_succ hk he, if_neg (fun h => e2 h.1), if_neg (fun h => e1 h.1)]

theorem touch_at {l : List (Int × Int)} {k X Y : Nat} (he : l.getD k (0, 0) = ((X : Int), (Y : Int))) (v : Nat) : touch l k v = decide (v = X ∨ v = Y) := by
  unfold touch; rw [he]
  simp only [decide_eq_decide]
  omega
theorem touch_step {l : List (Int × Int)} {k X Y : Nat} (he : l.getD k (0, 0) = ((X : Int), (Y : Int))) (hne : X ≠ Y) (v : Nat) :
    cntN (k + 1) (fun a => touch l a v) = cntN k (fun a => touch l a v) + ((if v = X then 1 else 0) + (if v = Y then 1 else 0)) := by
  rw [cntN_succ, touch_at he]
  by_cases e1 : v = X
  · have : ¬ v = Y := by omega
    simp [e1, hne]
  · by_cases e2 : v = Y
    · simp [e2, Ne.symm hne]
    · simp [e1, e2]

/-- Nodes see as many as there are edges, twice; and as many as edges touch them. -/
theorem deg_all {l : List (Int × Int)} {N : Nat} (hg : GoodGraph N l) : ∀ k, k ≤ l.length → (∀ v, cntN N (adj (l.take k) v) = cntN k (fun a => touch l a v)) ∧ sumN N (fun v => cntN N (adj (l.take k) v)) = 2 * k := by
  intro k
  induction k with
  | zero =>
    intro _
    have h0 : ∀ v, cntN N (adj (l.take 0) v) = 0 := fun v => by
      rw [cntN_congr (q := fun _ => false) (fun j _ => by simp [adj_nil]), cntN_false]
    exact ⟨fun v => h0 v, by rw [sumN_congr (g := fun _ => 0) (fun v _ => h0 v), sumN_const0]⟩
  | succ k ih =>
    intro hk
    obtain ⟨i1, i2⟩ := ih (by omega)
    obtain ⟨X, Y, he, hX, hY, hne, h0⟩ := hg.at (show k < l.length by omega)
    refine ⟨fun v => by rw [deg_step (by omega) he hX hY hne h0, touch_step he hne, i1], ?_⟩
    rw [sumN_congr (fun v _ => deg_step (by omega) he hX hY hne h0 v), sumN_add, sumN_add, i2, sumN_pick hX, sumN_pick hY]
    omega

theorem half_step (T : Nat) : (T + 1) * (T + 1 - 1) / 2 = T * (T - 1) / 2 + T := by
  cases T with
  | zero => rfl
  | succ t =>
    have e : (t + 1 + 1) * (t + 1 + 1 - 1) = (t + 1) * (t + 1 - 1) + 2 * (t + 1) := by
      simp only [Nat.add_sub_cancel, Nat.add_mul, Nat.mul_add]; omega
    rw [e, Nat.add_mul_div_left _ _ (by omega : 0 < 2)]

theorem share_at {l : List (Int × Int)} {a k X Y : Nat} (he : l.getD k (0, 0) = ((X : Int), (Y : Int))) : share l a k = (touch l a X || touch l a Y) := by
  unfold share touch
  rw [he, Bool.eq_iff_iff]
  simp only [decide_eq_true_eq, Bool.or_eq_true]
  omega
theorem touch_both {l : List (Int × Int)} {a k X Y : Nat} (ha : a < k) (hk : k < l.length) (h0 : adj (l.take k) X Y = false) (hne : X ≠ Y) (h : touch l a X = true) : touch l a Y = false := by
  refine decide_eq_false fun h' => ?_
  have h := of_decide_eq_true h
  have hm : Meets (l.getD a (0, 0)) X Y := by unfold Meets; omega
  have ha' : a < (l.take k).length := by simp; omega
  have e' : (l.take k).getD a (0, 0) = l.getD a (0, 0) := by simp [List.getD, ha]
  have := hasE_yes (l := l.take k) ha' (by rw [e']; exact hm)
  unfold adj at h0
  rw [this] at h0
  cases h0

/-- As many pairs of edges share a node as there are pairs of edges at the nodes. -/
theorem share_pairs {l : List (Int × Int)} {N : Nat} (hg : GoodGraph N l) : ∀ k, k ≤ l.length → (prsTo k (share l) k).length = sumN N (fun v => cntN k (fun a => touch l a v) * (cntN k (fun a => touch l a v) - 1) / 2) := by
  intro k
  induction k with
  | zero =>
    intro _
    rw [sumN_congr (g := fun _ => 0) (fun v _ => by rw [cntN_zero]), sumN_const0]; rfl
  | succ k ih =>
    intro hk
    obtain ⟨X, Y, he, hX, hY, hne, h0⟩ := hg.at (show k < l.length by omega)
    rw [prsTo_len_succ, ih (by omega)]
    have e1 : cntN k (fun i => share l i k) = cntN k (fun a => touch l a X) + cntN k (fun a => touch l a Y) := by
      rw [← cntN_or]
      · exact cntN_congr fun i _ => share_at he
      · exact fun i hi h => touch_both hi (by omega) h0 hne h
    have e2 : ∀ v, cntN (k + 1) (fun a => touch l a v) * (cntN (k + 1) (fun a => touch l a v) - 1) / 2 = cntN k (fun a => touch l a v) * (cntN k (fun a => touch l a v) - 1) / 2 + ((if v = X then cntN k (fun a => touch l a X) else 0) + (if v = Y then cntN k (fun a => touch l a Y) else 0)) := by
      intro v
      rw [touch_step he hne]
      by_cases q1 : v = X
      · subst q1
        rw [if_pos rfl, if_neg hne, if_pos rfl, if_neg hne, Nat.add_zero, half_step, Nat.add_zero]
      · by_cases q2 : v = Y
        · subst q2
          rw [if_neg q1, if_pos rfl, if_neg q1, if_pos rfl, Nat.zero_add, half_step, Nat.zero_add]
        · rw [if_neg q1, if_neg q2, if_neg q1, if_neg q2]; rfl
    rw [sumN_congr (fun v _ => e2 v), sumN_add, sumN_add, sumN_pick hX, sumN_pick hY, e1]

end Go.Proofs.Ytbnbhjeknocboaa
namespace Go.Proofs.Ytbnbhjeknocboaa

/-- The arcs of the nodes: node v is v, where one comes in, and N + v, where one goes out. -/
def nodeN (N s t : Nat) : Nat → List (Int × Int × Int)
  | 0 => []
  | v + 1 => nodeN N s t v ++ [((v : Int), ((N + v : Nat) : Int), if v = s ∨ v = t then (N : Int) else 1)]
/-- And those of the first k edges, there and back. -/
def besN (N s t : Nat) (l : List (Int × Int)) : Nat → List (Int × Int × Int)
  | 0 => nodeN N s t N
  | k + 1 => besN N s t l k ++ [(((N : Int) + (l.getD k (0, 0)).1), (l.getD k (0, 0)).2, (N : Int)), (((N : Int) + (l.getD k (0, 0)).2), (l.getD k (0, 0)).1, (N : Int))]
theorem nodeN_length (N s t : Nat) : ∀ v, (nodeN N s t v).length = v
  | 0 => rfl
  | v + 1 => by rw [nodeN, List.length_append, nodeN_length N s t v]; simp
theorem besN_length (N s t : Nat) (l : List (Int × Int)) : ∀ k, (besN N s t l k).length = N + 2 * k
  | 0 => nodeN_length N s t N
  | k + 1 => by rw [besN, List.length_append, besN_length N s t l k]; simp; omega
theorem nodeN_get (N s t : Nat) : ∀ n v, v < n → (nodeN N s t n).getD v (0, 0, 0) = ((v : Int), ((N + v : Nat) : Int), if v = s ∨ v = t then (N : Int) else 1)
  | 0, v, h => absurd h (Nat.not_lt_zero _)
  | n + 1, v, h => by
    have hl := nodeN_length N s t n
    rw [nodeN]
    by_cases e : v = n
    · subst e
      rw [List.getD, List.getElem?_append_right (by omega), hl]; simp
    · have := nodeN_get N s t n v (by omega)
      rw [List.getD] at this
      rw [List.getD, List.getElem?_append_left (by omega)]; exact this
theorem besN_node (N s t : Nat) (l : List (Int × Int)) : ∀ k v, v < N → (besN N s t l k).getD v (0, 0, 0) = ((v : Int), ((N + v : Nat) : Int), if v = s ∨ v = t then (N : Int) else 1)
  | 0, v, h => nodeN_get N s t N v h
  | k + 1, v, h => by
    have := besN_node N s t l k v h
    have hl := besN_length N s t l k
    rw [List.getD] at this
    rw [besN, List.getD, List.getElem?_append_left (by omega)]; exact this
theorem besN_edge (N s t : Nat) (l : List (Int × Int)) : ∀ n k, k < n → (besN N s t l n).getD (N + 2 * k) (0, 0, 0) = (((N : Int) + (l.getD k (0, 0)).1), (l.getD k (0, 0)).2, (N : Int)) ∧ (besN N s t l n).getD (N + 2 * k + 1) (0, 0, 0) = (((N : Int) + (l.getD k (0, 0)).2), (l.getD k (0, 0)).1, (N : Int))
  | 0, k, h => absurd h (Nat.not_lt_zero _)
  | n + 1, k, h => by
    have hl := besN_length N s t l n
    rw [besN]
    by_cases e : k = n
    · subst e
      constructor
      · rw [List.getD, List.getElem?_append_right (by omega), hl]; simp
      · rw [List.getD, List.getElem?_append_right (by omega), hl, show N + 2 * k + 1 - (N + 2 * k) = 1 by omega]; rfl
    · obtain ⟨h1, h2⟩ := besN_edge N s t l n k (by omega)
      rw [List.getD] at h1 h2
      constructor
      · rw [List.getD, List.getElem?_append_left (by omega)]; exact h1
      · rw [List.getD, List.getElem?_append_left (by omega)]; exact h2

/-- The net of a graph. -/
abbrev besL (N s t : Nat) (l : List (Int × Int)) : List (Int × Int × Int) := besN N s t l l.length

section
variable {N s t : Nat} {l : List (Int × Int)}
theorem bes_ok (hN : N ≤ 100) (hok : ∀ j, j < l.length → EndsOk N (l.getD j (0, 0))) : ∀ j, j < (besL N s t l).length → ArcOk ((2 * N : Nat) : Int) ((besL N s t l).getD j (0, 0, 0)) := fun j hj => by
  rw [besN_length] at hj
  by_cases e : j < N
  · rw [besN_node N s t l _ j e]
    refine ⟨by show (0 : Int) ≤ (j : Int); omega, by show (j : Int) < _; omega, by show (0 : Int) ≤ ((N + j : Nat) : Int); omega, by show ((N + j : Nat) : Int) < _; omega, ?_, ?_⟩
    · show (0 : Int) ≤ if _ then _ else _
      split <;> omega
    · show (if _ then _ else _) ≤ (1000000 : Int)
      split <;> omega
  · obtain ⟨h1, h2⟩ := besN_edge N s t l l.length ((j - N) / 2) (by omega)
    obtain ⟨a1, a2, a3, a4⟩ := hok ((j - N) / 2) (by omega)
    rcases (show j = N + 2 * ((j - N) / 2) ∨ j = N + 2 * ((j - N) / 2) + 1 by omega) with e | e
    · rw [e, h1]
      exact ⟨by show 0 ≤ (N : Int) + _; omega, by show (N : Int) + _ < _; omega, a2, Int.lt_of_lt_of_le a4 (by omega), by show (0 : Int) ≤ (N : Int); omega, by show (N : Int) ≤ 1000000; omega⟩
    · rw [e, h2]
      exact ⟨by show 0 ≤ (N : Int) + _; omega, by show (N : Int) + _ < _; omega, a1, Int.lt_of_lt_of_le a3 (by omega), by show (0 : Int) ≤ (N : Int); omega, by show (N : Int) ≤ 1000000; omega⟩

/-- An arc that comes from an inner node is that node's own. -/
theorem bes_in (hok : ∀ j, j < l.length → EndsOk N (l.getD j (0, 0))) {k v : Nat} (hk : k < (besL N s t l).length) (hv : v < N) (hf : fromL (besL N s t l) k = v) : k = v ∧ toL (besL N s t l) k = N + v := by
  rw [besN_length] at hk
  unfold fromL at hf
  unfold toL
  by_cases e : k < N
  · rw [besN_node N s t l _ k e] at hf ⊢
    simp only [Int.toNat_natCast] at hf ⊢
    omega
  · obtain ⟨h1, h2⟩ := besN_edge N s t l l.length ((k - N) / 2) (by omega)
    obtain ⟨a1, a2, a3, a4⟩ := hok ((k - N) / 2) (by omega)
    rcases (show k = N + 2 * ((k - N) / 2) ∨ k = N + 2 * ((k - N) / 2) + 1 by omega) with e | e
    · rw [e, h1] at hf; simp only at hf; omega
    · rw [e, h2] at hf; simp only at hf; omega
/-- An arc that comes from an outer node is one of its edges. -/
theorem bes_out (hok : ∀ j, j < l.length → EndsOk N (l.getD j (0, 0))) {k v : Nat} (hk : k < (besL N s t l).length) (hf : fromL (besL N s t l) k = N + v) : N ≤ k ∧ toL (besL N s t l) k < N ∧ adj l v (toL (besL N s t l) k) = true := by
  rw [besN_length] at hk
  unfold fromL at hf
  unfold toL
  by_cases e : k < N
  · rw [besN_node N s t l _ k e] at hf
    simp only [Int.toNat_natCast] at hf
    omega
  · obtain ⟨h1, h2⟩ := besN_edge N s t l l.length ((k - N) / 2) (by omega)
    obtain ⟨a1, a2, a3, a4⟩ := hok ((k - N) / 2) (by omega)
    refine ⟨by omega, ?_⟩
    rcases (show k = N + 2 * ((k - N) / 2) ∨ k = N + 2 * ((k - N) / 2) + 1 by omega) with e | e
    · rw [e, h1] at hf ⊢
      simp only at hf ⊢
      refine ⟨by omega, hasE_yes (k := (k - N) / 2) (by omega) ?_⟩
      unfold Meets
      omega
    · rw [e, h2] at hf ⊢
      simp only at hf ⊢
      refine ⟨by omega, hasE_yes (k := (k - N) / 2) (by omega) ?_⟩
      unfold Meets
      omega

/-- The nodes of a way through the net. -/
def besV (N t : Nat) (P : List Nat) : List Nat := P.filterMap fun v => if N ≤ v then some (v - N) else if v = t then some v else none
theorem besV_snoc (N t : Nat) (P : List Nat) (v : Nat) : besV N t (P ++ [v]) = besV N t P ++ (if N ≤ v then [v - N] else if v = t then [v] else []) := by
  unfold besV
  rw [List.filterMap_append]
  congr 1
  by_cases e : N ≤ v
  · simp [e]
  · by_cases e2 : v = t
    · simp only [List.filterMap_cons, List.filterMap_nil, if_neg e, if_pos e2]
    · simp only [List.filterMap_cons, List.filterMap_nil, if_neg e, if_neg e2]
theorem take_snocN {L : List Nat} {i : Nat} (h : i < L.length) : L.take (i + 1) = L.take i ++ [L.getD i 0] := by
  rw [List.take_succ_eq_append_getElem h]
  simp [List.getD, h]

/-- The nodes so far: v is where the way stands. -/
structure BesI (N s t : Nat) (l : List (Int × Int)) (K : List Nat) (v : Nat) (q : List Nat) : Prop where
  ne : 0 < q.length
  head : q.getD 0 0 = s
  adj : ∀ j, j + 1 < q.length → adj l (q.getD j 0) (q.getD (j + 1) 0) = true
  inn : ∀ j, j < q.length → q.getD j 0 < N
  used : ∀ j, j < q.length → q.getD j 0 ≠ s → q.getD j 0 ≠ t → q.getD j 0 ∈ K
  out : N ≤ v → q.getD (q.length - 1) 0 = v - N
  fin : v < N → v = t → q.getD (q.length - 1) 0 = t ∧ 2 ≤ q.length
  mid : v < N → v ≠ t → Go.Proofs.Ytbnbhjeknocboaa.adj l (q.getD (q.length - 1) 0) v = true
theorem BesI.app {K : List Nat} {v w x : Nat} {q : List Nat} (h : BesI N s t l K v q) (hx : x < N) (ha : Go.Proofs.Ytbnbhjeknocboaa.adj l (q.getD (q.length - 1) 0) x = true) {K' : List Nat} (hK : ∀ y, y ∈ K → y ∈ K') (hu : x ≠ s → x ≠ t → x ∈ K') (hw : (N ≤ w ∧ x = w - N) ∨ (w < N ∧ w = t ∧ x = t)) : BesI N s t l K' w (q ++ [x]) := by
  have hne := h.ne
  have hlen : (q ++ [x]).length = q.length + 1 := by simp
  refine ⟨by omega, by rw [getD_app_lt hne]; exact h.head, fun j hj => ?_, fun j hj => ?_, fun j hj h1 h2 => ?_, fun hw2 => ?_, fun hw2 hw3 => ?_, fun hw2 hw3 => ?_⟩
  · rw [hlen] at hj
    rw [getD_app_lt (by omega)]
    by_cases e : j + 1 = q.length
    · rw [e, getD_app_eq, show j = q.length - 1 by omega]; exact ha
    · rw [getD_app_lt (by omega)]; exact h.adj j (by omega)
  · rw [hlen] at hj
    by_cases e : j = q.length
    · rw [e, getD_app_eq]; exact hx
    · rw [getD_app_lt (by omega)]; exact h.inn j (by omega)
  · rw [hlen] at hj
    by_cases e : j = q.length
    · rw [e, getD_app_eq] at h1 h2 ⊢; exact hu h1 h2
    · rw [getD_app_lt (by omega)] at h1 h2 ⊢; exact hK _ (h.used j (by omega) h1 h2)
  · rw [hlen, Nat.add_sub_cancel, getD_app_eq]; omega
  · rw [hlen, Nat.add_sub_cancel, getD_app_eq]; omega
  · omega

theorem bes_way (hok : ∀ j, j < l.length → EndsOk N (l.getD j (0, 0))) (htN : t < N) (hsN : s < N) {F0 F : Nat → Nat} {P K : List Nat} (h : Trail (besL N s t l) (besL N s t l).length (N + s) t F0 F P K) : ∀ i, i < P.length → BesI N s t l (K.take i) (P.getD i 0) (besV N t (P.take (i + 1))) := by
  intro i
  induction i with
  | zero =>
    intro hi
    have e : P.take (0 + 1) = [N + s] := by
      rw [take_snocN hi, h.head]; rfl
    rw [e, h.head]
    have e2 : besV N t [N + s] = [s] := by simp [besV]
    rw [e2]
    refine ⟨by simp, rfl, fun j hj => by simp at hj, fun j hj => ?_, fun j hj h1 _ => ?_, fun _ => ?_, fun h => by omega, fun h => by omega⟩
    · have : j = 0 := by simpa using hj
      subst this; exact hsN
    · have : j = 0 := by simpa using hj
      subst this; exact absurd rfl h1
    · show s = N + s - N
      omega
  | succ i ih =>
    intro hi
    have hl := h.len
    have hI := ih (by omega)
    obtain ⟨k1, k2, k3, k4⟩ := h.step i (by omega)
    rw [take_snocN hi, besV_snoc]
    have hKs : K.take (i + 1) = K.take i ++ [K.getD i 0] := take_snocN (by omega)
    have hK : ∀ y, y ∈ K.take i → y ∈ K.take (i + 1) := fun y hy => by rw [hKs]; exact List.mem_append_left _ hy
    by_cases hv : N ≤ P.getD i 0
    · have ho := hI.out hv
      obtain ⟨o1, o2, o3⟩ := bes_out hok k1 (v := P.getD i 0 - N) (by rw [k2]; omega)
      rw [k3] at o2 o3
      rw [if_neg (by omega)]
      by_cases e : P.getD (i + 1) 0 = t
      · rw [if_pos e]
        exact hI.app o2 (by rw [ho]; exact o3) hK (fun _ h2 => absurd e h2) (Or.inr ⟨o2, e, e⟩)
      · rw [if_neg e, List.append_nil]
        exact ⟨hI.ne, hI.head, hI.adj, hI.inn, fun j hj h1 h2 => hK _ (hI.used j hj h1 h2), fun h => by omega, fun _ h => absurd h e, fun _ _ => by rw [ho]; exact o3⟩
    · have hv' : P.getD i 0 < N := by omega
      have hm := hI.mid hv' k4
      obtain ⟨b1, b2⟩ := bes_in hok k1 hv' k2
      rw [k3] at b2
      rw [if_pos (by omega), show P.getD (i + 1) 0 - N = P.getD i 0 by omega]
      exact hI.app hv' hm hK (fun _ _ => by rw [hKs, b1]; exact List.mem_append_right _ (by simp)) (Or.inl ⟨by omega, by omega⟩)

/-- A way from s to t, no node twice. -/
structure WayP (l : List (Int × Int)) (N s t : Nat) (o : List Nat) : Prop where
  len : 2 ≤ o.length
  head : o.getD 0 0 = s
  last : o.getD (o.length - 1) 0 = t
  lt : ∀ j, j < o.length → o.getD j 0 < N
  adj : ∀ j, j + 1 < o.length → adj l (o.getD j 0) (o.getD (j + 1) 0) = true
  dif : ∀ i j, i < j → j < o.length → o.getD i 0 ≠ o.getD j 0

/-- What has been left of a way through the net is a way, and its inner nodes are the net's. -/
theorem way_of (hok : ∀ j, j < l.length → EndsOk N (l.getD j (0, 0))) (htN : t < N) (hsN : s < N) (hst : s ≠ t) {F0 F : Nat → Nat} {P K o : List Nat} (h : Trail (besL N s t l) (besL N s t l).length (N + s) t F0 F P K) (hend : P.getD K.length 0 = t) (ho : StrOk (besV N t P) (besV N t P).length o) :
    WayP l N s t o ∧ ∀ j, 0 < j → j + 1 < o.length → o.getD j 0 ∈ K ∧ o.getD j 0 ≠ s ∧ o.getD j 0 ≠ t := by
  have hl := h.len
  have hI := bes_way hok htN hsN h K.length (by omega)
  rw [hend, List.take_length, ← hl, List.take_length] at hI
  obtain ⟨f1, f2⟩ := hI.fin htN rfl
  have hk : 0 < (besV N t P).length := hI.ne
  have h1 := ho.head hk
  have h2 := ho.last hk
  have h3 := ho.some hk
  rw [hI.head] at h1
  rw [f1] at h2
  have hlen : 2 ≤ o.length := by
    rcases Nat.lt_or_ge 1 o.length with e | e
    · omega
    · have e1 : o.length - 1 = 0 := by omega
      rw [e1, h1] at h2
      exact absurd h2 hst
  have hmem : ∀ j, j < o.length → ∃ i, i < (besV N t P).length ∧ (besV N t P).getD i 0 = o.getD j 0 := fun j hj => by
    by_cases e : j + 1 < o.length
    · obtain ⟨i, i1, i2, -⟩ := ho.pair j e
      exact ⟨i, by omega, i2⟩
    · have : j = o.length - 1 := by omega
      subst this
      exact ⟨(besV N t P).length - 1, by omega, by rw [h2, f1]⟩
  refine ⟨⟨hlen, h1, h2, fun j hj => ?_, fun j hj => ?_, ho.dif⟩, fun j h0 hj => ?_⟩
  · obtain ⟨i, i1, i2⟩ := hmem j hj
    rw [← i2]; exact hI.inn i i1
  · obtain ⟨i, i1, i2, i3⟩ := ho.pair j hj
    rw [← i2, ← i3]; exact hI.adj i (by omega)
  · have n1 : o.getD j 0 ≠ s := fun e => ho.dif 0 j h0 (by omega) (by rw [h1, e])
    have n2 : o.getD j 0 ≠ t := fun e => ho.dif j (o.length - 1) (by omega) (by omega) (by rw [h2, e])
    obtain ⟨i, i1, i2⟩ := hmem j (by omega)
    refine ⟨?_, n1, n2⟩
    rw [← i2] at n1 n2 ⊢
    exact hI.used i i1 n1 n2
end

end Go.Proofs.Ytbnbhjeknocboaa
namespace Go.Proofs.Ytbnbhjeknocboaa

/-- A one for each edge. -/
abbrev onesL (m : Nat) : List Int := List.replicate m 1
/-- The net of a graph, an arc of 1 there and back for each edge. -/
abbrev apL (l : List (Int × Int)) : List (Int × Int × Int) := bothN l (onesL l.length) l.length
/-- What is left of a flow where what goes there and back cancels. -/
def apF (f : Nat → Nat) (k : Nat) : Nat := if k % 2 = 0 then f k - f (k + 1) else f k - f (k - 1)

section
variable {N s t : Nat} {l : List (Int × Int)}
theorem apL_length (l : List (Int × Int)) : (apL l).length = 2 * l.length := bothN_length _ _ _
theorem apL_arc (hg : GoodGraph N l) {e : Nat} (he : e < l.length) : ∃ X Y : Nat, l.getD e (0, 0) = ((X : Int), (Y : Int)) ∧ X < N ∧ Y < N ∧ X ≠ Y ∧
    fromL (apL l) (2 * e) = X ∧ toL (apL l) (2 * e) = Y ∧ capL (apL l) (2 * e) = 1 ∧ fromL (apL l) (2 * e + 1) = Y ∧ toL (apL l) (2 * e + 1) = X ∧ capL (apL l) (2 * e + 1) = 1 := by
  obtain ⟨X, Y, h1, h2, h3, h4, -⟩ := hg.at he
  obtain ⟨g1, g2⟩ := bothN_get l (onesL l.length) l.length e he
  have e1 : (onesL l.length).getD e 0 = 1 := by simp [onesL, List.getD, he]
  rw [h1, e1] at g1 g2
  refine ⟨X, Y, h1, h2, h3, h4, ?_, ?_, ?_, ?_, ?_, ?_⟩
  · unfold fromL; rw [g1]; rfl
  · unfold toL; rw [g1]; rfl
  · unfold capL; rw [g1]; rfl
  · unfold fromL; rw [g2]; rfl
  · unfold toL; rw [g2]; rfl
  · unfold capL; rw [g2]; rfl

/-- Cancelling turns no balance. -/
theorem apF_out (hg : GoodGraph N l) (f : Nat → Nat) (u : Nat) : ∀ k, k ≤ l.length → outL (apL l) (apF f) u (2 * k) = outL (apL l) f u (2 * k) := by
  intro k
  induction k with
  | zero => intro _; rfl
  | succ k ih =>
    intro hk
    obtain ⟨X, Y, -, -, -, hne, a1, a2, -, b1, b2, -⟩ := apL_arc hg (show k < l.length by omega)
    have h := ih (by omega)
    unfold outL at h ⊢
    rw [show 2 * (k + 1) = 2 * k + 1 + 1 by omega]
    simp only [sumZ]
    rw [h, a1, a2, b1, b2]
    have e1 : apF f (2 * k) = f (2 * k) - f (2 * k + 1) := by unfold apF; rw [if_pos (by omega)]
    have e2 : apF f (2 * k + 1) = f (2 * k + 1) - f (2 * k) := by unfold apF; rw [if_neg (by omega)]; rfl
    rw [e1, e2]
    by_cases q1 : X = u
    · have q2 : ¬ Y = u := by omega
      simp only [q1, q2, if_true, if_false]; omega
    · by_cases q2 : Y = u
      · simp only [q1, q2, if_true, if_false]; omega
      · simp only [q1, q2, if_false]
theorem apF_even (f : Nat → Nat) (e : Nat) : apF f (2 * e) = f (2 * e) - f (2 * e + 1) := by unfold apF; rw [if_pos (by omega)]
theorem apF_odd (f : Nat → Nat) (e : Nat) : apF f (2 * e + 1) = f (2 * e + 1) - f (2 * e) := by unfold apF; rw [if_neg (by omega)]; rfl
theorem apF_both (f : Nat → Nat) (e : Nat) : apF f (2 * e) = 0 ∨ apF f (2 * e + 1) = 0 := by
  have e1 : apF f (2 * e) = f (2 * e) - f (2 * e + 1) := by unfold apF; rw [if_pos (by omega)]
  have e2 : apF f (2 * e + 1) = f (2 * e + 1) - f (2 * e) := by unfold apF; rw [if_neg (by omega)]; rfl
  omega
theorem apF_le (f : Nat → Nat) (k : Nat) : apF f k ≤ f k := by unfold apF; split <;> omega

/-- There is one edge between two nodes. -/
theorem edge_uniq (hg : GoodGraph N l) {e e' : Nat} (he : e < l.length) (he' : e' < l.length) {x y : Int} (h : Meets (l.getD e (0, 0)) x y) (h' : Meets (l.getD e' (0, 0)) x y) : e = e' := by
  have key : ∀ {a b : Nat}, a < b → b < l.length → Meets (l.getD a (0, 0)) x y → Meets (l.getD b (0, 0)) x y → False := fun {a b} hab hb h1 h2 => by
    have hf := (hg.fine b hb).2.2
    have ha : a < (l.take b).length := by simp; omega
    have e1 : (l.take b).getD a (0, 0) = l.getD a (0, 0) := by simp [List.getD, hab]
    have := hasE_yes (l := l.take b) (a := (l.getD b (0, 0)).1) (b := (l.getD b (0, 0)).2) ha (by rw [e1]; unfold Meets at *; omega)
    rw [this] at hf
    cases hf
  rcases Nat.lt_trichotomy e e' with h1 | h1 | h1
  · exact (key h1 he' h h').elim
  · exact h1
  · exact (key h1 he h' h).elim
/-- An arc's edge. -/
theorem arc_edge (hg : GoodGraph N l) {k : Nat} (hk : k < (apL l).length) : k / 2 < l.length ∧ fromL (apL l) k < N ∧ toL (apL l) k < N ∧ fromL (apL l) k ≠ toL (apL l) k ∧ Meets (l.getD (k / 2) (0, 0)) (fromL (apL l) k) (toL (apL l) k) := by
  rw [apL_length] at hk
  have he : k / 2 < l.length := by omega
  obtain ⟨X, Y, h1, h2, h3, h4, a1, a2, -, b1, b2, -⟩ := apL_arc hg he
  refine ⟨he, ?_⟩
  rcases (show k = 2 * (k / 2) ∨ k = 2 * (k / 2) + 1 by omega) with e | e
  · rw [show fromL (apL l) k = X by rw [e, a1], show toL (apL l) k = Y by rw [e, a2], h1]
    exact ⟨h2, h3, h4, Or.inl ⟨rfl, rfl⟩⟩
  · rw [show fromL (apL l) k = Y by rw [e, b1], show toL (apL l) k = X by rw [e, b2], h1]
    exact ⟨h3, h2, Ne.symm h4, Or.inr ⟨rfl, rfl⟩⟩
theorem arc_adj (hg : GoodGraph N l) {k : Nat} (hk : k < (apL l).length) : adj l (fromL (apL l) k) (toL (apL l) k) = true := by
  obtain ⟨h1, -, -, -, h2⟩ := arc_edge hg hk
  exact hasE_yes h1 h2

/-- Two steps go along one edge. -/
def SameE (a b c d : Nat) : Prop := (a = c ∧ b = d) ∨ (a = d ∧ b = c)
/-- Two arcs along one edge, both of which carry something, are one. -/
theorem arc_one (hg : GoodGraph N l) {f : Nat → Nat} {k k' : Nat} (hk : k < (apL l).length) (hk' : k' < (apL l).length) (h : SameE (fromL (apL l) k) (toL (apL l) k) (fromL (apL l) k') (toL (apL l) k')) (h0 : 0 < apF f k) (h0' : 0 < apF f k') : k = k' := by
  obtain ⟨h1, -, -, -, h2⟩ := arc_edge hg hk
  obtain ⟨h1', -, -, -, h2'⟩ := arc_edge hg hk'
  have e : k / 2 = k' / 2 := edge_uniq hg h1 h1' h2 (by unfold Meets SameE at *; omega)
  obtain ⟨m, hm⟩ : ∃ m, m = k / 2 := ⟨_, rfl⟩
  have h3 := apF_both f m
  rcases (show k = 2 * m ∨ k = 2 * m + 1 by omega) with e1 | e1 <;> rcases (show k' = 2 * m ∨ k' = 2 * m + 1 by omega) with e2 | e2
  · omega
  · rw [e1] at h0; rw [e2] at h0'; omega
  · rw [e1] at h0; rw [e2] at h0'; omega
  · omega

/-- The ways so far: n are left; KK is what has been used up. -/
structure ApI (N s t : Nat) (l : List (Int × Int)) (f : Nat → Nat) (n : Nat) (F : Nat → Nat) (W : List (List Nat)) (KK : List Nat) : Prop where
  flow : ∀ u, outL (apL l) F u (apL l).length = (n : Int) * ((if s = u then 1 else 0) - (if t = u then 1 else 0))
  used : ∀ k, F k + KK.count k = apF f k
  way : ∀ i, i < W.length → WayP l N s t (W.getD i [])
  arc : ∀ i, i < W.length → ∀ p, p + 1 < (W.getD i []).length → ∃ k, k ∈ KK ∧ k < (apL l).length ∧ fromL (apL l) k = (W.getD i []).getD p 0 ∧ toL (apL l) k = (W.getD i []).getD (p + 1) 0
  dis : ∀ i j, i < j → j < W.length → ∀ p q, p + 1 < (W.getD i []).length → q + 1 < (W.getD j []).length → ¬ SameE ((W.getD i []).getD p 0) ((W.getD i []).getD (p + 1) 0) ((W.getD j []).getD q 0) ((W.getD j []).getD (q + 1) 0)
theorem ApI.start {f : Nat → Nat} {n : Nat} (h : ∀ u, outL (apL l) (apF f) u (apL l).length = (n : Int) * ((if s = u then 1 else 0) - (if t = u then 1 else 0))) : ApI N s t l f n (apF f) [] [] :=
  ⟨h, fun k => by simp, fun i hi => absurd hi (Nat.not_lt_zero _), fun i hi => absurd hi (Nat.not_lt_zero _), fun i j _ hj => absurd hj (Nat.not_lt_zero _)⟩

theorem getD_app_l {α : Type} {L M : List α} {d : α} {j : Nat} (h : j < L.length) : (L ++ M).getD j d = L.getD j d := by simp [List.getD, List.getElem?_append_left h]
theorem getD_app_r {α : Type} {L : List α} {x d : α} : (L ++ [x]).getD L.length d = x := by simp [List.getD]
theorem ap_getD_mem {L : List Nat} {i : Nat} (h : i < L.length) : L.getD i 0 ∈ L := by
  have : L.getD i 0 = L[i] := by simp [List.getD, h]
  rw [this]; exact List.getElem_mem h
theorem count_pos_mem {L : List Nat} {k : Nat} (h : k ∈ L) : 0 < L.count k := List.count_pos_iff.2 h

/-- The nodes along a way are the graph's. -/
theorem ap_trail_lt (hg : GoodGraph N l) (hsN : s < N) {F0 F : Nat → Nat} {P K : List Nat} (h : Trail (apL l) (apL l).length s t F0 F P K) : ∀ j, j < P.length → P.getD j 0 < N := fun j hj => by
  have hl := h.len
  rcases Nat.eq_zero_or_pos j with e | e
  · subst e; rw [h.head]; exact hsN
  · obtain ⟨k1, -, k3, -⟩ := h.step (j - 1) (by omega)
    rw [show j - 1 + 1 = j by omega] at k3
    rw [← k3]; exact (arc_edge hg k1).2.2.1
/-- One way more: it has been followed, and made straight. -/
theorem ApI.more (hg : GoodGraph N l) {f : Nat → Nat} {n : Nat} {F F' : Nat → Nat} {W : List (List Nat)} {KK P K o : List Nat} (h : ApI N s t l f (n + 1) F W KK) (hf : ∀ k, k < (apL l).length → f k ≤ 1)
    (hst : s ≠ t) (hsN : s < N)
    (ht : Trail (apL l) (apL l).length s t F F' P K) (hend : P.getD K.length 0 = t) (hout : ∀ u, outL (apL l) F' u (apL l).length = (n : Int) * ((if s = u then 1 else 0) - (if t = u then 1 else 0)))
    (ho : StrOk P P.length o) : ApI N s t l f n F' (W ++ [o]) (KK ++ K) := by
  have hl := ht.len
  have hk0 : 0 < P.length := by omega
  have harc : ∀ p, p + 1 < o.length → ∃ k, k ∈ K ∧ k < (apL l).length ∧ fromL (apL l) k = o.getD p 0 ∧ toL (apL l) k = o.getD (p + 1) 0 := fun p hp => by
    obtain ⟨i, h1, h2, h3⟩ := ho.pair p hp
    obtain ⟨g1, g2, g3, -⟩ := ht.step i (by omega)
    exact ⟨_, ap_getD_mem (by omega), g1, by rw [g2, h2], by rw [g3, h3]⟩
  have hlen2 : 2 ≤ o.length := by
    have h1 := ho.some hk0
    rcases Nat.lt_or_ge o.length 2 with h2 | h2
    · have e : o.length = 1 := by omega
      have h3 := ho.head hk0
      have h4 := ho.last hk0
      rw [e] at h4
      rw [show (1 : Nat) - 1 = 0 from rfl, h3, ht.head, show P.length - 1 = K.length by omega, hend] at h4
      exact absurd h4 hst
    · exact h2
  have hway : WayP l N s t o := by
    refine ⟨hlen2, by rw [ho.head hk0, ht.head], by rw [ho.last hk0, show P.length - 1 = K.length by omega, hend], fun j hj => ?_, fun j hj => ?_, ho.dif⟩
    · rcases Nat.eq_zero_or_pos j with e | e
      · subst e; rw [ho.head hk0, ht.head]; exact hsN
      · obtain ⟨k, -, g1, -, g3⟩ := harc (j - 1) (by omega)
        rw [show j - 1 + 1 = j by omega] at g3
        rw [← g3]; exact (arc_edge hg g1).2.2.1
    · obtain ⟨k, -, g1, g2, g3⟩ := harc j hj
      rw [← g2, ← g3]; exact arc_adj hg g1
  have hcap : ∀ k, k < (apL l).length → KK.count k + K.count k ≤ 1 := fun k hk => by
    have h1 := h.used k
    have h2 := ht.left k
    have h3 := apF_le f k
    have h4 := hf k hk
    omega
  refine ⟨hout, fun k => ?_, fun i hi => ?_, fun i hi p hp => ?_, fun i j hij hj p q hp hq hs => ?_⟩
  · have h1 := h.used k
    have h2 := ht.left k
    rw [List.count_append]; omega
  · rw [List.length_append, List.length_singleton] at hi
    by_cases e : i = W.length
    · subst e; rw [getD_app_r]; exact hway
    · rw [getD_app_l (by omega)]; exact h.way i (by omega)
  · rw [List.length_append, List.length_singleton] at hi
    by_cases e : i = W.length
    · subst e
      rw [getD_app_r] at hp ⊢
      obtain ⟨k, g0, g1⟩ := harc p hp
      exact ⟨k, List.mem_append_right _ g0, g1⟩
    · rw [getD_app_l (by omega)] at hp ⊢
      obtain ⟨k, g0, g1⟩ := h.arc i (by omega) p hp
      exact ⟨k, List.mem_append_left _ g0, g1⟩
  · rw [List.length_append, List.length_singleton] at hj
    by_cases e : j = W.length
    · subst e
      rw [getD_app_r] at hq hs
      rw [getD_app_l (by omega)] at hp hs
      obtain ⟨k, g0, g1, g2, g3⟩ := h.arc i (by omega) p hp
      obtain ⟨k', g0', g1', g2', g3'⟩ := harc q hq
      have c1 := count_pos_mem g0
      have c2 := count_pos_mem g0'
      have u1 := h.used k
      have u2 := h.used k'
      have u3 := ht.left k'
      have ek : k = k' := arc_one hg (f := f) g1 g1' (by rw [g2, g3, g2', g3']; exact hs) (by omega) (by omega)
      subst ek
      have := hcap k g1
      omega
    · rw [getD_app_l (by omega)] at hp hs
      rw [getD_app_l (by omega)] at hq hs
      exact h.dis i j hij (by omega) p q hp hq hs
/-- What holds while a way is followed. -/
def ApInv (N s t : Nat) (l : List (Int × Int)) (n : Nat) (F : Nat → Nat) (v : Nat) : Prop :=
  (∀ u, outL (apL l) F u (apL l).length = (n : Int) * ((if s = u then 1 else 0) - (if t = u then 1 else 0)) + ((if v = u then 1 else 0) - (if t = u then 1 else 0))) ∧ v < N ∧ ∀ k, F k ≤ 1
theorem ApInv.on {n : Nat} {F : Nat → Nat} {v : Nat} (h : ApInv N s t l n F v) (hst : s ≠ t) (hvt : v ≠ t) : ∃ k, k < (apL l).length ∧ fromL (apL l) k = v ∧ 0 < F k := Trail.on h.1 hvt hst
theorem ApInv.step (hg : GoodGraph N l) {n : Nat} {F : Nat → Nat} {v k : Nat} (h : ApInv N s t l n F v) (hk : k < (apL l).length) (hf : fromL (apL l) k = v) (h0 : 0 < F k) : ApInv N s t l n (lessF F k) (toL (apL l) k) := by
  refine ⟨out_step h.1 hk hf h0, (arc_edge hg hk).2.2.1, fun q => ?_⟩
  have := h.2.2 q
  have := h.2.2 k
  unfold lessF
  split <;> omega
theorem ApI.begin {f : Nat → Nat} {n : Nat} {F : Nat → Nat} {W : List (List Nat)} {KK : List Nat} (h : ApI N s t l f (n + 1) F W KK) (hsN : s < N) (hf : ∀ k, f k ≤ 1) : ApInv N s t l n F s := by
  refine ⟨fun u => ?_, hsN, fun k => ?_⟩
  · rw [h.flow u, Int.natCast_add, Int.add_mul]; simp
  · have h1 := h.used k
    have h2 := apF_le f k
    have h3 := hf k
    omega
theorem ApInv.fin {n : Nat} {F : Nat → Nat} (h : ApInv N s t l n F t) : ∀ u, outL (apL l) F u (apL l).length = (n : Int) * ((if s = u then 1 else 0) - (if t = u then 1 else 0)) := fun u => by
  rw [h.1 u]; omega

/-- Does an edge lead over a cut? -/
def overB (S : Nat → Bool) (e : Int × Int) : Bool := S e.1.toNat != S e.2.toNat
theorem overB_norm (S : Nat → Bool) (e : Int × Int) : overB S (norm e) = overB S e := by
  unfold overB norm
  by_cases h : e.1 ≤ e.2
  · simp only [h, if_true]
  · simp only [h, if_false]
    cases S e.1.toNat <;> cases S e.2.toNat <;> rfl
theorem capE_ones (l : List (Int × Int)) (S : Nat → Bool) : ∀ k, k ≤ l.length → capE l (onesL l.length) S k = ((l.take k).filter (overB S)).length := by
  intro k
  induction k with
  | zero => intro _; rfl
  | succ k ih =>
    intro hk
    have e1 : (onesL l.length).getD k 0 = 1 := by simp [onesL, List.getD, show k < l.length by omega]
    have e2 : l.getD k (0, 0) = l[k] := by simp [List.getD, show k < l.length by omega]
    rw [capE, ih (by omega), e1, e2, List.take_succ_eq_append_getElem (by omega), List.filter_append, List.length_append]
    congr 1
    by_cases h : S l[k].1.toNat = S l[k].2.toNat
    · have : overB S l[k] = false := by unfold overB; rw [h]; simp
      rw [if_pos h]; simp [this]
    · have : overB S l[k] = true := by unfold overB; simpa using h
      rw [if_neg h]; simp [this]
/-- The edges of the cut. -/
def cutC (l : List (Int × Int)) (N : Nat) (S : Nat → Bool) : List (Int × Int) := (prsTo N (adj l) N).filter (overB S)
theorem cutC_length (hg : GoodGraph N l) (S : Nat → Bool) : (cutC l N S).length = capG l (onesL l.length) S := by
  have h1 : (prsTo N (adj l) N).Perm (l.map norm) := (List.perm_ext_iff_of_nodup (rise_nodup (prsTo_rise _ _ _)) (form_nodup hg)).2 fun e => (form_mem hg e).symm
  have h2 := (h1.filter (overB S)).length_eq
  unfold cutC
  rw [h2, List.filter_map, List.length_map]
  show (l.filter (overB S ∘ norm)).length = _
  have h3 : overB S ∘ norm = overB S := funext fun e => overB_norm S e
  rw [h3]
  have h4 := capE_ones l S l.length (Nat.le_refl _)
  rw [List.take_length] at h4
  exact h4.symm

/-- What flow.Apart answers where all is well. -/
structure ApOk (N : Nat) (l : List (Int × Int)) (s t : Nat) (W : List (List Nat)) (C : List (Int × Int)) : Prop where
  len : W.length = C.length
  way : ∀ i, i < W.length → WayP l N s t (W.getD i [])
  dis : ∀ i j, i < j → j < W.length → ∀ p q, p + 1 < (W.getD i []).length → q + 1 < (W.getD j []).length → ¬ SameE ((W.getD i []).getD p 0) ((W.getD i []).getD (p + 1) 0) ((W.getD j []).getD q 0) ((W.getD j []).getD (q + 1) 0)
  mem : ∀ e ∈ C, ∃ i j : Nat, e = ((i : Int), (j : Int)) ∧ i < j ∧ j < N ∧ adj l i j = true
  rise : C.Pairwise LexLt
  cut : ∃ S : Nat → Bool, S s = true ∧ S t = false ∧ ∀ i j : Nat, i < j → j < N → adj l i j = true → S i ≠ S j → ((i : Int), (j : Int)) ∈ C
theorem ap_ok (hg : GoodGraph N l) {sum : Nat} {X : Nat → List Nat} {lev : Nat → Int} (h : MostOk N (2 * (apL l).length) (apL l) s t sum X lev) (hs : s < N) {f F : Nat → Nat} {W : List (List Nat)} {KK : List Nat} (hI : ApI N s t l f 0 F W KK) (hW : W.length = sum) :
    ApOk N l s t W (cutC l N fun v => decide (0 ≤ lev v)) := by
  obtain ⟨h1, -⟩ := h.least hs
  have hL := h.law hs
  refine ⟨by rw [hW, cutC_length hg, h1], hI.way, hI.dis, fun e he => ?_, (prsTo_rise _ _ _).filter _, fun v => decide (0 ≤ lev v), decide_eq_true hL.src, decide_eq_false (Int.not_le.2 hL.snk), fun i j hij hj ha hS => ?_⟩
  · obtain ⟨he1, -⟩ := List.mem_filter.1 he
    obtain ⟨i, j, -, g2, g3, g4, rfl⟩ := mem_prsTo.1 he1
    exact ⟨i, j, rfl, g2, g3, g4⟩
  · refine List.mem_filter.2 ⟨mem_prsTo.2 ⟨i, j, by omega, hij, hj, ha, rfl⟩, ?_⟩
    unfold overB
    simpa using hS
theorem ap_start (hg : GoodGraph N l) {sum : Nat} {X : Nat → List Nat} {lev : Nat → Int} (h : MostOk N (2 * (apL l).length) (apL l) s t sum X lev) (hs : s < N) :
    ApI N s t l (fun k => leftX X (2 * k + 1)) sum (apF fun k => leftX X (2 * k + 1)) [] [] ∧ (∀ k, k < (apL l).length → leftX X (2 * k + 1) ≤ 1) ∧ sum ≤ l.length := by
  have hL := h.law hs
  have hle : ∀ k, k < (apL l).length → leftX X (2 * k + 1) ≤ 1 := fun k hk => by
    have h1 := hL.le k hk
    rw [apL_length] at hk
    obtain ⟨X', Y', -, -, -, -, -, -, a, -, -, b⟩ := apL_arc hg (show k / 2 < l.length by omega)
    rcases (show k = 2 * (k / 2) ∨ k = 2 * (k / 2) + 1 by omega) with e | e
    · rw [← e] at a; omega
    · rw [← e] at b; omega
  refine ⟨ApI.start fun u => ?_, hle, ?_⟩
  · have h1 := apF_out hg (fun k => leftX X (2 * k + 1)) u l.length (Nat.le_refl _)
    have h2 := hL.out u
    rw [apL_length] at h2 ⊢
    rw [h1, h2]
    by_cases e1 : s = u <;> by_cases e2 : t = u <;> simp [e1, e2]
  · obtain ⟨h1, -⟩ := h.least hs
    rw [← h1, ← cutC_length hg]
    unfold cutC
    refine Nat.le_trans (List.length_filter_le _ _) ?_
    have h2 : (prsTo N (adj l) N).Perm (l.map norm) := (List.perm_ext_iff_of_nodup (rise_nodup (prsTo_rise _ _ _)) (form_nodup hg)).2 fun e => (form_mem hg e).symm
    rw [h2.length_eq, List.length_map]
    exact Nat.le_refl _
end

end Go.Proofs.Ytbnbhjeknocboaa
namespace Go.Proofs.Ytbnbhjeknocboaa

/-- What has been marked: edges of the ways before the i-th, and of the i-th before its k-th node. -/
def UsedE (W : List (List Nat)) (i k : Nat) (J : Nat → Nat → Bool) : Prop :=
  ∀ u v, J u v = true → ∃ j p, (j < i ∨ (j = i ∧ p + 1 < k)) ∧ j < W.length ∧ p + 1 < (W.getD j []).length ∧ SameE ((W.getD j []).getD p 0) ((W.getD j []).getD (p + 1) 0) u v
theorem UsedE.start (W : List (List Nat)) : UsedE W 0 1 (adj []) := fun _ _ h => by cases h
theorem UsedE.next {W : List (List Nat)} {i k : Nat} {J : Nat → Nat → Bool} (h : UsedE W i k J) : UsedE W (i + 1) 1 J := fun u v hv => by
  obtain ⟨j, p, h1, h2⟩ := h u v hv
  exact ⟨j, p, Or.inl (by omega), h2⟩
/-- Marked there and back. -/
def markE (J : Nat → Nat → Bool) (x y : Nat) : Nat → Nat → Bool := fun i j => if i = y ∧ j = x then true else if i = x ∧ j = y then true else J i j
theorem UsedE.more {W : List (List Nat)} {i k : Nat} {J : Nat → Nat → Bool} (h : UsedE W i k J) (hi : i < W.length) (h0 : 0 < k) (hk : k < (W.getD i []).length) : UsedE W i (k + 1) (markE J ((W.getD i []).getD (k - 1) 0) ((W.getD i []).getD k 0)) := fun u v hv => by
  unfold markE at hv
  have e1 : k - 1 + 1 = k := by omega
  by_cases q1 : u = (W.getD i []).getD k 0 ∧ v = (W.getD i []).getD (k - 1) 0
  · exact ⟨i, k - 1, Or.inr ⟨rfl, by omega⟩, hi, by omega, by rw [e1]; exact Or.inr ⟨q1.2.symm, q1.1.symm⟩⟩
  · rw [if_neg q1] at hv
    by_cases q2 : u = (W.getD i []).getD (k - 1) 0 ∧ v = (W.getD i []).getD k 0
    · exact ⟨i, k - 1, Or.inr ⟨rfl, by omega⟩, hi, by omega, by rw [e1]; exact Or.inl ⟨q2.1.symm, q2.2.symm⟩⟩
    · rw [if_neg q2] at hv
      obtain ⟨j, p, h1, h2⟩ := h u v hv
      exact ⟨j, p, by omega, h2⟩

section
variable {N s t : Nat} {l : List (Int × Int)} {W : List (List Nat)} {C : List (Int × Int)}
theorem UsedE.new {i k : Nat} {J : Nat → Nat → Bool} (h : UsedE W i k J) (hA : ApOk N l s t W C) (hi : i < W.length) (h0 : 0 < k) (hk : k < (W.getD i []).length) : J ((W.getD i []).getD (k - 1) 0) ((W.getD i []).getD k 0) = false := by
  cases e : J ((W.getD i []).getD (k - 1) 0) ((W.getD i []).getD k 0) with
  | false => rfl
  | true =>
    obtain ⟨j, p, h1, h2, h3, h4⟩ := h _ _ e
    have e1 : k - 1 + 1 = k := by omega
    rcases h1 with h1 | ⟨rfl, h1⟩
    · exact absurd (by rw [e1]; exact h4) (hA.dis j i h1 hi p (k - 1) h3 (by omega))
    · have d1 := (hA.way _ hi).dif p (k - 1) (by omega) (by omega)
      have d2 := (hA.way _ hi).dif p k (by omega) (by omega)
      unfold SameE at h4
      omega

/-- The edges of the cut, one by one. -/
theorem ApOk.at (hA : ApOk N l s t W C) {k : Nat} (hk : k < C.length) : ∃ a b : Nat, C.getD k (0, 0) = ((a : Int), (b : Int)) ∧ a < b ∧ b < N ∧ adj l a b = true := by
  have h0 : C.getD k (0, 0) = C[k] := by simp [List.getD, hk]
  obtain ⟨a, b, h1, h2⟩ := hA.mem _ (List.getElem_mem hk)
  exact ⟨a, b, by rw [h0, h1], h2⟩
theorem ApOk.fresh (hA : ApOk N l s t W C) {k : Nat} (hk : k < C.length) : C.getD k (0, 0) ∉ C.take k := fun hm => by
  have h0 : C.getD k (0, 0) = C[k] := by simp [List.getD, hk]
  rw [h0] at hm
  obtain ⟨q, hq, e⟩ := List.getElem_of_mem hm
  rw [List.length_take] at hq
  rw [List.getElem_take] at e
  have := List.pairwise_iff_getElem.1 hA.rise q k (by omega) hk (by omega)
  rw [e] at this
  unfold LexLt at this
  omega
theorem ApOk.up (hA : ApOk N l s t W C) {k : Nat} (hk : k + 1 < C.length) : LexLt (C.getD k (0, 0)) (C.getD (k + 1) (0, 0)) := by
  have h0 : C.getD k (0, 0) = C[k] := by simp [List.getD, show k < C.length by omega]
  have h1 : C.getD (k + 1) (0, 0) = C[k + 1] := by simp [List.getD, hk]
  rw [h0, h1]
  exact List.pairwise_iff_getElem.1 hA.rise k (k + 1) (by omega) hk (by omega)
theorem ApOk.few (hA : ApOk N l s t W C) : C.length ≤ N * N := by
  have hsub : C ⊆ prsTo N (adj l) N := fun e he => by
    obtain ⟨i, j, h1, h2, h3, h4⟩ := hA.mem e he
    exact mem_prsTo.2 ⟨i, j, by omega, h2, h3, h4, h1⟩
  have h1 := (rise_nodup hA.rise).length_le_of_subset hsub
  have h2 := prsTo_length N (adj l) N
  omega

/-- The graph without edges of the cut. -/
structure MI (N : Nat) (l C : List (Int × Int)) (M : Nat → Nat → Bool) : Prop where
  symm : ∀ u v, M u v = M v u
  iff : ∀ u v : Nat, u < v → v < N → (M u v = true ↔ adj l u v = true ∧ ((u : Int), (v : Int)) ∉ C)
theorem adj_sym (l : List (Int × Int)) (i j : Nat) : adj l i j = adj l j i := by
  unfold adj hasE
  congr 1
  funext e
  simp only [decide_eq_decide]
  unfold Meets
  omega
theorem MI.start (N : Nat) (l : List (Int × Int)) : MI N l [] (adj l) := ⟨adj_sym l, fun u v _ _ => by simp⟩
theorem MI.step {M : Nat → Nat → Bool} (h : MI N l C M) {x y : Int} {L : List (Int × Int)} (hL : L = (prsTo N M N).filter fun e => decide (e ≠ (x, y))) : MI N l (C ++ [(x, y)]) (adj L) := by
  refine ⟨adj_sym L, fun u v huv hv => ?_⟩
  have key : adj L u v = true ↔ M u v = true ∧ ((u : Int), (v : Int)) ≠ (x, y) := by
    unfold adj hasE
    rw [List.any_eq_true, hL]
    constructor
    · rintro ⟨e, he, hm⟩
      obtain ⟨h1, h2⟩ := List.mem_filter.1 he
      obtain ⟨i, j, g1, g2, g3, g4, rfl⟩ := mem_prsTo.1 h1
      have hm := of_decide_eq_true hm
      unfold Meets at hm
      simp only at hm
      obtain ⟨rfl, rfl⟩ : i = u ∧ j = v := by omega
      exact ⟨g4, of_decide_eq_true h2⟩
    · rintro ⟨h1, h2⟩
      exact ⟨_, List.mem_filter.2 ⟨mem_prsTo.2 ⟨u, v, by omega, huv, hv, h1, rfl⟩, decide_eq_true h2⟩, decide_eq_true (Or.inl ⟨rfl, rfl⟩)⟩
  rw [key, h.iff u v huv hv, List.mem_append, List.mem_singleton]
  constructor
  · rintro ⟨⟨h1, h2⟩, h3⟩
    exact ⟨h1, fun h => h.elim h2 h3⟩
  · rintro ⟨h1, h2⟩
    exact ⟨⟨h1, fun h => h2 (Or.inl h)⟩, fun h => h2 (Or.inr h)⟩
theorem MI.has {M : Nat → Nat → Bool} {k : Nat} (h : MI N l (C.take k) M) (hA : ApOk N l s t W C) (hk : k < C.length) {a b : Nat} (he : C.getD k (0, 0) = ((a : Int), (b : Int))) (hab : a < b) (hb : b < N) (ha : adj l a b = true) : M a b = true :=
  (h.iff a b hab hb).2 ⟨ha, by rw [← he]; exact hA.fresh hk⟩
theorem MI.shut {M : Nat → Nat → Bool} (h : MI N l C M) (hA : ApOk N l s t W C) : rchB N M (fun _ => false) s t = false := by
  obtain ⟨S, hs, ht, hcut⟩ := hA.cut
  cases e : rchB N M (fun _ => false) s t with
  | false => rfl
  | true =>
    have h1 : Rch N M (fun _ => false) s t := rchB_iff.1 e
    have key : ∀ b, Rch N M (fun _ => false) s b → S b = true := fun b hb => by
      induction hb with
      | refl => exact hs
      | @step b c _ h2 h3 h4 _ ih =>
        cases e : S c with
        | true => rfl
        | false =>
          rcases Nat.lt_trichotomy b c with q | q | q
          · obtain ⟨g1, g2⟩ := (h.iff b c q h3).1 h4
            exact absurd (hcut b c q h3 g1 (by rw [ih, e]; decide)) g2
          · subst q; rw [e] at ih; exact absurd ih (by decide)
          · rw [h.symm] at h4
            obtain ⟨g1, g2⟩ := (h.iff c b q h2).1 h4
            exact absurd (hcut c b q h2 g1 (by rw [ih, e]; decide)) g2
    have := key t h1
    rw [ht] at this
    exact absurd this (by decide)
end

end Go.Proofs.Ytbnbhjeknocboaa
