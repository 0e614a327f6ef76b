/- Memory for walks.trail: rows of edges' numbers, used edges, what is told, a stack. -/
import Derived.Test.YtnmljgjegodkaaaPA
import Derived.Test.YtnmljgjegodkaaaPRow
import Derived.Test.YtnmljgjegodkaaaGOwn
import Derived.Deep.RegionLaw
namespace Go.Proofs.Ytnmljgjegodkaaa
open Go.RowKit

/-- The numbered edges of a list. -/
def edE (l : List (Int × Int)) (i : Nat) : Nat × Nat := ((l.getD i (0, 0)).1.toNat, (l.getD i (0, 0)).2.toNat)
/-- The edges at a node, of the first k. -/
def incA (l : List (Int × Int)) (v : Nat) : Nat → List Nat
  | 0 => []
  | k + 1 => incA l v k ++ (if (l.getD k (0, 0)).1.toNat = v then [k] else []) ++ (if (l.getD k (0, 0)).2.toNat = v then [k] else [])
/-- Edges between different nodes. -/
structure Ends (N : Nat) (l : List (Int × Int)) : Prop where
  at' : ∀ k, k < l.length → ∃ X Y : Nat, l.getD k (0, 0) = ((X : Int), (Y : Int)) ∧ X < N ∧ Y < N ∧ X ≠ Y
theorem incA_succ {l : List (Int × Int)} {k X Y : Nat} (he : l.getD k (0, 0) = ((X : Int), (Y : Int))) (v : Nat) : incA l v (k + 1) = incA l v k ++ (if X = v then [k] else []) ++ (if Y = v then [k] else []) := by
  rw [incA, he]; simp only [Int.toNat_natCast]
theorem incA_mem {N : Nat} {l : List (Int × Int)} (hl : Ends N l) (v : Nat) : ∀ k, k ≤ l.length → ∀ i, i ∈ incA l v k ↔ i < k ∧ incE (edE l) i v = true := by
  intro k
  induction k with
  | zero => intro _ i; simp [incA]
  | succ k ih =>
    intro hk i
    obtain ⟨X, Y, he, -⟩ := hl.at' k (by omega)
    rw [incA_succ he, List.mem_append, List.mem_append, ih (by omega)]
    have hi : incE (edE l) k v = (decide (X = v) || decide (Y = v)) := by unfold incE edE; rw [he]; simp
    constructor
    · rintro ((⟨h1, h2⟩ | h) | h)
      · exact ⟨by omega, h2⟩
      · by_cases e : X = v
        · rw [if_pos e, List.mem_singleton] at h; subst h; exact ⟨by omega, by rw [hi]; simp [e]⟩
        · rw [if_neg e] at h; cases h
      · by_cases e : Y = v
        · rw [if_pos e, List.mem_singleton] at h; subst h; exact ⟨by omega, by rw [hi]; simp [e]⟩
        · rw [if_neg e] at h; cases h
    · rintro ⟨h1, h2⟩
      by_cases e : i = k
      · subst e
        rw [hi] at h2
        rcases Bool.or_eq_true _ _ |>.mp h2 with h | h
        · have := of_decide_eq_true h; left; right; simp [this]
        · have := of_decide_eq_true h; right; simp [this]
      · exact .inl (.inl ⟨by omega, h2⟩)
theorem incA_len (l : List (Int × Int)) (v : Nat) : ∀ k, (incA l v k).length ≤ 2 * k
  | 0 => Nat.le_refl _
  | k + 1 => by
    have := incA_len l v k
    rw [incA, List.length_append, List.length_append]
    split <;> split <;> simp <;> omega

/-- Behind one 'append': E is the edge's box. -/
def TsCut (w : World) (N : Nat) (X : Nat → List Nat) (E : Nat) (x y : Int) (wx : World) : Prop :=
  ∃ V, NB wx w.heap.size N V X ∧ (∀ r, r < N → (V r).ownBlock ≠ some E) ∧ wx.cell? ⟨E, 0, none⟩ = some (.int .i64 x) ∧ wx.cell? ⟨E, 1, none⟩ = some (.int .i64 y) ∧ Below w.heap.size w wx
/-- Ahead of one 'append'. -/
structure TsE (w wr : World) (N : Nat) (V : Nat → Value) (X : Nat → List Nat) (E : Nat) (x y : Int) : Prop where
  nb : NB wr w.heap.size N V X
  hE : ∀ r, r < N → (V r).ownBlock ≠ some E
  hEl : E < wr.heap.size
  hEb : w.heap.size < E
  c0 : wr.cell? ⟨E, 0, none⟩ = some (.int .i64 x)
  c1 : wr.cell? ⟨E, 1, none⟩ = some (.int .i64 y)
  hb : Below w.heap.size w wr
theorem TsE.da {w wr : World} {N : Nat} {V : Nat → Value} {X : Nat → List Nat} {E : Nat} {x y : Int} (h : TsE w wr N V X E x y) (o : Obj) : TsE w (wr.drew.alloc o) N V X E x y :=
  have hb : Below wr.heap.size wr (wr.drew.alloc o) := ((Below.refl _ _).drew).alloc (Nat.le_refl _) o
  ⟨h.nb.below hb, h.hE, Nat.lt_of_lt_of_le h.hEl hb.size, h.hEb, below_cell hb h.c0, below_cell hb h.c1, h.hb.trans (hb.mono h.hb.size)⟩
theorem TsE.sz {w wr : World} {N : Nat} {V : Nat → Value} {X : Nat → List Nat} {E : Nat} {x y : Int} (h : TsE w wr N V X E x y) : w.heap.size + 1 ≤ wr.heap.size := by have := h.hEl; have := h.hEb; omega
theorem TsE.of {w wr w2 : World} {N : Nat} {V : Nat → Value} {X : Nat → List Nat} {E r : Nat} {x y : Int} {v' : Value} {m : List Nat} (h : TsE w wr N V X E x y) (hr : r < N)
    (ho : w2.ownsRow (w.heap.size + 1) 3 1 v' ((X r).length + m.length) (nvals (X r) ++ nvals m)) (hg : wr.grownBy w2 (V r).ownBlock) (hat : v'.ownBlock = (V r).ownBlock ∨ v'.ownBlock = some wr.heap.size) :
    TsCut w N (growN X r m) E x y (w2.setCell ⟨w.heap.size, r, none⟩ v') ∧ w2.cell? ⟨E, 0, none⟩ = some (.int .i64 x) ∧ w2.cell? ⟨E, 1, none⟩ = some (.int .i64 y) ∧ w2.rowIs w.heap.size 29 N V := by
  obtain ⟨h, hE, hEl, hEb, c0, c1, hb⟩ := h
  have hbk := hg.block E hEl (fun e => hE r hr e.symm)
  have d0 : w2.cell? ⟨E, 0, none⟩ = some (.int .i64 x) := by rw [← c0]; unfold World.cell?; rw [hbk]
  have d1 : w2.cell? ⟨E, 1, none⟩ = some (.int .i64 y) := by rw [← c1]; unfold World.cell?; rw [hbk]
  refine ⟨⟨_, h.app hr ho hg hat, fun q hq => ?_, ?_, ?_, ?_⟩, d0, d1, h.mid hr hg⟩
  · by_cases e : q = r
    · simp only [e, if_true]
      rcases hat with ha | ha
      · rw [ha]; exact hE r hr
      · rw [ha]; intro e2; cases e2; omega
    · simp only [if_neg e]; exact hE q hq
  · rw [World.cell?_setCell_far _ _ _ _ (show w.heap.size ≠ E by omega)]; exact d0
  · rw [World.cell?_setCell_far _ _ _ _ (show w.heap.size ≠ E by omega)]; exact d1
  · exact (hb.grown hg hb.size (fun g e => by have := (h.low hr g e).1; omega)).setCell (p := ⟨w.heap.size, r, none⟩) (Nat.le_refl _) _

/-- While the trail is made: rows of edges' numbers in block bA, used edges in block bU, what is told and the stack from S on. -/
structure TraS (w wr : World) (N m bA bU S : Nat) (V : Nat → Value) (X : Nat → List Nat) (U : Nat → Bool) (vO vS : Value) (O K : List Nat) : Prop where
  hb : Below w.heap.size w wr
  nb : NB wr bA N V X
  us : wr.rowIs bU 4 m (rb U)
  out : wr.ownsRow S 3 1 vO O.length (nvals O)
  stk : wr.ownsRow S 3 1 vS K.length (nvals K)
  ne : ∀ g, vO.ownBlock = some g → vS.ownBlock ≠ some g
  low : ∀ r, r < N → ∀ g, (V r).ownBlock = some g → g < S ∧ g ≠ bU
  lA : w.heap.size ≤ bA ∧ bA < S
  lU : w.heap.size ≤ bU ∧ bU < S
  AU : bA ≠ bU
  sz : S ≤ wr.heap.size
section
variable {w wr w' : World} {N m bA bU S : Nat} {V : Nat → Value} {X : Nat → List Nat} {U : Nat → Bool} {vO vS v' : Value} {O K O' : List Nat}
theorem own_sideT {w : World} {B : Nat} {e : TypeId} {size : Nat} {v : Value} {n : Nat} {xs : List Value} (h : w.ownsRow B e size v n xs) {q : Nat} (hq : q < B) : v.ownBlock = none ∨ v.ownBlock ≠ some q := own_side h hq
theorem TraS.below (h : TraS w wr N m bA bU S V X U vO vS O K) (hb : Below wr.heap.size wr w') : TraS w w' N m bA bU S V X U vO vS O K :=
  ⟨h.hb.trans (hb.mono h.hb.size), h.nb.below hb, h.us.of_block (hb.block _ h.us.lt), ownsRow_below h.out hb (Nat.le_refl _), ownsRow_below h.stk hb (Nat.le_refl _), h.ne, h.low, h.lA, h.lU, h.AU, Nat.le_trans h.sz hb.size⟩
/-- NB where other blocks change. -/
theorem NB.far (h : NB wr bA N V X) {row : Option Nat} (hg : wr.grownBy w' row) (hA : row ≠ some bA) (hr : ∀ r, r < N → ∀ g, (V r).ownBlock = some g → row ≠ some g) : NB w' bA N V X :=
  ⟨h.ro.of_block (hg.block _ h.ro.lt (fun e => hA e.symm)), ⟨fun r hr' => (h.bk.own r hr').kept hg (by
    cases hv : (V r).ownBlock with
    | none => exact Or.inl rfl
    | some q => exact Or.inr (fun e => hr r hr' q hv e.symm)), h.bk.sep⟩⟩
theorem TraS.setU (h : TraS w wr N m bA bU S V X U vO vS O K) (k : Nat) (x : Bool) : TraS w (wr.setCell ⟨bU, k, none⟩ (.bool x)) N m bA bU S V X (fun q => if q = k then x else U q) vO vS O K where
  hb := h.hb.setCell (p := ⟨bU, k, none⟩) h.lU.1 _
  nb := h.nb.far (grown_set wr bU k _) (fun e => h.AU (Option.some.inj e).symm) fun r hr g e e2 => (h.low r hr g e).2 (Option.some.inj e2).symm
  us := row_set_rb h.us k x
  out := h.out.kept (grown_set wr bU k _) (own_side h.out h.lU.2)
  stk := h.stk.kept (grown_set wr bU k _) (own_side h.stk h.lU.2)
  ne := h.ne
  low := h.low
  lA := h.lA
  lU := h.lU
  AU := h.AU
  sz := by rw [size_setCell]; exact h.sz
/-- A row of edges' numbers is shorter by one. -/
theorem TraS.cutA (h : TraS w wr N m bA bU S V X U vO vS O K) {v g c : Nat} {r : List Nat} {i : Nat} (hv : v < N) (hV : V v = .slice (some ⟨g, 0, none⟩) (r.length + 1) c) (hX : X v = r ++ [i]) :
    TraS w (wr.setCell ⟨bA, v, none⟩ (.slice (some ⟨g, 0, none⟩) r.length c)) N m bA bU S (fun q => if q = v then .slice (some ⟨g, 0, none⟩) r.length c else V q) (fun q => if q = v then r else X q) U vO vS O K := by
  have hg := grown_set wr bA v (.slice (some ⟨g, 0, none⟩) r.length c)
  have hown := h.nb.owns hv
  rw [hV, hX] at hown
  have hshort : wr.ownsRow (bA + 1) 3 1 (.slice (some ⟨g, 0, none⟩) r.length c) r.length (nvals r) := by
    obtain ⟨h1, h2⟩ := hown
    rcases h2 with ⟨h2, -⟩ | ⟨g', cap', cur, e, h3, h4, h5, h6, h7, h8⟩
    · cases h2
    · simp only [Value.slice.injEq, Option.some.injEq, Addr.mk.injEq] at e
      refine ⟨by rw [nvals_length]; omega, .inr ⟨g', cap', cur, by rw [← e.2.2, ← e.1.1], h3, h4, by simp at h5; omega, h6, h7, ?_⟩⟩
      have h9 : nvals (r ++ [i]) = nvals r ++ nvals [i] := by simp [nvals, ints]
      rw [h9] at h8
      have h10 := congrArg (List.take (r.length * 1)) h8
      rw [List.take_take, List.length_append, List.length_singleton, Nat.min_eq_left (by omega)] at h10
      rw [h10, Nat.mul_one, List.take_append_of_le_length (by rw [nvals_length]; exact Nat.le_refl _)]
      rw [List.take_of_length_le (by rw [nvals_length]; exact Nat.le_refl _)]
  have hVv : (V v).ownBlock = some g := by rw [hV]; rfl
  refine ⟨h.hb.setCell (p := ⟨bA, v, none⟩) h.lA.1 _, ⟨h.nb.ro.set v _, ⟨fun q hq => ?_, fun q s hq hs hne g' h1 => ?_⟩⟩, h.us.setOther (a := ⟨bA, v, none⟩) (fun e => h.AU e.symm) _, h.out.kept hg (own_side h.out h.lA.2), h.stk.kept hg (own_side h.stk h.lA.2), h.ne, fun q hq g' e => ?_, h.lA, h.lU, h.AU, by rw [size_setCell]; exact h.sz⟩
  · by_cases e : q = v
    · subst e
      simp only [if_true]
      rw [nvals_length]
      exact hshort.kept hg (own_side hshort (Nat.lt_succ_self _))
    · simp only [if_neg e]
      exact (h.nb.bk.own q hq).kept hg (own_side (h.nb.bk.own q hq) (Nat.lt_succ_self _))
  · have key : ∀ q, q < N → ∀ g', (if q = v then (Value.slice (some ⟨g, 0, none⟩) r.length c) else V q).ownBlock = some g' → (V q).ownBlock = some g' := fun q _ g' h2 => by
      by_cases e : q = v
      · subst e; rw [if_pos rfl] at h2; rw [hVv]; exact h2
      · rw [if_neg e] at h2; exact h2
    have h3 := key q hq g' h1
    intro h4
    exact h.nb.bk.sep q s hq hs hne g' h3 (key s hs g' h4)
  · by_cases e2 : q = v
    · subst e2
      simp only [if_true] at e
      exact h.low q hq g' (by rw [hVv]; exact e)
    · simp only [if_neg e2] at e
      exact h.low q hq g' e
theorem TraS.appO (h : TraS w wr N m bA bU S V X U vO vS O K) (ho : w'.ownsRow S 3 1 v' O'.length (nvals O')) (hg : wr.grownBy w' vO.ownBlock) (hat : v'.ownBlock = vO.ownBlock ∨ v'.ownBlock = some wr.heap.size) : TraS w w' N m bA bU S V X U v' vS O' K where
  hb := h.hb.grown hg h.hb.size (fun g e => by have := (h.out.lt g e).1; have := h.lA; omega)
  nb := h.nb.far hg (fun e => by have := (h.out.lt _ e).1; have := h.lA.2; omega) fun r hr g e e2 => by have := (h.out.lt _ e2).1; have := (h.low r hr g e).1; omega
  us := h.us.of_block (hg.block _ h.us.lt (fun e => by have := (h.out.lt _ e.symm).1; have := h.lU.2; omega))
  out := ho
  stk := h.stk.kept hg (by
    cases e : vS.ownBlock with
    | none => exact Or.inl rfl
    | some g => exact Or.inr fun e2 => h.ne g e2.symm e)
  ne g hgv e := by
    rcases hat with k | k
    · exact h.ne g (k ▸ hgv) e
    · rw [k] at hgv
      cases hgv
      have := (h.stk.lt _ e).2
      omega
  low := h.low
  lA := h.lA
  lU := h.lU
  AU := h.AU
  sz := Nat.le_trans h.sz hg.size
theorem TraS.appS (h : TraS w wr N m bA bU S V X U vO vS O K) (ho : w'.ownsRow S 3 1 v' O'.length (nvals O')) (hg : wr.grownBy w' vS.ownBlock) (hat : v'.ownBlock = vS.ownBlock ∨ v'.ownBlock = some wr.heap.size) : TraS w w' N m bA bU S V X U vO v' O O' where
  hb := h.hb.grown hg h.hb.size (fun g e => by have := (h.stk.lt g e).1; have := h.lA; omega)
  nb := h.nb.far hg (fun e => by have := (h.stk.lt _ e).1; have := h.lA.2; omega) fun r hr g e e2 => by have := (h.stk.lt _ e2).1; have := (h.low r hr g e).1; omega
  us := h.us.of_block (hg.block _ h.us.lt (fun e => by have := (h.stk.lt _ e.symm).1; have := h.lU.2; omega))
  out := h.out.kept hg (by
    cases e : vO.ownBlock with
    | none => exact Or.inl rfl
    | some g => exact Or.inr fun e2 => h.ne g e e2.symm)
  stk := ho
  ne g hgv e := by
    rcases hat with k | k
    · exact h.ne g hgv (k ▸ e)
    · rw [k] at e
      cases e
      have := (h.out.lt _ hgv).2
      omega
  low := h.low
  lA := h.lA
  lU := h.lU
  AU := h.AU
  sz := Nat.le_trans h.sz hg.size
/-- The stack is shorter by one. -/
theorem TraS.popS {g c x : Nat} (h : TraS w wr N m bA bU S V X U vO (.slice (some ⟨g, 0, none⟩) (K.length + 1) c) O (K ++ [x])) : TraS w wr N m bA bU S V X U vO (.slice (some ⟨g, 0, none⟩) K.length c) O K where
  hb := h.hb
  nb := h.nb
  us := h.us
  out := h.out
  stk := by
    obtain ⟨h1, h2⟩ := h.stk
    rcases h2 with ⟨h2, -⟩ | ⟨g', cap', cur, e, h3, h4, h5, h6, h7, h8⟩
    · cases h2
    · simp only [Value.slice.injEq, Option.some.injEq, Addr.mk.injEq] at e
      refine ⟨by rw [nvals_length]; omega, .inr ⟨g', cap', cur, by rw [← e.2.2, ← e.1.1], h3, h4, by simp at h5; omega, h6, h7, ?_⟩⟩
      have h9 : nvals (K ++ [x]) = nvals K ++ nvals [x] := by simp [nvals, ints]
      rw [h9] at h8
      have h10 := congrArg (List.take (K.length * 1)) h8
      rw [List.take_take, List.length_append, List.length_singleton, Nat.min_eq_left (by omega)] at h10
      rw [h10, Nat.mul_one, List.take_append_of_le_length (by rw [nvals_length]; exact Nat.le_refl _)]
      rw [List.take_of_length_le (by rw [nvals_length]; exact Nat.le_refl _)]
  ne := h.ne
  low := h.low
  lA := h.lA
  lU := h.lU
  AU := h.AU
  sz := h.sz
end
end Go.Proofs.Ytnmljgjegodkaaa
