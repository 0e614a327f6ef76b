/- 'append' of edges, and where the row lies behind it. The memory of a walk in depth: a struct of slices, numbers, edges under way, blocks found. -/
import Derived.Test.YtnhhohhhpaejmaaDoorGOwn
import Derived.Test.YtnhhohhhpaejmaaDoorPC
import Derived.Test.YtnhhohhhpaejmaaDoorRCheck
import Derived.Test.YtnhhohhhpaejmaaDoorPB
import Derived.Deep.RegionLaw
import Derived.Test.YtnhhohhhpaejmaaDoorPA
import Derived.Test.YtnhhohhhpaejmaaDoorPD
import Derived.WalkSmall
namespace Go.Proofs.YtnhhohhhpaejmaaDoor
open Go.RowKit

/-- 'append' of edges onto edges that the call owns: and where they lie. -/
theorem run_append_edges_at {P : Program} {w : World} (t ty : TypeId)
    (base : Nat) (ht : P.underlying t = some (.slice 39)) (hinfo : (P.info? 39).map (fun i => (i.zero, i.size, i.bytes)) = some (some (.agg #[.int .i64 0, .int .i64 0]), 2, 16))
    (v : Value) (l : List (Int × Int)) (hown : OwnE w base v l) (src : Value) (m : List (Int × Int)) (hsrc : IsEdges w src m) (hm : 0 < m.length)
    (r : List (Int × Int)) (hr : l ++ m = r) (hbytes : (l.length + m.length) * 16 ≤ 140737488355328) (hbase : base ≤ w.heap.size) :
    ∃ a' c' w', (Builtin.append_ #[t, t] ty #[v, src]).run P w = .ok (.slice a' r.length c') w' ∧ OwnE w' base (.slice a' r.length c') r ∧ w.grownBy w' v.ownBlock ∧ ((Value.slice a' r.length c').ownBlock = v.ownBlock ∨ (Value.slice a' r.length c').ownBlock = some w.heap.size) := by
  obtain ⟨i, hi, hz0, hsz, hby⟩ := info_parts hinfo
  subst hr
  obtain ⟨ao, cap, b, oo, rfl, hcap, hmax, hadr, hnone, hcells⟩ := hsrc
  obtain rfl := hadr hm
  obtain ⟨v', w', h1, h2, h3, _, h5⟩ := run_append_own_at (P := P) (w := w) base t ty _ i (.agg #[.int .i64 0, .int .i64 0]) 2 16 ht hi hz0 hsz hby rfl (by omega) v l.length (cells2 l) hown ⟨b, oo, none⟩ m.length cap (cells2 m) (cells2_length m) (fun j u hu => by
    obtain ⟨i, hi, ⟨rfl, rfl⟩ | ⟨rfl, rfl⟩⟩ := cells2_some hu
    · rw [Addr.add_lit]; exact (hcells i hi).1
    · rw [Addr.add_lit, ← Nat.add_assoc]; exact (hcells i hi).2) (cells2_one m) (by unfold maxLen; omega) hbytes hbase
  have h2' : OwnE w' base v' (l ++ m) := by unfold OwnE; rw [List.length_append, cells2_append]; exact h2
  obtain ⟨a', c', rfl⟩ := h2'.form
  exact ⟨a', c', w', h1, h2', h3, h5⟩
theorem wpList_append_edges_at {P : Program} {w : World} {ops : Array Oper} {rest : List Oper} {o : Oper} {a : Act} {Q : Exit → Act → World → Prop} (hgd : o.guard = none) (s x : Operand) (t : TypeId)
    (ho : o.op = .call { callee := .builtin .append, args := #[s, x], argTypes := #[t, t] })
    (base : Nat) (ht : P.underlying t = some (.slice 39)) (hinfo : (P.info? 39).map (fun i => (i.zero, i.size, i.bytes)) = some (some (.agg #[.int .i64 0, .int .i64 0]), 2, 16))
    (v : Value) (l : List (Int × Int)) (hs : a.eval s = v) (hown : OwnE w base v l)
    (src : Value) (m : List (Int × Int)) (hx : a.eval x = src) (hsrc : IsEdges w src m) (hm : 0 < m.length)
    (r : List (Int × Int)) (hr : l ++ m = r) (hbytes : (l.length + m.length) * 16 ≤ 140737488355328) (hbase : base ≤ w.heap.size)
    (h : ∀ a' c' w', OwnE w' base (.slice a' r.length c') r → w.grownBy w' v.ownBlock → ((Value.slice a' r.length c').ownBlock = v.ownBlock ∨ (Value.slice a' r.length c').ownBlock = some w.heap.size) → wpList P ops Q rest (a.put o.dst (.slice a' r.length c')) w') : wpList P ops Q (o :: rest) a w := by
  refine wpList_plain hgd fun K hK' => ?_
  obtain ⟨a', c', w', hr, h2, h3, h4⟩ := run_append_edges_at (P := P) (w := w) t o.type base ht hinfo v l hown src m hsrc hm r hr hbytes hbase
  unfold Oper.wp
  simp [execOp, ho, resolve, invoke, builtin, hs, hx, hr, Result.andThen]
  exact hK' _ _ (h a' c' w' h2 h3 h4)
theorem step_append_edges_at {P : Program} {ops : Array Oper} {o : Oper} {a : Act} {w : World} {K : Act → World → Prop} {Q : Exit → Act → World → Prop} {E : Prop} (hg : o.guard = none) (s x : Operand) (t : TypeId)
    (ho : o.op = .call { callee := .builtin .append, args := #[s, x], argTypes := #[t, t] })
    (base : Nat) (ht : P.underlying t = some (.slice 39)) (hinfo : (P.info? 39).map (fun i => (i.zero, i.size, i.bytes)) = some (some (.agg #[.int .i64 0, .int .i64 0]), 2, 16))
    (v : Value) (l : List (Int × Int)) (hs : a.eval s = v) (hown : OwnE w base v l)
    (src : Value) (m : List (Int × Int)) (hx : a.eval x = src) (hsrc : IsEdges w src m) (hm : 0 < m.length)
    (r : List (Int × Int)) (hr : l ++ m = r) (hbytes : (l.length + m.length) * 16 ≤ 140737488355328) (hbase : base ≤ w.heap.size)
    (hK : ∀ a' c' w', OwnE w' base (.slice a' r.length c') r → w.grownBy w' v.ownBlock → ((Value.slice a' r.length c').ownBlock = v.ownBlock ∨ (Value.slice a' r.length c').ownBlock = some w.heap.size) → K (a.put o.dst (.slice a' r.length c')) w') :
    if Region.wanted o (yielded ops a.tmps) = true then Oper.wp P o a w K Q else E := by
  have hw : Region.wanted o (yielded ops a.tmps) = true := by simp [Region.wanted, hg]
  rw [if_pos hw]
  obtain ⟨a', c', w', hr, h2, h3, h4⟩ := run_append_edges_at (P := P) (w := w) t o.type base ht hinfo v l hown src m hsrc hm r hr hbytes hbase
  unfold Oper.wp
  simp [execOp, ho, resolve, invoke, builtin, hs, hx, hr, Result.andThen]
  exact hK a' c' w' h2 h3 h4

end Go.Proofs.YtnhhohhhpaejmaaDoor
namespace Go.Proofs.YtnhhohhhpaejmaaDoor
open Go.RowKit Go.Maps

theorem infoE : (Tryd.prog.info? 22).map (fun i => (i.zero, i.size, i.bytes)) = some (some (.slice none 0 0), 1, 24) := by kernel_rfl

/-- Slicing from place k on. -/
theorem run_slice_from {P : Program} {t e : TypeId} {i : TypeInfo} (ht : P.underlying t = some (.slice e)) (hi : P.info? e = some i) (hs : i.size = 2) (b off n cap k : Nat) (hk : k ≤ n) (hc : k < cap) (w : World) :
    (Instr.slice t (.slice (some ⟨b, off, none⟩) n cap) (some (.int .i64 (k : Int))) none none).run P w = .ok (.slice (some ⟨b, off + k * 2, none⟩) (n - k) (cap - k)) w := by
  have hb : (Instr.sliceBound (.int .i64 (k : Int)) n .sliceB).run P w = .ok k w := run_sliceBound w .i64 k n .sliceB (by omega) (by omega)
  simp [Instr.slice, run_underlying ht, Instr.sliceBounds, hb, sizeOf, typeInfo, hi, hs]
  rw [if_neg (by omega)]
  simp [Addr.add]
/-- The edges from place k on. -/
theorem IsEdges.drop {w : World} {b o n cap : Nat} {l : List (Int × Int)} (h : IsEdges w (.slice (some ⟨b, o, none⟩) n cap) l) {k : Nat} (hk : k < n) : IsEdges w (.slice (some ⟨b, o + k * 2, none⟩) (n - k) (cap - k)) (l.drop k) := by
  obtain ⟨ao, cp, b', oo, e, hcap, hmax, hadr, hnone, hcells⟩ := h
  simp only [Value.slice.injEq] at e
  obtain ⟨rfl, rfl, rfl⟩ := e
  have e2 := hadr (by omega)
  simp only [Option.some.injEq, Addr.mk.injEq, and_true] at e2
  obtain ⟨rfl, rfl⟩ := e2
  have hd : (l.drop k).length = l.length - k := List.length_drop
  refine ⟨_, _, b, o + k * 2, by rw [hd], by rw [hd]; omega, by omega, fun _ => rfl, by simp, fun j hj => ?_⟩
  rw [hd] at hj
  obtain ⟨c1, c2⟩ := hcells (k + j) (by omega)
  have e3 : (l.drop k).getD j (0, 0) = l.getD (k + j) (0, 0) := by simp [List.getD]
  rw [e3, show o + k * 2 + j * 2 = o + (k + j) * 2 by omega]
  exact ⟨c1, c2⟩
/-- The first k edges of those that the call owns. -/
theorem OwnE.take {w : World} {base : Nat} {a : Option Addr} {n c : Nat} {l : List (Int × Int)} (h : OwnE w base (.slice a n c) l) {k : Nat} (hk : k ≤ l.length) (hnz : a ≠ none) : OwnE w base (.slice a k c) (l.take k) := by
  obtain ⟨h1, h2⟩ := h
  have hlt : (l.take k).length = k := by rw [List.length_take]; omega
  have hc : cells2 (l.take k) = (cells2 l).take (k * 2) := by
    have e : cells2 l = cells2 (l.take k) ++ cells2 (l.drop k) := by rw [← cells2_append, List.take_append_drop]
    have e2 : (cells2 (l.take k)).length = k * 2 := by rw [cells2_length, hlt]
    have e3 : (cells2 (l.take k) ++ cells2 (l.drop k)).take (k * 2) = cells2 (l.take k) := by rw [← e2]; exact List.take_left
    rw [e, e3]
  unfold OwnE
  rw [hlt]
  refine ⟨by rw [cells2_length, hlt], ?_⟩
  rcases h2 with ⟨e, _⟩ | ⟨g, cap, cur, e, hb, hgg, h3, h4, h5, h6⟩
  · simp only [Value.slice.injEq] at e; exact absurd e.1 hnz
  · simp only [Value.slice.injEq] at e
    obtain ⟨rfl, rfl, rfl⟩ := e
    refine Or.inr ⟨g, c, cur, rfl, hb, hgg, by omega, h4, h5, ?_⟩
    rw [hc, ← h6, List.take_take]
    congr 1
    omega

/-- Edges of one's own that are some lie in a block. -/
theorem OwnE.block {w : World} {base : Nat} {v : Value} {l : List (Int × Int)} (h : OwnE w base v l) (hl : 0 < l.length) : ∃ g c, v = .slice (some ⟨g, 0, none⟩) l.length c ∧ l.length ≤ c := by
  rcases h.2 with ⟨_, e⟩ | ⟨g, cap, cur, e, hb, hgg, h3, _⟩
  · omega
  · exact ⟨g, cap, e, h3⟩
/-- .. and in a new one, where the row was none. -/
theorem OwnE.fresh {w : World} {base k : Nat} {a : Option Addr} {c : Nat} {l : List (Int × Int)} (h : OwnE w base (.slice a l.length c) l) (hl : 0 < l.length) (hat : (Value.slice a l.length c).ownBlock = (Value.slice none 0 0).ownBlock ∨ (Value.slice a l.length c).ownBlock = some k) : (Value.slice a l.length c).ownBlock = some k := by
  rcases hat with e | e
  · obtain ⟨g', c', e2, -⟩ := h.block hl
    rw [e2] at e
    simp [Value.ownBlock] at e
  · exact e
/-- The cells of the walk's struct. -/
def dcell (N B bA bL : Nat) (vs vb : Value) : Nat → Value := fun i =>
  if i = 0 then .slice (some ⟨B, 0, none⟩) N N else if i = 1 then .slice (some ⟨bA, 0, none⟩) N N else if i = 2 then .slice (some ⟨bL, 0, none⟩) N N else if i = 3 then vs else vb
/-- Blocks of one's own, none of which is the stack's. -/
def Blks (w : World) (S : Nat) (vs vb : Value) (L : List (List (Int × Int))) : Prop :=
  ∃ vals, w.ownsRow S 22 1 vb L.length vals ∧ ∀ j, j < L.length → ∃ r, vals[j]? = some r ∧ OwnE w S r (L.getD j []) ∧ ∀ g, r.ownBlock = some g → vs.ownBlock ≠ some g

/-- Where all lies: tables below S, what grows from S on. -/
structure DLies (S0 S bD B bA bL N : Nat) (V : Nat → Value) : Prop where
  fD : S0 ≤ bD ∧ bD < S
  fB : bD ≠ B ∧ B < S
  fA : S0 ≤ bA ∧ bA < S
  fL : S0 ≤ bL ∧ bL < S
  DA : bD ≠ bA
  DL : bD ≠ bL
  AL : bA ≠ bL
  BA : B ≠ bA
  BL : B ≠ bL
  rows : ∀ r, r < N → ∀ g, (V r).ownBlock = some g → g < S ∧ g ≠ bD ∧ g ≠ bA ∧ g ≠ bL
  low : S0 ≤ S
/-- What the walk finds. -/
structure DEnv (w : World) (S bD B bA bL N : Nat) (V : Nat → Value) (X : Nat → List Nat) (σ : Dp) (vs vb : Value) : Prop where
  ro : w.rowIs bD 86 5 (dcell N B bA bL vs vb)
  nb : NB w B N V X
  num : w.rowIs bA 3 N (rn σ.num)
  low : w.rowIs bL 3 N (rn σ.low)
  stk : OwnE w S vs σ.stk
  blks : Blks w S vs vb σ.blk
  sz : S ≤ w.heap.size

theorem NB.setFar {w : World} {B N g : Nat} {V : Nat → Value} {X : Nat → List Nat} (h : NB w B N V X) (hB : B ≠ g) (hr : ∀ r, r < N → (V r).ownBlock ≠ some g) (k : Nat) (x : Value) : NB (w.setCell ⟨g, k, none⟩ x) B N V X :=
  ⟨h.ro.setOther (a := ⟨g, k, none⟩) hB _, ⟨fun r hr' => (h.bk.own r hr').kept (grown_set w g k x) (by
    cases hv : (V r).ownBlock with
    | none => exact Or.inl rfl
    | some q => exact Or.inr (fun e => hr r hr' (hv.trans e))), h.bk.sep⟩⟩
theorem NB.grown {w w' : World} {B N S : Nat} {V : Nat → Value} {X : Nat → List Nat} (h : NB w B N V X) (hB : B < S) (hr : ∀ r, r < N → ∀ g, (V r).ownBlock = some g → g < S) (hS : S ≤ w.heap.size) {row : Option Nat} (hg : w.grownBy w' row) (hrow : ∀ g, row = some g → S ≤ g) : NB w' B N V X :=
  ⟨h.ro.of_block (hg.block _ h.ro.lt (fun e => by have := hrow _ e.symm; omega)), ⟨fun r hr' => (h.bk.own r hr').kept hg (by
    cases hv : (V r).ownBlock with
    | none => exact Or.inl rfl
    | some q => exact Or.inr (fun e => by have := hr r hr' q hv; have := hrow _ e.symm; omega)), h.bk.sep⟩⟩
theorem Blks.below {w w' : World} {S : Nat} {vs vb : Value} {L : List (List (Int × Int))} (h : Blks w S vs vb L) (hb : Below w.heap.size w w') : Blks w' S vs vb L := by
  obtain ⟨vals, h1, h2⟩ := h
  refine ⟨vals, ownsRow_below h1 hb (Nat.le_refl _), fun j hj => ?_⟩
  obtain ⟨r, e, ho, hn⟩ := h2 j hj
  exact ⟨r, e, ho.below hb, hn⟩
theorem Blks.set {w : World} {S g : Nat} {vs vb : Value} {L : List (List (Int × Int))} (h : Blks w S vs vb L) (hg : g < S) (k : Nat) (x : Value) : Blks (w.setCell ⟨g, k, none⟩ x) S vs vb L := by
  obtain ⟨vals, h1, h2⟩ := h
  refine ⟨vals, h1.kept (grown_set w g k x) ?_, fun j hj => ?_⟩
  · cases hv : vb.ownBlock with
    | none => exact Or.inl rfl
    | some q => exact Or.inr (fun e => by cases e; have := (h1.lt _ hv).1; omega)
  · obtain ⟨r, e, ho, hn⟩ := h2 j hj
    exact ⟨r, e, ho.set hg k x, hn⟩
theorem Blks.low {w : World} {S S' : Nat} {vs vb : Value} {L : List (List (Int × Int))} (h : Blks w S vs vb L) (hS : S' ≤ S) : Blks w S' vs vb L := by
  obtain ⟨vals, h1, h2⟩ := h
  refine ⟨vals, ownsRow_low h1 hS, fun j hj => ?_⟩
  obtain ⟨r, e, ho, hn⟩ := h2 j hj
  exact ⟨r, e, ho.low hS, hn⟩
/-- The stack has grown. -/
theorem Blks.stack {w w' : World} {S : Nat} {vs vs' vb : Value} {L : List (List (Int × Int))} {l : List (Int × Int)} (h : Blks w S vs vb L) (hs : OwnE w S vs l) (hg : w.grownBy w' vs.ownBlock) (hat : vs'.ownBlock = vs.ownBlock ∨ vs'.ownBlock = some w.heap.size) : Blks w' S vs' vb L := by
  obtain ⟨vals, h1, h2⟩ := h
  have hs0 : w.ownsRow S 39 2 vs l.length (cells2 l) := hs
  refine ⟨vals, ownsRow_typed h1 hg (fun g hv => by obtain ⟨c, fz, hc⟩ := ownsRow_type hs0 g hv; exact ⟨c, _, fz, hc, by decide⟩), fun j hj => ?_⟩
  obtain ⟨r, e, ho, hn⟩ := h2 j hj
  have ho0 : w.ownsRow S 39 2 r (L.getD j []).length (cells2 (L.getD j [])) := ho
  refine ⟨r, e, ho0.kept hg ?_, fun g hr => ?_⟩
  · cases hr : r.ownBlock with
    | none => exact Or.inl rfl
    | some q => exact Or.inr (fun e2 => hn q hr e2.symm)
  · rcases hat with ha | ha
    · rw [ha]; exact hn g hr
    · rw [ha]; intro e2; cases e2; have := (ho0.lt _ hr).2; omega
/-- One block more. -/
theorem Blks.more {w w1 w2 : World} {S : Nat} {vs vs' vb r v' : Value} {L : List (List (Int × Int))} {m : List (Int × Int)} {vals : List Value} {o : Obj}
    (h1 : w.ownsRow S 22 1 vb L.length vals) (h2 : ∀ j, j < L.length → ∃ r, vals[j]? = some r ∧ OwnE w S r (L.getD j []) ∧ ∀ g, r.ownBlock = some g → vs.ownBlock ≠ some g)
    (g1 : w.grownBy w1 none) (hr : OwnE w1 S r m) (hrn : ∀ g, r.ownBlock = some g → vs.ownBlock ≠ some g) (he : vs'.ownBlock = vs.ownBlock)
    (h3 : w2.ownsRow S 22 1 v' (L.length + 1) (vals ++ [r])) (g2 : (w1.alloc o).grownBy w2 vb.ownBlock) : Blks w2 S vs' v' (L ++ [m]) := by
  have hlen : vals.length = L.length := by have := h1.1; omega
  have ty : ∀ g, vb.ownBlock = some g → ∃ c e' fz, (w1.alloc o).heap[g]? = some (.cells c e' fz) ∧ e' ≠ 39 := fun g hg => by
    obtain ⟨c, fz, hc⟩ := ownsRow_type ((h1.kept g1 (by cases vb.ownBlock <;> simp)).alloc o) g hg
    exact ⟨c, _, fz, hc, by decide⟩
  refine ⟨_, by rw [List.length_append]; exact h3, fun j hj => ?_⟩
  rw [List.length_append, List.length_singleton] at hj
  by_cases e : j = L.length
  · subst e
    refine ⟨r, by rw [List.getElem?_append_right (by omega)]; simp [hlen], ?_, fun g hg => by rw [he]; exact hrn g hg⟩
    have e2 : (L ++ [m]).getD L.length [] = m := by simp [List.getD]
    rw [e2]
    have hr0 : w1.ownsRow S 39 2 r m.length (cells2 m) := hr
    exact ownsRow_typed (hr0.alloc o) g2 ty
  · obtain ⟨q, hq, ho, hn⟩ := h2 j (by omega)
    have e2 : (L ++ [m]).getD j [] = L.getD j [] := by simp [List.getD, List.getElem?_append_left (show j < L.length by omega)]
    refine ⟨q, by rw [List.getElem?_append_left (by omega)]; exact hq, ?_, fun g hg => by rw [he]; exact hn g hg⟩
    rw [e2]
    have ho0 : w.ownsRow S 39 2 q (L.getD j []).length (cells2 (L.getD j [])) := ho
    exact ownsRow_typed ((ho0.kept g1 (by cases q.ownBlock <;> simp)).alloc o) g2 ty

section
variable {w w' : World} {S0 S bD B bA bL N : Nat} {V : Nat → Value} {X : Nat → List Nat} {σ : Dp} {vs vb : Value}
theorem DEnv.below (h : DEnv w S bD B bA bL N V X σ vs vb) (hb : Below w.heap.size w w') : DEnv w' S bD B bA bL N V X σ vs vb :=
  ⟨h.ro.of_block (hb.block _ h.ro.lt), h.nb.below hb, h.num.of_block (hb.block _ h.num.lt), h.low.of_block (hb.block _ h.low.lt), h.stk.below hb, h.blks.below hb, Nat.le_trans h.sz hb.size⟩
theorem DEnv.drewN (h : DEnv w S bD B bA bL N V X σ vs vb) (n : Nat) : DEnv (w.drewN n) S bD B bA bL N V X σ vs vb := h.below (Below.drewN' (Below.refl _ _) n)
theorem DEnv.setNum (L : DLies S0 S bD B bA bL N V) (h : DEnv w S bD B bA bL N V X σ vs vb) (k x : Nat) : DEnv (w.setCell ⟨bA, k, none⟩ (.int .i64 (x : Int))) S bD B bA bL N V X { σ with num := fset σ.num k x } vs vb where
  ro := h.ro.setOther (a := ⟨bA, k, none⟩) L.DA _
  nb := h.nb.setFar L.BA (fun r hr e => (L.rows r hr _ e).2.2.1 rfl) k _
  num := row_set_rn h.num k x
  low := h.low.setOther (a := ⟨bA, k, none⟩) (Ne.symm L.AL) _
  stk := h.stk.set L.fA.2 k _
  blks := h.blks.set L.fA.2 k _
  sz := by rw [size_setCell]; exact h.sz
theorem DEnv.setLow (L : DLies S0 S bD B bA bL N V) (h : DEnv w S bD B bA bL N V X σ vs vb) (k x : Nat) : DEnv (w.setCell ⟨bL, k, none⟩ (.int .i64 (x : Int))) S bD B bA bL N V X { σ with low := fset σ.low k x } vs vb where
  ro := h.ro.setOther (a := ⟨bL, k, none⟩) L.DL _
  nb := h.nb.setFar L.BL (fun r hr e => (L.rows r hr _ e).2.2.2 rfl) k _
  num := h.num.setOther (a := ⟨bL, k, none⟩) L.AL _
  low := row_set_rn h.low k x
  stk := h.stk.set L.fL.2 k _
  blks := h.blks.set L.fL.2 k _
  sz := by rw [size_setCell]; exact h.sz
/-- A low point is stored. -/
theorem DEnv.lowTo (L : DLies S0 S bD B bA bL N V) (h : DEnv w S bD B bA bL N V X σ vs vb) {v x y : Nat} (hx : x = min (σ.low v) y) : DEnv (w.setCell ⟨bL, v, none⟩ (.int .i64 (x : Int))) S bD B bA bL N V X (lowD v y σ) vs vb := by
  subst hx; exact h.setLow L v _
/-- A node is met: the two stores, in either order. -/
theorem DEnv.mark (L : DLies S0 S bD B bA bL N V) (h : DEnv w S bD B bA bL N V X σ vs vb) (v : Nat) :
    DEnv (((w.setCell ⟨bA, v, none⟩ (.int .i64 ((σ.tm + 1 : Nat) : Int))).setCell ⟨bL, v, none⟩ (.int .i64 ((σ.tm + 1 : Nat) : Int))).drew) S bD B bA bL N V X (markD v σ) vs vb :=
  have k := ((h.setNum L v (σ.tm + 1)).setLow L v (σ.tm + 1)).drewN 1
  ⟨k.ro, k.nb, k.num, k.low, k.stk, k.blks, k.sz⟩
theorem DEnv.mark' (L : DLies S0 S bD B bA bL N V) (h : DEnv w S bD B bA bL N V X σ vs vb) (v : Nat) :
    DEnv (((w.setCell ⟨bL, v, none⟩ (.int .i64 ((σ.tm + 1 : Nat) : Int))).setCell ⟨bA, v, none⟩ (.int .i64 ((σ.tm + 1 : Nat) : Int))).drew) S bD B bA bL N V X (markD v σ) vs vb :=
  have k := ((h.setLow L v (σ.tm + 1)).setNum L v (σ.tm + 1)).drewN 1
  ⟨k.ro, k.nb, k.num, k.low, k.stk, k.blks, k.sz⟩
theorem dcell_stk {i : Nat} (hi : i < 5) (v' : Value) : (if i = 3 then v' else dcell N B bA bL vs vb i) = dcell N B bA bL v' vb i := by
  unfold dcell; by_cases e : i = 3 <;> simp [e]
theorem dcell_blk {i : Nat} (hi : i < 5) (v' : Value) : (if i = 4 then v' else dcell N B bA bL vs vb i) = dcell N B bA bL vs v' i := by
  unfold dcell
  by_cases e : i = 4
  · subst e; rfl
  · have : i = 0 ∨ i = 1 ∨ i = 2 ∨ i = 3 := by omega
    rcases this with rfl | rfl | rfl | rfl <;> rfl
/-- What does not lie among the things that grow. -/
structure DFix (w : World) (B bA bL N : Nat) (V : Nat → Value) (X : Nat → List Nat) (σ : Dp) : Prop where
  nb : NB w B N V X
  num : w.rowIs bA 3 N (rn σ.num)
  low : w.rowIs bL 3 N (rn σ.low)
theorem DFix.grown (L : DLies S0 S bD B bA bL N V) (h : DFix w B bA bL N V X σ) (hS : S ≤ w.heap.size) {row : Option Nat} (hg : w.grownBy w' row) (hrow : ∀ g, row = some g → S ≤ g) : DFix w' B bA bL N V X σ :=
  ⟨h.nb.grown L.fB.2 (fun r hr g e => (L.rows r hr g e).1) hS hg hrow, h.num.of_block (hg.block _ h.num.lt (fun e => by have := hrow _ e.symm; have := L.fA; omega)), h.low.of_block (hg.block _ h.low.lt (fun e => by have := hrow _ e.symm; have := L.fL; omega))⟩
theorem DFix.setD (L : DLies S0 S bD B bA bL N V) (h : DFix w B bA bL N V X σ) (k : Nat) (x : Value) : DFix (w.setCell ⟨bD, k, none⟩ x) B bA bL N V X σ :=
  ⟨h.nb.setFar (Ne.symm L.fB.1) (fun r hr e => (L.rows r hr _ e).2.1 rfl) k x, h.num.setOther (a := ⟨bD, k, none⟩) (Ne.symm L.DA) _, h.low.setOther (a := ⟨bD, k, none⟩) (Ne.symm L.DL) _⟩
theorem DEnv.fix (h : DEnv w S bD B bA bL N V X σ vs vb) : DFix w B bA bL N V X σ := ⟨h.nb, h.num, h.low⟩
theorem OwnE.row {w : World} {v : Value} {l : List (Int × Int)} (h : OwnE w S v l) : ∀ g, v.ownBlock = some g → S ≤ g := fun g e => by
  have h0 : w.ownsRow S 39 2 v l.length (cells2 l) := h
  exact (h0.lt g e).1
/-- Behind 'append' onto the stack, and the store. -/
theorem DEnv.push (L : DLies S0 S bD B bA bL N V) (h : DEnv w S bD B bA bL N V X σ vs vb) {x y : Nat} {v' : Value} (ho : OwnE w' S v' (σ.stk ++ [((x : Int), (y : Int))])) (hg : w.grownBy w' vs.ownBlock) (hat : v'.ownBlock = vs.ownBlock ∨ v'.ownBlock = some w.heap.size) :
    DEnv (w'.setCell ⟨bD, 3, none⟩ v') S bD B bA bL N V X (pushD x y σ) v' vb ∧ w'.rowIs bD 86 5 (dcell N B bA bL vs vb) := by
  have hf := (h.fix.grown L h.sz hg h.stk.row).setD L 3 v'
  have hro : w'.rowIs bD 86 5 (dcell N B bA bL vs vb) := h.ro.of_block (hg.block _ h.ro.lt (fun e => by have := h.stk.row _ e.symm; have := L.fD; omega))
  exact ⟨⟨(hro.set 3 v').congr fun i hi => dcell_stk hi v', hf.nb, hf.num, hf.low, ho.set L.fD.2 3 v', (h.blks.stack h.stk hg hat).set L.fD.2 3 v', by rw [size_setCell]; exact Nat.le_trans h.sz hg.size⟩, hro⟩
/-- Behind the copy, 'append' onto the blocks, and the store: the stack is as it was. -/
theorem DEnv.block (L : DLies S0 S bD B bA bL N V) (h : DEnv w S bD B bA bL N V X σ vs vb) {w1 w2 : World} {r v' : Value} {m : List (Int × Int)} {vals : List Value} {o : Obj}
    (h1 : w.ownsRow S 22 1 vb σ.blk.length vals) (h2 : ∀ j, j < σ.blk.length → ∃ r, vals[j]? = some r ∧ OwnE w S r (σ.blk.getD j []) ∧ ∀ g, r.ownBlock = some g → vs.ownBlock ≠ some g)
    (g1 : w.grownBy w1 none) (hr : OwnE w1 S r m) (hrn : r.ownBlock = some w.heap.size)
    (h3 : w2.ownsRow S 22 1 v' (σ.blk.length + 1) (vals ++ [r])) (g2 : (w1.alloc o).grownBy w2 vb.ownBlock) :
    DEnv (w2.setCell ⟨bD, 4, none⟩ v') S bD B bA bL N V X { σ with blk := σ.blk ++ [m] } vs v' ∧ w2.rowIs bD 86 5 (dcell N B bA bL vs vb) := by
  have hs0 : w.ownsRow S 39 2 vs σ.stk.length (cells2 σ.stk) := h.stk
  have hvb : ∀ g, vb.ownBlock = some g → S ≤ g := fun g e => (h1.lt g e).1
  have hb1 : Below w.heap.size w (w1.alloc o) := (below_grown0 g1).alloc g1.size o
  have hS1 : S ≤ (w1.alloc o).heap.size := Nat.le_trans h.sz hb1.size
  have hE := h.below hb1
  have hf := (hE.fix.grown L hS1 g2 hvb).setD L 4 v'
  have hro : w2.rowIs bD 86 5 (dcell N B bA bL vs vb) := hE.ro.of_block (g2.block _ hE.ro.lt (fun e => by have := hvb _ e.symm; have := L.fD; omega))
  have hst : w2.ownsRow S 39 2 vs σ.stk.length (cells2 σ.stk) := by
    have hst1 : (w1.alloc o).ownsRow S 39 2 vs σ.stk.length (cells2 σ.stk) := hE.stk
    refine ownsRow_typed hst1 g2 fun g hg => ?_
    obtain ⟨c, fz, hc⟩ := ownsRow_type ((h1.kept g1 (by cases vb.ownBlock <;> simp)).alloc o) g hg
    exact ⟨c, _, fz, hc, by decide⟩
  have hst' : OwnE w2 S vs σ.stk := hst
  have hbk : Blks w2 S vs v' (σ.blk ++ [m]) := Blks.more h1 h2 g1 hr (fun g hg e => by rw [hrn] at hg; cases hg; have := (hs0.lt _ e).2; omega) rfl h3 g2
  exact ⟨⟨(hro.set 4 v').congr fun i hi => dcell_blk hi v', hf.nb, hf.num, hf.low, hst'.set L.fD.2 4 v', hbk.set L.fD.2 4 v', by rw [size_setCell]; exact Nat.le_trans hS1 g2.size⟩, hro⟩
/-- The stack is cut. -/
theorem DEnv.pop (L : DLies S0 S bD B bA bL N V) {a : Option Addr} {n c : Nat} (h : DEnv w S bD B bA bL N V X σ (.slice a n c) vb) {k : Nat} (hk : k ≤ σ.stk.length) (ha : a ≠ none) :
    DEnv (w.setCell ⟨bD, 3, none⟩ (.slice a k c)) S bD B bA bL N V X { σ with stk := σ.stk.take k } (.slice a k c) vb := by
  have hf := h.fix.setD L 3 (.slice a k c)
  have he : (Value.slice a k c).ownBlock = (Value.slice a n c).ownBlock := by cases a <;> rfl
  have hb : Blks w S (.slice a k c) vb σ.blk := by
    obtain ⟨vals, h1, h2⟩ := h.blks
    exact ⟨vals, h1, fun j hj => by obtain ⟨r, e, ho, hn⟩ := h2 j hj; exact ⟨r, e, ho, by rw [he]; exact hn⟩⟩
  exact ⟨(h.ro.set 3 _).congr fun i hi => dcell_stk hi _, hf.nb, hf.num, hf.low, (h.stk.take hk ha).set L.fD.2 3 _, hb.set L.fD.2 3 _, by rw [size_setCell]; exact h.sz⟩
end

end Go.Proofs.YtnhhohhhpaejmaaDoor
