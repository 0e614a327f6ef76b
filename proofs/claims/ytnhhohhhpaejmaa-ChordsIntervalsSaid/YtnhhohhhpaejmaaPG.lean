/- Sets of nodes as numbers: the nodes that a node sees. Neighbours both ways. No walk. Masks under way in a variable of its own; a variable that holds a function. A queue: a slice of ints that is cut in front and grows behind. No program in sight. Rows of numbers, under way. No program in sight. -/
import Derived.Test.YtnhhohhhpaejmaaGridOf
import Derived.Test.YtnhhohhhpaejmaaPA
import Derived.Test.YtnhhohhhpaejmaaGCheck
import Derived.Test.YtnhhohhhpaejmaaPB
import Derived.ArgAppend
import Derived.Test.YtnhhohhhpaejmaaPD
import Derived.BigQuiet
namespace Go.Proofs.Ytnhhohhhpaejmaa
open Go.RowKit

/-- The bits below n that r tells. -/
def maskOf (r : Nat → Bool) : Nat → Nat
  | 0 => 0
  | n + 1 => lor (maskOf r n) (if r n then pow2 n else 0)
theorem maskOf_bit (r : Nat → Bool) : ∀ n i, (maskOf r n).testBit i = (decide (i < n) && r i)
  | 0, i => by simp [maskOf]
  | n + 1, i => by
    rw [maskOf, lor_bit, maskOf_bit r n i]
    by_cases h : r n = true
    · rw [if_pos h, pow2_bit]
      by_cases e : n = i
      · subst e; simp [h]
      · have : (i < n + 1) ↔ i < n := by omega
        simp [e, this]
    · have h' : r n = false := by simpa using h
      rw [if_neg h]
      by_cases e : n = i
      · subst e; simp [h']
      · have : (i < n + 1) ↔ i < n := by omega
        simp [this]
theorem maskOf_few (r : Nat → Bool) {n : Nat} (h : n ≤ 62) : Few (maskOf r n) := by
  rw [Few, few_two]
  refine few_of_bit fun i hi => ?_
  rw [maskOf_bit] at hi
  simp at hi
  omega

/-- What is near node i. -/
def near (l : List (Int × Int)) (N i : Nat) : Nat := maskOf (adj l i) N

theorem near_nil (N i : Nat) : near [] N i = 0 := by
  refine Nat.eq_of_testBit_eq fun j => ?_
  unfold near
  rw [maskOf_bit]
  simp [adj, hasE]

theorem near_succ {l : List (Int × Int)} {k X Y N : Nat} (hk : k < l.length) (he : l.getD k (0, 0) = ((X : Int), (Y : Int))) (hX : X < N) (hY : Y < N) (hXY : X ≠ Y) (i : Nat) :
    (if i = Y then lor (near (l.take k) N Y) (pow2 X) else if i = X then lor (near (l.take k) N X) (pow2 Y) else near (l.take k) N i) = near (l.take (k + 1)) N i := by
  refine Nat.eq_of_testBit_eq fun j => ?_
  unfold near
  rw [maskOf_bit, ← adj_succ hk he]
  by_cases h1 : i = Y
  · subst h1
    rw [if_pos rfl, lor_bit, maskOf_bit, pow2_bit]
    by_cases e : j = X
    · subst e; simp [hX]
    · have e' : ¬ X = j := fun h => e h.symm
      simp [e, e', Ne.symm hXY]
  · rw [if_neg h1]
    by_cases h2 : i = X
    · subst h2
      rw [if_pos rfl, lor_bit, maskOf_bit, pow2_bit]
      by_cases e : j = Y
      · subst e; simp [hY, h1]
      · have e' : ¬ Y = j := fun h => e h.symm
        simp [e, e', h1]
    · rw [if_neg h2, maskOf_bit]
      simp [h1, h2]

/-- The masks under way. -/
structure MState (w wr : World) (s : Value) (b N : Nat) (M : Nat → Nat) : Prop where
  hb : Below w.heap.size w wr
  up : w.heap.size < b
  cs : wr.cell? ⟨w.heap.size, 1, none⟩ = some s
  row : wr.rowIs b 3 N (rn M)
theorem MState.below {w wr w' : World} {s : Value} {b N : Nat} {M : Nat → Nat} (h : MState w wr s b N M) (hb : Below wr.heap.size wr w') : MState w w' s b N M :=
  ⟨h.hb.trans (hb.mono h.hb.size), h.up, below_cell hb h.cs, h.row.of_block (hb.block _ h.row.lt)⟩
theorem MState.set {w wr : World} {s : Value} {b N : Nat} {M : Nat → Nat} (h : MState w wr s b N M) (x y : Nat) : MState w (wr.setCell ⟨b, x, none⟩ (.int .i64 (y : Int))) s b N (fun i => if i = x then y else M i) := by
  have := h.up
  refine ⟨h.hb.setCell (show w.heap.size ≤ b by omega) _, h.up, ?_, row_set_rn h.row x y⟩
  rw [World.cell?_setCell_far _ _ _ _ (show b ≠ w.heap.size by omega)]; exact h.cs
theorem MState.start (w : World) (n s : Value) (N : Nat) : MState w ((w.alloc (Obj.cells #[n, s] 24)).alloc (.cells (madeCells #[.int .i64 0] N) 3)) s (w.heap.size + 1) N (fun _ => 0) := by
  have c0 := two_cells w n s 24
  have h1 := World.rowIs_made (w.alloc (Obj.cells #[n, s] 24)) (.int .i64 0) N 3
  rw [World.size_alloc] at h1
  exact ⟨below2 _ _ _, by omega, below_cell (below1 _ _) c0.2, h1.congr fun i _ => rfl⟩

/-- The slice of n numbers that are told by a function, in a block of its own. -/
def NumsPost (N : Nat) (M : Nat → Nat) (w : World) (e : Ending) (w' : World) : Prop := ∃ b, e = .returned (.slice (some ⟨b, 0, none⟩) N N) ∧ w.heap.size ≤ b ∧ w'.rowIs b 3 N (rn M) ∧ Below w.heap.size w w'

end Go.Proofs.Ytnhhohhhpaejmaa
namespace Go.Proofs.Ytnhhohhhpaejmaa
open Go Go.RowKit

theorem adj_sy (l : List (Int × Int)) (i j : Nat) : adj l i j = adj l j i := by
  unfold adj hasE
  congr 1
  funext e
  simp only [decide_eq_decide]
  unfold Meets
  omega
theorem adj_self {l : List (Int × Int)} (h : ∀ j, j < l.length → (l.getD j (0, 0)).1 ≠ (l.getD j (0, 0)).2) (i : Nat) : adj l i i = false := by
  cases e : adj l i i with
  | false => rfl
  | true =>
    unfold adj hasE at e
    obtain ⟨x, hx, hm⟩ := List.any_eq_true.1 e
    obtain ⟨j, hj, rfl⟩ := List.getElem_of_mem hx
    have h1 := h j hj
    have h2 : l.getD j (0, 0) = l[j] := by simp [List.getD, hj]
    rw [h2] at h1
    have hm := of_decide_eq_true hm
    unfold Meets at hm
    omega

end Go.Proofs.Ytnhhohhhpaejmaa
namespace Go.Proofs.Ytnhhohhhpaejmaa
open Go Go.RowKit

/-- The masks under way, where their slice lies in a variable of its own. -/
structure MB (w0 wr : World) (R NN N : Nat) (M : Nat → Nat) : Prop where
  hb : Below w0.heap.size w0 wr
  up : w0.heap.size ≤ R
  ne : R < NN
  cs : wr.cell? ⟨NN, 0, none⟩ = some (.slice (some ⟨R, 0, none⟩) N N)
  row : wr.rowIs R 3 N (rn M)
theorem MB.below {w0 wr w' : World} {R NN N : Nat} {M : Nat → Nat} (h : MB w0 wr R NN N M) (hb : Below wr.heap.size wr w') : MB w0 w' R NN N M :=
  ⟨h.hb.trans (hb.mono h.hb.size), h.up, h.ne, below_cell hb h.cs, h.row.of_block (hb.block _ h.row.lt)⟩
theorem MB.set {w0 wr : World} {R NN N : Nat} {M : Nat → Nat} (h : MB w0 wr R NN N M) (x y : Nat) : MB w0 (wr.setCell ⟨R, x, none⟩ (.int .i64 (y : Int))) R NN N (fun i => if i = x then y else M i) := by
  have := h.up
  have := h.ne
  refine ⟨h.hb.setCell (show w0.heap.size ≤ R by omega) _, h.up, h.ne, ?_, row_set_rn h.row x y⟩
  rw [World.cell?_setCell_far _ _ _ _ (show R ≠ NN by omega)]; exact h.cs
theorem MB.start (w : World) (N : Nat) : MB w ((w.alloc (.cells (madeCells #[.int .i64 0] N) 3)).alloc (Obj.cells #[.slice (some ⟨w.heap.size, 0, none⟩) N N] 29)) w.heap.size (w.heap.size + 1) N (fun _ => 0) := by
  have h1 := World.rowIs_made w (.int .i64 0) N 3
  refine ⟨below2 _ _ _, Nat.le_refl _, by omega, ?_, (h1.of_block ((below1 _ _).block _ h1.lt)).congr fun i _ => rfl⟩
  rw [World.cell?_alloc_at _ _ _ _ (by simp)]; rfl

theorem run_store_fn {P : Program} (w : World) (a : Addr) (f : Fn) (ts cs : Array Value) : (store a (.func f ts cs) .plain).run P w = stored P w a (.func f ts cs) .plain := run_store P w a _ _ rfl

theorem GRes.chg {w wr w' : World} {A B K : Nat} {n : Int} {s : Value} (h : GRes w wr A B n s) (hc : Chg (· = K) wr w') (hK : B < K) (hw : w.heap.size ≤ K) : GRes w w' A B n s := by
  have hA := h.hA
  have hs := h.hb.size
  refine ⟨h.hb.trans (hc.toBelow hs fun k hk => ?_), hc.cell h.cn (show ¬ A = K by omega), hc.cell h.cs (show ¬ A = K by omega), hc.rowIs h.hz (show ¬ B = K by omega), h.hB, h.hA⟩
  show ¬ k = K
  omega

theorem IsInts.setOff {w : World} {v : Value} {l : List Int} {B k : Nat} {x : Value} (h : IsInts w v l) (hv : ∀ g, v.ownBlock = some g → B ≠ g) : IsInts (w.setCell ⟨B, k, none⟩ x) v l := by
  obtain ⟨a, cap, b, o, rfl, h1, h2, h3, h4, h5⟩ := h
  refine ⟨a, cap, b, o, rfl, h1, h2, h3, h4, fun j hj => ?_⟩
  obtain rfl := h3 (by omega)
  rw [World.cell?_setCell_far _ _ _ _ (hv b rfl)]
  exact h5 j hj

theorem graph_good {n : Int} {l : List (Int × Int)} {a : Int} (h : GraphSpec n l 0 a) : a = 0 ∧ 0 ≤ n ∧ n ≤ 100 ∧ l.length ≤ 1000 ∧ ∀ j, j < l.length → EndsOk n (l.getD j (0, 0)) ∧ (l.getD j (0, 0)).1 ≠ (l.getD j (0, 0)).2 := by
  rcases h with ⟨_, h, _⟩ | ⟨hb, ⟨_, _, _, hw, _⟩ | ⟨h, _, h2⟩⟩
  · cases h
  · exact absurd rfl hw.ne0
  · unfold TooBig at hb
    exact ⟨h2, by omega, by omega, by omega, fun j hj => ⟨(h j hj).1, (h j hj).2.1⟩⟩

end Go.Proofs.Ytnhhohhhpaejmaa
namespace Go.Proofs.Ytnhhohhhpaejmaa
open Go.RowKit

/-- The numbers l, in a row of their own, somewhere. -/
structure QAt (w : World) (base b off cap K : Nat) (f : Nat → Value) (l : List Nat) : Prop where
  ge : base ≤ b
  len : l.length ≤ cap
  room : off + cap ≤ K
  row : w.rowIs b 3 K f
  is : ∀ j, j < l.length → f (off + j) = .int .i64 (l.getD j 0 : Nat)
def QIs (w : World) (base : Nat) (v : Value) (l : List Nat) : Prop := ∃ b off cap K f, v = .slice (some ⟨b, off, none⟩) l.length cap ∧ QAt w base b off cap K f l

section
variable {w w' : World} {base : Nat} {v : Value} {l : List Nat}
theorem QAt.below {b off cap K : Nat} {f : Nat → Value} (h : QAt w base b off cap K f l) (hb : Below w.heap.size w w') : QAt w' base b off cap K f l :=
  ⟨h.ge, h.len, h.room, h.row.of_block (hb.block _ h.row.lt), h.is⟩
theorem QIs.below (h : QIs w base v l) (hb : Below w.heap.size w w') : QIs w' base v l := by
  obtain ⟨b, off, cap, K, f, e, h⟩ := h
  exact ⟨b, off, cap, K, f, e, h.below hb⟩
theorem QIs.set (h : QIs w base v l) {q : Nat} (hq : q < base) (k : Nat) (x : Value) : QIs (w.setCell ⟨q, k, none⟩ x) base v l := by
  obtain ⟨b, off, cap, K, f, e, h⟩ := h
  have := h.ge
  exact ⟨b, off, cap, K, f, e, h.ge, h.len, h.room, h.row.setOther (a := ⟨q, k, none⟩) (by show b ≠ q; omega) _, h.is⟩
theorem QIs.one (w : World) (base n : Nat) (hb : base ≤ w.heap.size) : QIs (w.alloc (.cells #[.int .i64 (n : Int)] 3)) base (.slice (some ⟨w.heap.size, 0, none⟩) 1 1) [n] :=
  ⟨w.heap.size, 0, 1, 1, fun _ => .int .i64 (n : Int), rfl, hb, Nat.le_refl _, Nat.le_refl _, World.rowIs_alloc w #[.int .i64 (n : Int)] 3 _ (fun i hi => by
    match i, hi with
    | 0, _ => rfl), fun j hj => by
    match j, hj with
    | 0, _ => rfl⟩
theorem QAt.cell {b off cap K : Nat} {f : Nat → Value} (h : QAt w base b off cap K f l) {j : Nat} (hj : j < l.length) : w.cell? ⟨b, off + j, none⟩ = some (.int .i64 (l.getD j 0 : Nat)) := by
  have := h.len
  have := h.room
  rw [h.row.cell (show off + j < K by omega), h.is j hj]
/-- Cut in front. -/
theorem QAt.tail {b off cap K : Nat} {f : Nat → Value} {x : Nat} (h : QAt w base b off cap K f (x :: l)) : QAt w base b (off + 1) (cap - 1) K f l := by
  have h1 := h.len
  have h2 := h.room
  rw [List.length_cons] at h1
  refine ⟨h.ge, by omega, by omega, h.row, fun j hj => ?_⟩
  have := h.is (j + 1) (by simpa using hj)
  rw [show off + 1 + j = off + (j + 1) by omega, this]
  rfl
theorem QAt.nil {b off cap K : Nat} {f : Nat → Value} (h : QAt w base b off cap K f l) : QAt w base b off 0 K f [] := ⟨h.ge, Nat.le_refl _, by have := h.room; omega, h.row, by simp⟩

/-- Grown behind. -/
theorem wpList_append_q {P : Program} {ops : Array Oper} {rest : List Oper} {o : Oper} {a : Act} {Q : Exit → Act → World → Prop} (hg : o.guard = none) (s x : Operand) (t : TypeId)
    (ho : o.op = .call { callee := .builtin .append, args := #[s, x], argTypes := #[t, t] }) (ht : P.underlying t = some (.slice 3)) (hinfo : (P.info? 3).map (fun i => (i.zero, i.size, i.bytes)) = some (some (.int .i64 0), 1, 8))
    (v : Value) (l : List Nat) (hs : a.eval s = v) (h : QIs w base v l) (ad : Addr) (c n : Nat) (hx : a.eval x = .slice (some ad) 1 c) (hc : w.cell? (ad.add 0) = some (.int .i64 (n : Int))) (hl : l.length < 1000000) (hbase : base ≤ w.heap.size)
    (hK : ∀ v' w', QIs w' base v' (l ++ [n]) → Below base w w' → wpList P ops Q rest (a.put o.dst v') w') :
    wpList P ops Q (o :: rest) a w := by
  obtain ⟨i, hi, hz0, hsz, hby⟩ := info_parts hinfo
  obtain ⟨b, off, cap, K, f, rfl, h⟩ := h
  have h1 := h.len
  have h2 := h.room
  have hlen : (l ++ [n]).length = l.length + 1 := by simp
  have hget : (l ++ [n]).getD l.length 0 = n := by simp [List.getD]
  have hgetl : ∀ j, j < l.length → (l ++ [n]).getD j 0 = l.getD j 0 := fun j hj => by rw [List.getD, List.getD, List.getElem?_append_left hj]
  refine wpList_append_arg w hg s x t ho 3 i (.int .i64 0) 1 8 ht hi hz0 hsz hby rfl (by omega) b off l.length cap ((ints l).map (Value.int .i64)) hs (by rw [List.length_map, ints_length]; omega) (fun j u hu => ?_) ad 1 c [.int .i64 (n : Int)] hx rfl (fun j u hu => ?_) (by simp [Value.oneCell']) (fun hr j hj => ?_) (by unfold maxLen; omega) (by omega) (fun hr => ?_) (fun hr v' w' hown hgr => ?_)
  · have hj : j < l.length := by have := (List.getElem?_eq_some_iff.1 hu).1; simpa [ints_length] using this
    rw [h.cell hj]
    have e : ((ints l).map (Value.int .i64))[j]? = some (.int .i64 (l.getD j 0 : Nat)) := by simp [ints, List.getD, hj]
    rw [e] at hu
    exact hu
  · have hj : j = 0 := by have := (List.getElem?_eq_some_iff.1 hu).1; simp at this; omega
    subst hj
    simp only [List.getElem?_cons_zero, Option.some.injEq] at hu
    subst hu
    exact hc
  · simp only [List.length_cons, List.length_nil] at hj
    rw [show off + l.length * 1 + j = off + l.length by omega]
    exact ⟨by rw [h.row.cell (show off + l.length < K by omega)]; rfl, h.row.frozen _⟩
  · rw [show off + l.length * 1 = off + l.length by omega]
    refine hK _ _ ⟨b, off, cap, K, _, by rw [hlen], h.ge, by omega, h2, h.row.set (off + l.length) (.int .i64 (n : Int)), fun j hj => ?_⟩ ?_
    · rw [hlen] at hj
      by_cases e : j = l.length
      · subst e; rw [if_pos rfl, hget]
      · rw [if_neg (by omega), hgetl j (by omega), h.is j (by omega)]
    · exact (Below.refl base w).setCell (p := ⟨b, off + l.length, none⟩) h.ge _
  · rcases hown.2 with ⟨-, h0⟩ | ⟨g, cap', cur, rfl, hge, hgg, h3, h4, h5, h6⟩
    · omega
    · refine hK _ _ ⟨g, 0, cap', cap', fun j => cur[j]?.getD (.bool false), by rw [hlen], by omega, by omega, by omega, ⟨cur, hgg, by omega, fun j hj => ?_⟩, fun j hj => ?_⟩ ⟨hgr.os, hgr.tape, hgr.output, hgr.size, fun k hk => hgr.block k (by omega) (by simp)⟩
      · simp [Array.getElem?_eq_getElem (show j < cur.size by omega)]
      · rw [hlen] at hj
        have e : cur[0 + j]? = some (.int .i64 ((l ++ [n]).getD j 0 : Nat)) := by
          have e1 : (cur.toList.take ((l.length + 1) * 1))[j]? = some (.int .i64 ((l ++ [n]).getD j 0 : Nat)) := by
            rw [h6]
            by_cases e : j = l.length
            · subst e
              rw [hget, List.getElem?_append_right (by rw [List.length_map, ints_length]; omega)]
              simp [ints_length]
            · rw [hgetl j (by omega), List.getElem?_append_left (by rw [List.length_map, ints_length]; omega)]
              simp [ints, List.getD, show j < l.length by omega]
          rw [List.getElem?_take, if_pos (by omega)] at e1
          rw [Nat.zero_add]
          simpa using e1
        simp only [e, Option.getD_some]
end

/-- Where 'q[1:]' begins. -/
def cutAt (b off m : Nat) : Option Addr := if m = 0 then some ⟨b, off, none⟩ else some ⟨b, off + 1, none⟩
theorem run_slice_one {P : Program} {t e : TypeId} {i : TypeInfo} (ht : P.underlying t = some (.slice e)) (hi : P.info? e = some i) (hs : i.size = 1) (b off n cap : Nat) (h : n + 1 ≤ cap) (w : World) :
    (Instr.slice t (.slice (some ⟨b, off, none⟩) (n + 1) cap) (some (.int .i64 1)) none none).run P w = .ok (.slice (cutAt b off (cap - 1)) n (cap - 1)) w := by
  have hb : (Instr.sliceBound (.int .i64 1) (n + 1) .sliceB).run P w = .ok 1 w := run_sliceBound w .i64 1 (n + 1) .sliceB (by omega) (by omega)
  simp [Instr.slice, run_underlying ht, Instr.sliceBounds, hb, sizeOf, typeInfo, hi, hs, cutAt]
  by_cases e : cap - 1 = 0
  · rw [if_pos e, if_pos (by omega)]
  · rw [if_neg e, if_neg (by omega)]; simp [Addr.add]
theorem QAt.cut {w : World} {base b off cap K x : Nat} {f : Nat → Value} {l : List Nat} (h : QAt w base b off cap K f (x :: l)) : QIs w base (.slice (cutAt b off (cap - 1)) l.length (cap - 1)) l := by
  have h1 := h.len
  rw [List.length_cons] at h1
  unfold cutAt
  by_cases e : cap - 1 = 0
  · rw [if_pos e]
    obtain rfl : l = [] := List.eq_nil_of_length_eq_zero (by omega)
    rw [e]
    exact ⟨b, off, 0, K, f, rfl, h.nil⟩
  · rw [if_neg e]
    exact ⟨b, off + 1, cap - 1, K, f, rfl, h.tail⟩

end Go.Proofs.Ytnhhohhhpaejmaa
namespace Go.Proofs.Ytnhhohhhpaejmaa
open Go.RowKit

/-- A row of numbers, under way. -/
structure RiSt (w wr : World) (b N : Nat) (F : Nat → Int) : Prop where
  hb : Below w.heap.size w wr
  nI : w.heap.size ≤ b
  row : wr.rowIs b 3 N (ri F)
theorem RiSt.set {w wr : World} {b N : Nat} {F : Nat → Int} (h : RiSt w wr b N F) (k : Nat) (x : Int) : RiSt w (wr.setCell ⟨b, k, none⟩ (.int .i64 x)) b N (fun q => if q = k then x else F q) :=
  ⟨h.hb.setCell h.nI _, h.nI, row_set_ri h.row k x⟩
theorem RiSt.below {w wr w' : World} {b N : Nat} {F : Nat → Int} (h : RiSt w wr b N F) (hb : Below wr.heap.size wr w') : RiSt w w' b N F :=
  ⟨h.hb.trans (hb.mono h.hb.size), h.nI, h.row.of_block (hb.block _ h.row.lt)⟩
theorem RiSt.congr {w wr : World} {b N : Nat} {F F' : Nat → Int} (h : RiSt w wr b N F) (e : ∀ q, q < N → F q = F' q) : RiSt w wr b N F' := ⟨h.hb, h.nI, row_ri h.row e⟩
theorem wrap_midF {x : Int} (h0 : -9223372036854775808 ≤ x) (h1 : x < 9223372036854775808) : IntKind.i64.wrap x = x := by
  simp [IntKind.wrap, IntKind.bits, IntKind.signed]; omega
theorem one_cellF (w : World) (a : Addr) (x v : Value) (t : TypeId) : ((w.setCell a x).alloc (.cells #[v] t)).cell? ((⟨w.heap.size, 0, none⟩ : Addr).add 0) = some v := by
  rw [Addr.add_lit, World.cell?_alloc_at _ _ _ _ (size_setCell w a x).symm]; rfl

end Go.Proofs.Ytnhhohhhpaejmaa
