/- Memory of the search for greatest cliques: lists of nodes wherever they lie, and the list of what has been found. What a step of chords.row does with the states, plain. No program in sight. -/
import Derived.Test.YtnhhohhhpaejmaaPD
import Derived.Test.YtnhhohhhpaejmaaPA
import Derived.Test.YtnhhohhhpaejmaaHasGrid
import Derived.ArgAppend
import Derived.Test.YtnhhohhhpaejmaaPI
import Derived.Test.YtnhhohhhpaejmaaPJ
namespace Go.Proofs.Ytnhhohhhpaejmaa
open Go.RowKit Go.Maps

/-- Blocks of integers stay. -/
structure KI (w w' : World) : Prop where
  size : w.heap.size ≤ w'.heap.size
  block : ∀ k, k < w.heap.size → (∃ c fz, w.heap[k]? = some (.cells c 3 fz)) → w'.heap[k]? = w.heap[k]?
theorem KI.refl (w : World) : KI w w := ⟨Nat.le_refl _, fun _ _ _ => rfl⟩
theorem KI.trans {a b c : World} (h : KI a b) (k : KI b c) : KI a c :=
  ⟨Nat.le_trans h.size k.size, fun i hi ⟨x, fz, e⟩ => (k.block i (Nat.lt_of_lt_of_le hi h.size) ⟨x, fz, (h.block i hi ⟨x, fz, e⟩).trans e⟩).trans (h.block i hi ⟨x, fz, e⟩)⟩
theorem KI.of {w w' : World} (h : Below w.heap.size w w') : KI w w' := ⟨h.size, fun k hk _ => h.block k hk⟩
theorem KI.grown {w w' : World} {row : Option Nat} (hg : w.grownBy w' row) (hr : ∀ g, row = some g → ∃ c e' fz, w.heap[g]? = some (.cells c e' fz) ∧ e' ≠ 3) : KI w w' :=
  ⟨hg.size, fun k hk ⟨c, fz, e⟩ => hg.block k hk fun e2 => by
    obtain ⟨c', e', fz', h1, h2⟩ := hr k e2.symm
    rw [e] at h1
    simp only [Option.some.injEq, Obj.cells.injEq] at h1
    exact h2 h1.2.1.symm⟩
theorem KI.set {w : World} {b t n : Nat} {f : Nat → Value} (h : w.rowIs b t n f) (ht : t ≠ 3) (k : Nat) (x : Value) : KI w (w.setCell ⟨b, k, none⟩ x) :=
  KI.grown (grown_set w b k x) fun g e => by
    obtain rfl := Option.some.inj e
    obtain ⟨c, h1, -⟩ := h
    exact ⟨c, t, _, h1, ht⟩

/-- Slice value v has the nodes L, in a block of integers. -/
def TI (w : World) (v : Value) (L : List Nat) : Prop :=
  ∃ a c, v = .slice a L.length c ∧ L.length ≤ c ∧ c ≤ 9223372036854775807 ∧ (a = none → c = 0) ∧
    (0 < L.length → ∃ b o cur fz, a = some ⟨b, o, none⟩ ∧ w.heap[b]? = some (.cells cur 3 fz) ∧ ∀ j, j < L.length → cur[o + j]? = some (.int .i64 (L.getD j 0 : Nat)))
theorem TI.keep {w w' : World} {v : Value} {L : List Nat} (h : TI w v L) (k : KI w w') : TI w' v L := by
  obtain ⟨a, c, h1, h2, h3, h4, h5⟩ := h
  refine ⟨a, c, h1, h2, h3, h4, fun hp => ?_⟩
  obtain ⟨b, o, cur, fz, e, hb, hc⟩ := h5 hp
  exact ⟨b, o, cur, fz, e, (k.block b (Array.getElem?_eq_some_iff.1 hb).1 ⟨cur, fz, hb⟩).trans hb, hc⟩
theorem TI.below {w w' : World} {v : Value} {L : List Nat} (h : TI w v L) (hb : Below w.heap.size w w') : TI w' v L := h.keep (KI.of hb)
theorem TI.nil (w : World) : TI w (.slice none 0 0) [] := ⟨none, 0, rfl, Nat.le_refl _, by omega, fun _ => rfl, fun h => absurd h (Nat.lt_irrefl _)⟩
theorem TI.cell {w : World} {a : Option Addr} {n c : Nat} {L : List Nat} (h : TI w (.slice a n c) L) : n = L.length ∧ n ≤ c ∧ c ≤ 9223372036854775807 ∧ (a = none → c = 0) ∧ (0 < n → ∃ b o, a = some ⟨b, o, none⟩ ∧ ∀ j, j < n → w.cell? ⟨b, o + j, none⟩ = some (.int .i64 (L.getD j 0 : Nat))) := by
  obtain ⟨a', c', h1, h2, h3, h4, h5⟩ := h
  obtain ⟨rfl, rfl, rfl⟩ : a = a' ∧ n = L.length ∧ c = c' := by simpa using h1
  refine ⟨rfl, h2, h3, h4, fun hp => ?_⟩
  obtain ⟨b, o, cur, fz, e, hb, hc⟩ := h5 hp
  exact ⟨b, o, e, fun j hj => by simp [World.cell?, hb, hc j hj]⟩
theorem TI.form {w : World} {v : Value} {L : List Nat} (h : TI w v L) : ∃ a c, v = .slice a L.length c := by
  obtain ⟨a, c, h1, -⟩ := h
  exact ⟨a, c, h1⟩
theorem TI.is {w : World} {v : Value} {L : List Nat} (h : TI w v L) : IsInts w v (ints L) := by
  obtain ⟨a, c, rfl⟩ := h.form
  obtain ⟨-, h2, h3, h4, h5⟩ := h.cell
  by_cases hp : 0 < L.length
  · obtain ⟨b, o, rfl, hc⟩ := h5 hp
    exact ⟨_, c, b, o, by rw [ints_length], by rw [ints_length]; exact h2, h3, fun _ => rfl, h4, fun j hj => by rw [ints_length] at hj; rw [hc j hj, ints_getD]⟩
  · exact ⟨a, c, 0, 0, by rw [ints_length], by rw [ints_length]; exact h2, h3, fun h => by rw [ints_length] at h; exact absurd h hp, h4, fun j hj => by rw [ints_length] at hj; omega⟩
theorem TI.own {w : World} {B n : Nat} {v : Value} {L : List Nat} (h : w.ownsRow B 3 1 v n (nvals L)) : TI w v L := by
  have hn : n = L.length := by have := h.1; rw [nvals_length] at this; omega
  subst hn
  rcases h.2 with ⟨rfl, h0⟩ | ⟨g, cap, cur, rfl, hb, hgg, h3, h4, h5, h6⟩
  · obtain rfl := List.eq_nil_of_length_eq_zero h0
    exact TI.nil w
  · refine ⟨_, cap, rfl, h3, by unfold maxLen at h4; omega, (fun e => by cases e), fun hp => ⟨g, 0, cur, _, rfl, hgg, fun j hj => ?_⟩⟩
    have e1 : (nvals L)[j]? = some (.int .i64 (L.getD j 0 : Nat)) := by simp [nvals, ints, List.getD, List.getElem?_eq_getElem hj]
    rw [← h6, Nat.mul_one, List.getElem?_take, if_pos hj, Array.getElem?_toList] at e1
    rw [Nat.zero_add]; exact e1
/-- [:len:len]. -/
theorem TI.clip {w : World} {a : Option Addr} {n c : Nat} {L : List Nat} (h : TI w (.slice a n c) L) : TI w (.slice a n n) L := by
  obtain ⟨a', c', h1, h2, h3, h4, h5⟩ := h
  obtain ⟨rfl, rfl, rfl⟩ : a = a' ∧ n = L.length ∧ c = c' := by simpa using h1
  exact ⟨a, _, rfl, Nat.le_refl _, by omega, fun e => by have := h4 e; omega, h5⟩
/-- [1:]. -/
theorem TI.tail {w : World} {b o n c x : Nat} {L : List Nat} (h : TI w (.slice (some ⟨b, o, none⟩) n c) (x :: L)) {a' : Addr} (ha : 1 < c → a' = ⟨b, o + 1, none⟩) : TI w (.slice (some a') (n - 1) (c - 1)) L := by
  obtain ⟨a2, c', h1, h2, h3, h4, h5⟩ := h
  obtain ⟨rfl, rfl, rfl⟩ : _ = a2 ∧ n = (x :: L).length ∧ c = c' := by simpa using h1
  rw [List.length_cons] at h2
  refine ⟨some a', c - 1, by rw [List.length_cons, Nat.add_sub_cancel], by omega, by omega, (fun e => by cases e), fun hp => ?_⟩
  obtain ⟨b', o', cur, fz, e, hb, hc⟩ := h5 (by simp)
  obtain ⟨rfl, rfl⟩ : b = b' ∧ o = o' := by simpa using e
  obtain rfl := ha (by omega)
  refine ⟨b, o + 1, cur, fz, rfl, hb, fun j hj => ?_⟩
  have := hc (j + 1) (by simpa using hj)
  rw [show o + 1 + j = o + (j + 1) by omega, this]
  simp [List.getD]
/-- What the law of an append that grows asks. -/
theorem TI.olds {w : World} {a : Option Addr} {n c : Nat} {L : List Nat} (h : TI w (.slice a n c) L) : (nvals L).length = n * 1 ∧ (a = none → n = 0 ∧ n = 0) ∧ ∀ ad, a = some ad → ∀ j u, (nvals L)[j]? = some u → w.cell? (ad.add j) = some u := by
  obtain ⟨h1, h2, h3, h4, h5⟩ := h.cell
  refine ⟨by rw [nvals_length]; omega, fun e => by have := h4 e; omega, fun ad e j u hu => ?_⟩
  have hj : j < L.length := by have := (List.getElem?_eq_some_iff.1 hu).1; rwa [nvals_length] at this
  obtain ⟨b, o, e2, hc⟩ := h5 (by omega)
  rw [e] at e2
  obtain rfl := Option.some.inj e2
  rw [Addr.add_lit, hc j (by omega), ← hu]
  simp [nvals, ints, List.getD, List.getElem?_eq_getElem hj]

/-- What has been found so far: O is the box of the list. -/
structure ClSt (w0 w : World) (O : Nat) (X : List (List Nat)) : Prop where
  ch : Chg (· = O) w0 w
  out : ∃ v, w.rowIs O 42 1 (fun _ => v) ∧ IRow w w0.heap.size v (X.map ints)
theorem ClSt.below {w0 w w' : World} {O : Nat} {X : List (List Nat)} (h : ClSt w0 w O X) (hb : Below w.heap.size w w') : ClSt w0 w' O X := by
  obtain ⟨v, h1, h2⟩ := h.out
  exact ⟨h.ch.trans (Chg.ofBelow (hb.mono (Nat.le_refl _))), v, h1.of_block (hb.block _ h1.lt), h2.below hb⟩
theorem ClSt.load {w0 w : World} {O : Nat} {X : List (List Nat)} (h : ClSt w0 w O X) : ∃ v a c, v = .slice a X.length c ∧ w.rowIs O 42 1 (fun _ => v) ∧ IRow w w0.heap.size v (X.map ints) := by
  obtain ⟨v, h1, h2⟩ := h.out
  obtain ⟨a, c, e⟩ := h2.form
  rw [List.length_map] at e
  exact ⟨v, a, c, e, h1, h2⟩
/-- A list more is appended, and the box holds it. -/
theorem ClSt.more {w0 w w1 w3 : World} {O B2 : Nat} {X : List (List Nat)} {v r v' : Value} {S : List Nat} {vals : List Value} {o : Obj} (hO : O < w0.heap.size) (h : ClSt w0 w O X) (hv : w.rowIs O 42 1 (fun _ => v)) (h01 : Below w.heap.size w w1)
    (hown : w.ownsRow w0.heap.size 29 1 v X.length vals) (hrows : ∀ j, j < X.length → ∃ q, vals[j]? = some q ∧ w.ownsRow w0.heap.size 3 1 q ((X.map ints).getD j []).length (ivals ((X.map ints).getD j [])))
    (hr : w1.ownsRow B2 3 1 r S.length (nvals S)) (hB2 : w0.heap.size ≤ B2) (h3 : w3.ownsRow w0.heap.size 29 1 v' (X.length + 1) (vals ++ [r])) (g3 : (w1.alloc o).grownBy w3 v.ownBlock) :
    w3.rowIs O 42 1 (fun _ => v) ∧ ClSt w0 (w3.setCell ⟨O, 0, none⟩ v') O (X ++ [S]) ∧ KI w (w3.setCell ⟨O, 0, none⟩ v') := by
  have hl : (X.map ints).length = X.length := List.length_map _
  have e1 : (ints S).length = S.length := ints_length S
  have hr' : w1.ownsRow w0.heap.size 3 1 r (ints S).length (ivals (ints S)) := by rw [e1]; exact ownsRow_low hr hB2
  have hm := IRow.more (m := X.map ints) (x := ints S) (o := o) (by rw [hl]; exact ownsRow_below hown h01 (Nat.le_refl _)) (fun j hj => by
    rw [hl] at hj
    obtain ⟨q, e, ho⟩ := hrows j hj
    exact ⟨q, e, ownsRow_below ho h01 (Nat.le_refl _)⟩) hr' (by rw [hl]; exact h3) g3
  have hvo := ownsRow_type hown
  have hlt := hown.lt
  have hsz := h.ch.size
  have hO1 : O < w.heap.size := hv.lt
  have hrow3 : w3.rowIs O 42 1 (fun _ => v) := by
    refine ((hv.of_block (h01.block _ hO1)).alloc o).of_block (g3.block _ ?_ fun e => ?_)
    · rw [World.size_alloc]; have := h01.size; omega
    · have := (hlt O e.symm).1; omega
  have hset := hrow3.set 0 v'
  have hk1 : KI w w3 := (KI.of (h01.trans ((below1 w1 o).mono h01.size))).trans (KI.grown g3 fun g e => by
    obtain ⟨c, fz, e2⟩ := hvo g e
    have hgl := (hlt g e).2
    refine ⟨c, _, fz, ?_, show 29 ≠ 3 by decide⟩
    rw [← e2]
    exact ((below1 w1 o).block _ (Nat.lt_of_lt_of_le hgl h01.size)).trans (h01.block _ hgl))
  refine ⟨hrow3, ⟨?_, v', hset.congr (fun i hi => by rw [if_pos (by omega)]), ?_⟩, hk1.trans (KI.set hrow3 (by decide) 0 v')⟩
  · refine Chg.setCell (S := (· = O)) (p := ⟨O, 0, none⟩) ?_ (fun _ => rfl) v'
    refine ⟨g3.os.trans (h01.os.trans h.ch.os), g3.tape.trans (h01.tape.trans h.ch.tape), g3.output.trans (h01.output.trans h.ch.output), Nat.le_trans hsz (Nat.le_trans h01.size (Nat.le_trans (by rw [World.size_alloc]; omega) g3.size)), fun k hk hs => ?_⟩
    have hkw : k < w.heap.size := Nat.lt_of_lt_of_le hk hsz
    have hk1 : k < w1.heap.size := Nat.lt_of_lt_of_le hkw h01.size
    have e1 := g3.block k (by rw [World.size_alloc]; omega) fun e => by have := (hlt k e.symm).1; omega
    rw [e1, (below1 w1 o).block k hk1, h01.block k hkw]
    exact h.ch.block k hk hs
  · obtain ⟨vs, q1, q2⟩ := hm
    rw [List.map_append]
    refine ⟨vs, q1.kept (grown_set w3 O 0 v') (own_side q1 hO), fun j hj => ?_⟩
    obtain ⟨q, e, ho⟩ := q2 j hj
    exact ⟨q, e, ho.kept (grown_set w3 O 0 v') (own_side ho hO)⟩

end Go.Proofs.Ytnhhohhhpaejmaa
namespace Go.Proofs.Ytnhhohhhpaejmaa
open Go Go.RowKit

theorem mem_take_succ {C : List Nat} {m : Nat} (h : m < C.length) (v : Nat) : v ∈ C.take (m + 1) ↔ v = C.getD m 0 ∨ v ∈ C.take m := by
  rw [List.take_add_one, List.getElem?_eq_getElem h, List.getD, List.getElem?_eq_getElem h]
  simp only [Option.toList_some, List.mem_append, List.mem_singleton, Option.getD_some]
  exact Or.comm
/-- A bool tells whether something is so. -/
def TB (b : Bool) (P : Prop) : Prop := b = true ↔ P
theorem TB.yes {P : Prop} (h : TB true P) : P := h.1 rfl
theorem TB.no {P : Prop} (h : TB false P) : ¬ P := fun hp => Bool.noConfusion (h.2 hp)
theorem TB.ofYes {P : Prop} (h : P) : TB true P := ⟨fun _ => h, fun _ => rfl⟩
theorem TB.ofNo {P : Prop} (h : ¬ P) : TB false P := ⟨fun e => Bool.noConfusion e, fun hp => absurd hp h⟩
/-- The states behind a part of the clique. -/
def nx2 (C : List Nat) (st : Nat → Int) (m v : Nat) : Int := if v ∈ C.take m then 1 else st v
/-- The states behind a part of the states. -/
def nx3 (C : List Nat) (st : Nat → Int) (m v : Nat) : Int := if v ∈ C then 1 else if v < m ∧ st v = 1 then 2 else st v
theorem nx2_zero (C : List Nat) (st : Nat → Int) (v : Nat) : st v = nx2 C st 0 v := by simp [nx2]
theorem nx2_step {C : List Nat} {st : Nat → Int} {m : Nat} (h : m < C.length) (v : Nat) : (if v = C.getD m 0 then 1 else nx2 C st m v) = nx2 C st (m + 1) v := by
  unfold nx2
  by_cases e : v = C.getD m 0
  · rw [if_pos e, if_pos ((mem_take_succ h v).2 (.inl e))]
  · rw [if_neg e]
    by_cases e2 : v ∈ C.take m
    · rw [if_pos e2, if_pos ((mem_take_succ h v).2 (.inr e2))]
    · rw [if_neg e2, if_neg fun h2 => ((mem_take_succ h v).1 h2).elim e e2]
theorem nx3_zero (C : List Nat) (st : Nat → Int) (v : Nat) : nx2 C st C.length v = nx3 C st 0 v := by
  unfold nx2 nx3
  rw [List.take_length]
  simp
theorem nx3_skip {C : List Nat} {st : Nat → Int} {m : Nat} (h : ¬ (st m = 1 ∧ m ∉ C)) (v : Nat) : nx3 C st m v = nx3 C st (m + 1) v := by
  unfold nx3
  by_cases e : v ∈ C
  · rw [if_pos e, if_pos e]
  · rw [if_neg e, if_neg e]
    by_cases e2 : v = m
    · subst e2
      rw [if_neg (by omega), if_neg (fun h2 => h ⟨h2.2, e⟩)]
    · by_cases e3 : v < m ∧ st v = 1
      · rw [if_pos e3, if_pos ⟨by omega, e3.2⟩]
      · rw [if_neg e3, if_neg (fun h2 => e3 ⟨by omega, h2.2⟩)]
theorem nx3_put {C : List Nat} {st : Nat → Int} {m : Nat} (h1 : st m = 1) (h2 : m ∉ C) (v : Nat) : (if v = m then 2 else nx3 C st m v) = nx3 C st (m + 1) v := by
  by_cases e : v = m
  · subst e
    unfold nx3
    rw [if_pos rfl, if_neg h2, if_pos ⟨by omega, h1⟩]
  · rw [if_neg e]
    unfold nx3
    by_cases e1 : v ∈ C
    · rw [if_pos e1, if_pos e1]
    · rw [if_neg e1, if_neg e1]
      by_cases e3 : v < m ∧ st v = 1
      · rw [if_pos e3, if_pos ⟨by omega, e3.2⟩]
      · rw [if_neg e3, if_neg (fun h2 => e3 ⟨by omega, h2.2⟩)]
section
variable {L : List (List Nat)} {q : List Nat} {C : List Nat}
/-- A node is in a clique that does not stand yet. -/
def LfI (L : List (List Nat)) (q : List Nat) (v : Nat) : Prop := ∃ j, j < L.length ∧ j ∉ q ∧ v ∈ L.getD j []
theorem ints_rows (L : List (List Nat)) (k : Nat) : (L.map ints).getD k [] = ints (L.getD k []) := by
  rw [List.getD, List.getD, List.getElem?_map]
  cases e : L[k]?
  · rfl
  · rfl
theorem mem_ints (l : List Nat) (v : Nat) : (v : Int) ∈ ints l ↔ v ∈ l := by
  unfold ints
  rw [List.mem_map]
  constructor
  · rintro ⟨a, ha, e⟩
    obtain rfl : a = v := by omega
    exact ha
  · exact fun h => ⟨v, h, rfl⟩
theorem left_iff (v : Nat) : (∃ k, k < (L.map ints).length ∧ decide (k ∈ q) = false ∧ (v : Int) ∈ (L.map ints).getD k []) ↔ LfI L q v := by
  constructor
  · rintro ⟨k, h1, h2, h3⟩
    rw [List.length_map] at h1
    rw [ints_rows, mem_ints] at h3
    exact ⟨k, h1, of_decide_eq_false h2, h3⟩
  · rintro ⟨k, h1, h2, h3⟩
    exact ⟨k, by rw [List.length_map]; exact h1, decide_eq_false h2, by rw [ints_rows, mem_ints]; exact h3⟩
/-- The test, behind a part of the clique. -/
def OkT (L : List (List Nat)) (q C : List Nat) (m : Nat) : Prop := ∀ v ∈ C.take m, stI L q v < 2
/-- The test, behind a part of the states. -/
def OkS (L : List (List Nat)) (q C : List Nat) (m : Nat) : Prop := (∀ v ∈ C, stI L q v < 2) ∧ ∀ v, v < m → stI L q v = 1 → v ∉ C → ¬ LfI L q v
theorem OkT.zero : TB true (OkT L q C 0) := TB.ofYes fun v hv => by simp at hv
theorem OkT.step {b : Bool} {m : Nat} (h : TB b (OkT L q C m)) (hm : m < C.length) : TB (b && decide (stI L q (C.getD m 0) < 2)) (OkT L q C (m + 1)) := by
  unfold TB at h ⊢
  rw [Bool.and_eq_true, h, decide_eq_true_iff]
  constructor
  · rintro ⟨h1, h2⟩ v hv
    rcases (mem_take_succ hm v).1 hv with rfl | hv
    · exact h2
    · exact h1 v hv
  · exact fun h1 => ⟨fun v hv => h1 v ((mem_take_succ hm v).2 (.inr hv)), h1 _ ((mem_take_succ hm _).2 (.inl rfl))⟩
theorem OkS.zero {b : Bool} (h : TB b (OkT L q C C.length)) : TB b (OkS L q C 0) := by
  unfold TB at h ⊢
  rw [h]
  unfold OkT OkS
  rw [List.take_length]
  exact ⟨fun h1 => ⟨h1, fun v hv => absurd hv (Nat.not_lt_zero _)⟩, fun h1 => h1.1⟩
theorem OkS.skip {b : Bool} {m : Nat} (h : TB b (OkS L q C m)) (hn : ¬ (stI L q m = 1 ∧ m ∉ C)) : TB b (OkS L q C (m + 1)) := by
  unfold TB at h ⊢
  rw [h]
  constructor
  · rintro ⟨h1, h2⟩
    refine ⟨h1, fun v hv h3 h4 => ?_⟩
    by_cases e : v = m
    · subst e; exact absurd ⟨h3, h4⟩ hn
    · exact h2 v (by omega) h3 h4
  · exact fun ⟨h1, h2⟩ => ⟨h1, fun v hv => h2 v (by omega)⟩
theorem OkS.put {b x : Bool} {m : Nat} (h : TB b (OkS L q C m)) (h1 : stI L q m = 1) (h2 : m ∉ C) (hx : TB x (LfI L q m)) : TB (b && !x) (OkS L q C (m + 1)) := by
  unfold TB at h hx ⊢
  have hx2 : x = false ↔ ¬ LfI L q m := by rw [← hx]; cases x <;> simp
  rw [Bool.and_eq_true, h, Bool.not_eq_true', hx2]
  constructor
  · rintro ⟨⟨h3, h4⟩, h5⟩
    refine ⟨h3, fun v hv h6 h7 => ?_⟩
    by_cases e : v = m
    · subst e; exact h5
    · exact h4 v (by omega) h6 h7
  · exact fun ⟨h3, h4⟩ => ⟨⟨h3, fun v hv => h4 v (by omega)⟩, h4 m (by omega) h1 h2⟩
theorem OkS.stop {m : Nat} (h : TB false (OkS L q C m)) : TB false (OkS L q C (m + 1)) := TB.ofNo fun ⟨h1, h2⟩ => h.no ⟨h1, fun v hv => h2 v (by omega)⟩
theorem OkS.all {b : Bool} {N k : Nat} (h : TB b (OkS L q (L.getD k []) N)) : TB b (OkI L N q k) := by
  unfold TB at h ⊢
  rw [h]
  constructor
  · exact fun ⟨h1, h2⟩ => ⟨h1, fun v hv h3 h4 j hj hjq hvj => h2 v hv h3 h4 ⟨j, hj, hjq, hvj⟩⟩
  · exact fun ⟨h1, h2⟩ => ⟨h1, fun v hv h3 h4 ⟨j, hj, hjq, hvj⟩ => h2 v hv h3 h4 j hj hjq hvj⟩
theorem nx3_all {N k v : Nat} (hv : v < N) : nx3 (L.getD k []) (stI L q) N v = stI L (q ++ [k]) v := by
  rw [stI_next]
  unfold nx3
  by_cases e : v ∈ L.getD k []
  · rw [if_pos e, if_pos e]
  · rw [if_neg e, if_neg e]
    by_cases e1 : stI L q v = 1
    · rw [if_pos e1, if_pos ⟨hv, e1⟩]
    · rw [if_neg e1, if_neg fun h => e1 h.2]
end
/-- What the law of an append that grows asks, of a slice that reads as integers. -/
theorem IsInts.olds {w : World} {a : Option Addr} {n c : Nat} {q : List Nat} (h : IsInts w (.slice a n c) (ints q)) : n = q.length ∧ n ≤ c ∧ (nvals q).length = n * 1 ∧ (a = none → n = 0 ∧ n = 0) ∧ ∀ ad, a = some ad → ∀ j u, (nvals q)[j]? = some u → w.cell? (ad.add j) = some u := by
  obtain ⟨a', c', b, o, e, h2, h3, h4, h4', h5⟩ := h
  rw [ints_length] at e h2 h4 h5
  obtain ⟨rfl, rfl, rfl⟩ : a = a' ∧ n = q.length ∧ c = c' := by simpa using e
  refine ⟨rfl, h2, by rw [nvals_length]; omega, fun e => by have := h4' e; omega, fun ad e j u hu => ?_⟩
  have hj : j < q.length := by have := (List.getElem?_eq_some_iff.1 hu).1; rwa [nvals_length] at this
  have e2 := h4 (by omega)
  rw [e] at e2
  obtain rfl := Option.some.inj e2
  rw [Addr.add_lit, h5 j hj, ints_getD, ← hu]
  simp [nvals, ints, List.getD, List.getElem?_eq_getElem hj]
end Go.Proofs.Ytnhhohhhpaejmaa
