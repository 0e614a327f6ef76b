/- General facts on memory: what a slice value reads as (IsInts, IsRows), and which blocks a call may have turned (Chg). No program in sight. Rows of memory that are told by a function, of integers or bools. No program in sight. Two variables of two cells each. No program in sight. Slices that the call itself builds by append: laws in the form that the walk takes. No program in sight. All pairs that are told: a list, row by row. No program in sight. The plain law of minor.Within and arborref.First: one and the same search. No program in sight. -/
import Derived.WalkKit
import Derived.Lib.Hide
import Derived.Deep.OwnRows
import Derived.Deep.Draws
import Derived.Laws.AppendOwnNone
namespace Go.Proofs.Ytmhcnekbfngafaa
open Go.RowKit

/-- Slice value v reads as the integers l. -/
def IsInts (w : World) (v : Value) (l : List Int) : Prop :=
  ∃ (a : Option Addr) (cap b o : Nat), v = .slice a l.length cap ∧ l.length ≤ cap ∧ cap ≤ 9223372036854775807 ∧ (0 < l.length → a = some ⟨b, o, none⟩) ∧
    (a = none → cap = 0) ∧ ∀ j, j < l.length → w.cell? ⟨b, o + j, none⟩ = some (.int .i64 (l.getD j 0))

/-- Slice value v reads as the rows m of integers. -/
def IsRows (w : World) (v : Value) (m : List (List Int)) : Prop :=
  ∃ (a : Option Addr) (cap b o : Nat), v = .slice a m.length cap ∧ m.length ≤ cap ∧ cap ≤ 9223372036854775807 ∧ (0 < m.length → a = some ⟨b, o, none⟩) ∧
    (a = none → cap = 0) ∧ ∀ j, j < m.length → ∃ r, w.cell? ⟨b, o + j, none⟩ = some r ∧ IsInts w r (m.getD j [])

theorem IsInts.nil (w : World) : IsInts w (.slice none 0 0) [] := ⟨none, 0, 0, 0, rfl, Nat.le_refl _, by omega, by simp, by simp, by simp⟩

theorem below_cell {w w' : World} (h : Below w.heap.size w w') {a : Addr} {v : Value} (hc : w.cell? a = some v) : w'.cell? a = some v := by
  rw [h.cell (World.block_lt_of_cell? w a hc)]; exact hc

theorem IsInts.below {w w' : World} {v : Value} {l : List Int} (h : IsInts w v l) (hb : Below w.heap.size w w') : IsInts w' v l := by
  obtain ⟨a, cap, b, o, h1, h2, h3, h4, h4', h5⟩ := h
  exact ⟨a, cap, b, o, h1, h2, h3, h4, h4', fun j hj => below_cell hb (h5 j hj)⟩

theorem IsRows.below {w w' : World} {v : Value} {m : List (List Int)} (h : IsRows w v m) (hb : Below w.heap.size w w') : IsRows w' v m := by
  obtain ⟨a, cap, b, o, h1, h2, h3, h4, h4', h5⟩ := h
  exact ⟨a, cap, b, o, h1, h2, h3, h4, h4', fun j hj => by obtain ⟨r, hr, hi⟩ := h5 j hj; exact ⟨r, below_cell hb hr, hi.below hb⟩⟩

theorem Below.drewN' {B : Nat} {a w : World} (h : Below B a w) (n : Nat) : Below B a (w.drewN n) := ⟨h.os, h.tape, h.output, h.size, h.block⟩

theorem IsInts.drewN {w : World} {v : Value} {l : List Int} (h : IsInts w v l) (n : Nat) : IsInts (w.drewN n) v l := h
theorem IsRows.drewN {w : World} {v : Value} {m : List (List Int)} (h : IsRows w v m) (n : Nat) : IsRows (w.drewN n) v m := h.below (Below.drewN' (Below.refl _ _) n)

/-- An element under a name of its own, in a later world. -/
theorem ints_at {w wr : World} {b o k : Nat} {l : List Int} (h : ∀ j, j < l.length → w.cell? ⟨b, o + j, none⟩ = some (.int .i64 (l.getD j 0))) (hb : Below w.heap.size w wr) (hk : k < l.length) :
    ∃ x, Hid (l.getD k 0 = x) ∧ wr.cell? ⟨b, o + k, none⟩ = some (.int .i64 x) := ⟨_, rfl, below_cell hb (h k hk)⟩
theorem rows_at {w wr : World} {b o k : Nat} {m : List (List Int)} (h : ∀ j, j < m.length → ∃ r, w.cell? ⟨b, o + j, none⟩ = some r ∧ IsInts w r (m.getD j [])) (hb : Below w.heap.size w wr) (hk : k < m.length) :
    ∃ x, Hid (m.getD k [] = x) ∧ ∃ a cap, wr.cell? ⟨b, o + k, none⟩ = some (.slice a x.length cap) ∧ IsInts wr (.slice a x.length cap) x := by
  obtain ⟨r, hr, hi⟩ := h k hk
  obtain ⟨a, cap, b', o', rfl, hh⟩ := id hi
  exact ⟨_, rfl, a, cap, below_cell hb hr, hi.below hb⟩

/-- The world moved on by draws alone. -/
def Drew (w w' : World) : Prop := ∃ n, w' = w.drewN n
theorem Drew.refl (w : World) : Drew w w := ⟨0, rfl⟩
theorem Drew.add {w w' : World} (h : Drew w w') (n : Nat) : Drew w (w'.drewN n) := by
  obtain ⟨m, rfl⟩ := h
  exact ⟨m + n, by rw [World.drewN_drewN]⟩
theorem Drew.drew {w w' : World} (h : Drew w w') : Drew w w'.drew := h.add 1
theorem Drew.trans {a b c : World} (h : Drew a b) (k : Drew b c) : Drew a c := by
  obtain ⟨m, rfl⟩ := k
  exact h.add m
theorem ret_bool {a b : Bool} (h : a = b) : Ending.returned (.bool a) = Ending.returned (.bool b) := by rw [h]
theorem ret_int {a b : Int} (h : a = b) : Ending.returned (.int .i64 a) = Ending.returned (.int .i64 b) := by rw [h]
theorem Drew.below {w w' : World} (h : Drew w w') {B : Nat} : Below B w w' := by obtain ⟨n, rfl⟩ := h; exact Below.drewN' (Below.refl _ _) n

/-- Of the blocks of w only those of S may have turned. -/
structure Chg (S : Nat → Prop) (w w' : World) : Prop where
  os : w'.os = w.os
  tape : w'.tape = w.tape
  output : w'.output = w.output
  size : w.heap.size ≤ w'.heap.size
  block : ∀ k, k < w.heap.size → ¬ S k → w'.heap[k]? = w.heap[k]?

theorem Chg.refl (S : Nat → Prop) (w : World) : Chg S w w := ⟨rfl, rfl, rfl, Nat.le_refl _, fun _ _ _ => rfl⟩
theorem Chg.trans {S : Nat → Prop} {a b c : World} (h : Chg S a b) (k : Chg S b c) : Chg S a c :=
  ⟨k.os.trans h.os, k.tape.trans h.tape, k.output.trans h.output, Nat.le_trans h.size k.size, fun i hi hs => (k.block i (Nat.lt_of_lt_of_le hi h.size) hs).trans (h.block i hi hs)⟩
theorem Chg.mono {S T : Nat → Prop} {w w' : World} (h : Chg S w w') (hT : ∀ k, k < w.heap.size → S k → T k) : Chg T w w' :=
  ⟨h.os, h.tape, h.output, h.size, fun i hi hs => h.block i hi (fun hk => hs (hT i hi hk))⟩
theorem Chg.ofBelow {S : Nat → Prop} {w w' : World} (h : Below w.heap.size w w') : Chg S w w' := ⟨h.os, h.tape, h.output, h.size, fun i hi _ => h.block i hi⟩
theorem Chg.toBelow {B : Nat} {S : Nat → Prop} {w w' : World} (h : Chg S w w') (hB : B ≤ w.heap.size) (hS : ∀ k, k < B → ¬ S k) : Below B w w' :=
  ⟨h.os, h.tape, h.output, h.size, fun i hi => h.block i (Nat.lt_of_lt_of_le hi hB) (hS i hi)⟩
theorem Chg.drew {S : Nat → Prop} {a w : World} (h : Chg S a w) : Chg S a w.drew := ⟨h.os, h.tape, h.output, h.size, h.block⟩
theorem Chg.drewN {S : Nat → Prop} {a w : World} (h : Chg S a w) (n : Nat) : Chg S a (w.drewN n) := ⟨h.os, h.tape, h.output, h.size, h.block⟩
theorem Chg.alloc {S : Nat → Prop} {a w : World} (h : Chg S a w) (o : Obj) : Chg S a (w.alloc o) :=
  h.trans (Chg.ofBelow ((Below.refl _ _).alloc (Nat.le_refl _) o))
theorem Chg.setCell {S : Nat → Prop} {a w : World} (h : Chg S a w) {p : Addr} (hp : p.block < a.heap.size → S p.block) (u : Value) : Chg S a (w.setCell p u) :=
  ⟨h.os, h.tape, h.output, by simpa [World.setCell] using h.size, fun k hk hs => (Below.heap_setCell w p u k (fun e => hs (e ▸ hp (e ▸ hk)))).trans (h.block k hk hs)⟩
theorem Chg.cell {S : Nat → Prop} {w w' : World} (h : Chg S w w') {a : Addr} {v : Value} (hc : w.cell? a = some v) (hs : ¬ S a.block) : w'.cell? a = some v := by
  rw [World.cell?_of_block (h.block _ (World.block_lt_of_cell? w a hc) hs)]; exact hc
theorem Chg.rowIs {S : Nat → Prop} {w w' : World} (h : Chg S w w') {b : Nat} {t : TypeId} {n : Nat} {f : Nat → Value} (hr : w.rowIs b t n f) (hs : ¬ S b) : w'.rowIs b t n f :=
  hr.of_block (h.block _ hr.lt hs)

theorem IsInts.take {w : World} {a : Option Addr} {n cap : Nat} {l : List Int} (h : IsInts w (.slice a n cap) l) {k : Nat} (hk : k ≤ n) : IsInts w (.slice a k cap) (l.take k) := by
  obtain ⟨a', cap', b, o, h1, h2, h3, h4, h4', h5⟩ := h
  simp only [Value.slice.injEq] at h1
  obtain ⟨rfl, rfl, rfl⟩ := h1
  have hl : (l.take k).length = k := by simp; omega
  refine ⟨a, cap, b, o, by rw [hl], by omega, h3, fun hp => h4 (by omega), h4', fun j hj => ?_⟩
  rw [h5 j (by omega)]
  have hj' : j < k := by omega
  simp [List.getD, hj']

/-- 'x[:k]' of a slice, for every world. -/
theorem run_slice_hi {P : Program} {t e : TypeId} {i : TypeInfo} (ht : P.underlying t = some (.slice e)) (hi : P.info? e = some i) (a : Option Addr) (len cap k : Nat) (hk : k ≤ cap) (w : World) :
    (Instr.slice t (.slice a len cap) none (some (.int .i64 (k : Int))) none).run P w = .ok (.slice a k cap) w := by
  have e0 : ∀ s : Nat, (if cap = 0 then a else a.map (fun x => x.add (0 * s))) = a := by
    intro s
    split
    · rfl
    · cases a <;> simp [Addr.add]
  simp [Instr.slice, run_underlying ht, Instr.sliceBounds, run_sliceBound, hk, sizeOf, typeInfo, hi]
  intro _
  cases a <;> simp [Addr.add]

/-- Where 'x[1:]' of a whole block begins. -/
def tailAt (b n : Nat) : Option Addr := if n = 0 then some ⟨b, 0, none⟩ else some ⟨b, 1, none⟩
/-- 'x[1:]' of a whole block of n + 1 one-cell elements, for every world. -/
theorem run_slice_tail {P : Program} {t e : TypeId} {i : TypeInfo} (ht : P.underlying t = some (.slice e)) (hi : P.info? e = some i) (hs : i.size = 1) (b n : Nat) (w : World) :
    (Instr.slice t (.slice (some ⟨b, 0, none⟩) (n + 1) (n + 1)) (some (.int .i64 1)) none none).run P w = .ok (.slice (tailAt b n) n n) w := by
  have hb : (Instr.sliceBound (.int .i64 1) (n + 1) .sliceB).run P w = .ok 1 w := run_sliceBound w .i64 1 (n + 1) .sliceB (by omega) (by omega)
  simp [Instr.slice, run_underlying ht, Instr.sliceBounds, hb, sizeOf, typeInfo, hi, hs, tailAt]
  by_cases e : n = 0
  · rw [if_pos e, if_pos e]
  · rw [if_neg e, if_neg e]; simp [Addr.add]

/-- The tail of a whole block that is a row of integers. -/
theorem IsInts.ofTail {w : World} {b n : Nat} {t : TypeId} {f : Nat → Int} (h : w.rowIs b t (n + 1) (fun i => .int .i64 (f i))) (hn : n ≤ 9223372036854775807) :
    IsInts w (.slice (tailAt b n) n n) ((List.range n).map fun i => f (i + 1)) := by
  refine ⟨tailAt b n, n, b, 1, by simp, by simp, hn, fun hp => ?_, fun h => ?_, fun j hj => ?_⟩
  · have : 0 < n := by simpa using hp
    unfold tailAt; rw [if_neg (by omega)]
  · unfold tailAt at h; split at h <;> cases h
  · have hj' : j < n := by simpa using hj
    rw [Nat.add_comm 1 j, h.cell (by omega)]; simp [List.getD, hj']

/-- A whole block that is a row of integers, off the head. -/
theorem IsInts.ofRow {w : World} {b n : Nat} {t : TypeId} {f : Nat → Int} (h : w.rowIs b t n (fun i => .int .i64 (f i))) (hn : n ≤ 9223372036854775807) :
    IsInts w (.slice (some ⟨b, 0, none⟩) n n) ((List.range n).map f) :=
  ⟨some ⟨b, 0, none⟩, n, b, 0, by simp, by simp, hn, fun _ => rfl, (fun h => by cases h), fun j hj => by
    have hj' : j < n := by simpa using hj
    rw [Nat.zero_add, h.cell hj']; simp [List.getD, hj']⟩

end Go.Proofs.Ytmhcnekbfngafaa
namespace Go.Proofs.Ytmhcnekbfngafaa
open Go.RowKit

def ri (f : Nat → Int) : Nat → Value := fun k => .int .i64 (f k)
def rn (f : Nat → Nat) : Nat → Value := fun k => .int .i64 (f k : Int)
def rb (f : Nat → Bool) : Nat → Value := fun k => .bool (f k)
theorem row_ri {w : World} {g g' : Nat → Int} {b t n : Nat} (h : w.rowIs b t n (ri g)) (e : ∀ k, k < n → g k = g' k) : w.rowIs b t n (ri g') := h.congr fun k hk => by simp [ri, e k hk]
theorem row_rn {w : World} {g g' : Nat → Nat} {b t n : Nat} (h : w.rowIs b t n (rn g)) (e : ∀ k, k < n → g k = g' k) : w.rowIs b t n (rn g') := h.congr fun k hk => by simp [rn, e k hk]
theorem row_rb {w : World} {g g' : Nat → Bool} {b t n : Nat} (h : w.rowIs b t n (rb g)) (e : ∀ k, k < n → g k = g' k) : w.rowIs b t n (rb g') := h.congr fun k hk => by simp [rb, e k hk]
theorem row_set_ri {w : World} {g : Nat → Int} {b t n : Nat} (h : w.rowIs b t n (ri g)) (k : Nat) (x : Int) : (w.setCell ⟨b, k, none⟩ (.int .i64 x)).rowIs b t n (ri fun q => if q = k then x else g q) :=
  (h.set k _).congr fun q _ => by simp only [ri]; split <;> rfl
theorem row_set_rn {w : World} {g : Nat → Nat} {b t n : Nat} (h : w.rowIs b t n (rn g)) (k x : Nat) : (w.setCell ⟨b, k, none⟩ (.int .i64 (x : Int))).rowIs b t n (rn fun q => if q = k then x else g q) :=
  (h.set k _).congr fun q _ => by simp only [rn]; split <;> rfl
theorem row_set_rb {w : World} {g : Nat → Bool} {b t n : Nat} (h : w.rowIs b t n (rb g)) (k : Nat) (x : Bool) : (w.setCell ⟨b, k, none⟩ (.bool x)).rowIs b t n (rb fun q => if q = k then x else g q) :=
  (h.set k _).congr fun q _ => by simp only [rb]; split <;> rfl
theorem size_setCell (w : World) (a : Addr) (x : Value) : (w.setCell a x).heap.size = w.heap.size := by simp [World.setCell]

end Go.Proofs.Ytmhcnekbfngafaa
namespace Go.Proofs.Ytmhcnekbfngafaa
open Go.RowKit

theorem two_row (w : World) (c d : Value) (T : TypeId) : (w.alloc (Obj.cells #[c, d] T)).rowIs w.heap.size T 2 (fun i => if i = 0 then c else d) :=
  World.rowIs_alloc w #[c, d] T _ (fun i hi => by
    match i, hi with
    | 0, _ => rfl
    | 1, _ => rfl)
theorem four_set {w : World} {A B : Nat} {TA TB : TypeId} {f f' : Nat → Value} (h : w.rowIs A TA 2 f) (h' : w.rowIs B TB 2 f') (hne : A ≠ B) (x y z u : Value) :
    ((((w.setCell ⟨A, 0, none⟩ x).setCell ⟨A, 1, none⟩ y).setCell ⟨B, 0, none⟩ z).setCell ⟨B, 1, none⟩ u).cell? ⟨A, 0, none⟩ = some x ∧
    ((((w.setCell ⟨A, 0, none⟩ x).setCell ⟨A, 1, none⟩ y).setCell ⟨B, 0, none⟩ z).setCell ⟨B, 1, none⟩ u).cell? ⟨A, 1, none⟩ = some y ∧
    ((((w.setCell ⟨A, 0, none⟩ x).setCell ⟨A, 1, none⟩ y).setCell ⟨B, 0, none⟩ z).setCell ⟨B, 1, none⟩ u).cell? ⟨B, 0, none⟩ = some z ∧
    ((((w.setCell ⟨A, 0, none⟩ x).setCell ⟨A, 1, none⟩ y).setCell ⟨B, 0, none⟩ z).setCell ⟨B, 1, none⟩ u).cell? ⟨B, 1, none⟩ = some u := by
  have a := (((h.set 0 x).set 1 y).setOther (a := ⟨B, 0, none⟩) hne z).setOther (a := ⟨B, 1, none⟩) hne u
  have b := (((h'.setOther (a := ⟨A, 0, none⟩) (Ne.symm hne) x).setOther (a := ⟨A, 1, none⟩) (Ne.symm hne) y).set 0 z).set 1 u
  exact ⟨a.cell (show 0 < 2 by omega), a.cell (show 1 < 2 by omega), b.cell (show 0 < 2 by omega), b.cell (show 1 < 2 by omega)⟩
theorem four_below {w0 w : World} {A B : Nat} (h : Below w0.heap.size w0 w) (hA : w0.heap.size ≤ A) (hB : w0.heap.size ≤ B) (x y z u : Value) :
    Below w0.heap.size w0 ((((w.setCell ⟨A, 0, none⟩ x).setCell ⟨A, 1, none⟩ y).setCell ⟨B, 0, none⟩ z).setCell ⟨B, 1, none⟩ u) :=
  (((h.setCell hA _).setCell hA _).setCell hB _).setCell hB _

end Go.Proofs.Ytmhcnekbfngafaa
namespace Go.Proofs.Ytmhcnekbfngafaa
open Go.RowKit

/-- Slice value v has the m one-cell elements xs, wherever. -/
def HasCells (w : World) (v : Value) (m : Nat) (xs : List Value) : Prop :=
  ∃ (a : Option Addr) (cap : Nat), v = .slice a m cap ∧ xs.length = m ∧ (a = none → m = 0 ∧ cap = 0) ∧ (∀ ad, a = some ad → ∀ j u, xs[j]? = some u → w.cell? (ad.add j) = some u) ∧ ∀ u ∈ xs, u.oneCell' = true

theorem IsInts.cells {w : World} {v : Value} {l : List Int} (h : IsInts w v l) : HasCells w v l.length (l.map (Value.int .i64)) := by
  obtain ⟨a, cap, b, o, rfl, h2, h3, h4, h4', h5⟩ := h
  refine ⟨a, cap, rfl, by simp, fun e => ⟨by have := h4' e; omega, h4' e⟩, fun ad had j u hu => ?_, ints_oneCell _ _⟩
  have hj : j < l.length := by have := (List.getElem?_eq_some_iff.1 hu).1; simpa using this
  rw [h4 (by omega)] at had
  obtain rfl := Option.some.inj had
  rw [Addr.add_lit, h5 j hj]
  have e : (l.map (Value.int .i64))[j]? = some (.int .i64 (l.getD j 0)) := by simp [List.getD, hj]
  rw [e] at hu
  exact hu

/-- One value in a new block of its own. -/
theorem HasCells.one (w : World) (v : Value) (t : TypeId) (hv : v.oneCell' = true) : HasCells (w.alloc (.cells #[v] t)) (.slice (some ⟨w.heap.size, 0, none⟩) 1 1) 1 [v] := by
  refine ⟨_, _, rfl, rfl, by simp, fun ad had j u hu => ?_, by simpa using hv⟩
  obtain rfl := Option.some.inj had
  have hj : j = 0 := by have := (List.getElem?_eq_some_iff.1 hu).1; simp at this; omega
  subst hj
  simp only [List.getElem?_cons_zero, Option.some.injEq] at hu
  subst hu
  simp [Addr.add]

/-- .. its number said otherwise. -/
theorem HasCells.at (w : World) (v : Value) (t : TypeId) (hv : v.oneCell' = true) {b : Nat} (hb : b = w.heap.size) : HasCells (w.alloc (.cells #[v] t)) (.slice (some ⟨b, 0, none⟩) 1 1) 1 [v] := by
  subst hb; exact HasCells.one w v t hv

theorem grown_none {w w' : World} {base : Nat} {e : TypeId} {size : Nat} {v : Value} {n : Nat} {xs : List Value} (h : w.ownsRow base e size v n xs) (hg : w.grownBy w' none) : w'.ownsRow base e size v n xs :=
  h.kept hg (by cases v.ownBlock <;> simp)

theorem le_alloc {B : Nat} {w : World} {o : Obj} (h : B ≤ w.heap.size) : B ≤ (w.alloc o).heap.size := by rw [World.size_alloc]; omega

/-- An owned value is a slice of its length. -/
theorem ownsRow_form {w : World} {base : Nat} {e : TypeId} {size : Nat} {v : Value} {n : Nat} {xs : List Value} (h : w.ownsRow base e size v n xs) : ∃ a c, v = .slice a n c := by
  rcases h.2 with ⟨rfl, rfl⟩ | ⟨g, cap, cur, rfl, _⟩
  · exact ⟨none, 0, rfl⟩
  · exact ⟨_, _, rfl⟩

/-- What is owned stays owned where blocks of another element type alone have turned. -/
theorem ownsRow_typed {w w' : World} {base : Nat} {e : TypeId} {size : Nat} {v : Value} {n : Nat} {xs : List Value} {row : Option Nat} (h : w.ownsRow base e size v n xs) (hg : w.grownBy w' row)
    (hr : ∀ g, row = some g → ∃ c e' fz, w.heap[g]? = some (.cells c e' fz) ∧ e' ≠ e) : w'.ownsRow base e size v n xs := by
  refine h.kept hg ?_
  rcases h.2 with ⟨rfl, _⟩ | ⟨g, cap, cur, rfl, hb, hgg, _⟩
  · exact Or.inl rfl
  · refine Or.inr fun e1 => ?_
    obtain ⟨c, e', fz, h1, h2⟩ := hr g (by rw [← e1]; rfl)
    rw [hgg] at h1
    simp only [Option.some.injEq, Obj.cells.injEq] at h1
    exact h2 h1.2.1.symm

theorem ownsRow_type {w : World} {base : Nat} {e : TypeId} {size : Nat} {v : Value} {n : Nat} {xs : List Value} (h : w.ownsRow base e size v n xs) : ∀ g, v.ownBlock = some g → ∃ c fz, w.heap[g]? = some (.cells c e fz) := by
  intro g hg
  rcases h.2 with ⟨rfl, _⟩ | ⟨g', cap, cur, rfl, hb, hgg, _⟩
  · simp [Value.ownBlock] at hg
  · simp only [Value.ownBlock, Option.some.injEq] at hg
    subst hg
    exact ⟨_, _, hgg⟩

theorem ownsRow_below {w w' : World} {base B : Nat} {e : TypeId} {size : Nat} {v : Value} {n : Nat} {xs : List Value} (h : w.ownsRow base e size v n xs) (hb : Below B w w') (hB : w.heap.size ≤ B) : w'.ownsRow base e size v n xs :=
  h.kept (row := none) ⟨hb.os, hb.tape, hb.output, hb.size, fun k hk _ => hb.block k (by omega)⟩ (by cases hv : v.ownBlock <;> simp)

theorem ownsRow_cap {w : World} {base : Nat} {e : TypeId} {a : Option Addr} {c : Nat} {n : Nat} {xs : List Value} (h : w.ownsRow base e 1 (.slice a n c) n xs) :
    n ≤ c ∧ c ≤ 9223372036854775807 ∧ (a = none → c = 0) ∧ ∃ b, (0 < n → a = some ⟨b, 0, none⟩ ∧ base ≤ b) ∧ ∀ j u, xs[j]? = some u → w.cell? ⟨b, j, none⟩ = some u := by
  have hx := h.1
  rcases h.2 with ⟨h1, rfl⟩ | ⟨g, cap, cur, h1, hb, hgg, h3, h4, h5, h6⟩
  · simp only [Value.slice.injEq] at h1
    obtain ⟨rfl, -, rfl⟩ := h1
    have : xs = [] := List.eq_nil_of_length_eq_zero (by omega)
    subst this
    exact ⟨by omega, by omega, fun _ => rfl, 0, by omega, by simp⟩
  · simp only [Value.slice.injEq] at h1
    obtain ⟨rfl, -, rfl⟩ := h1
    refine ⟨h3, by unfold maxLen at h4; omega, by simp, g, fun _ => ⟨rfl, hb⟩, fun j u hu => ?_⟩
    have := h.cells (g := g) rfl j u hu
    rwa [Addr.add_lit, Nat.zero_add] at this

/-- An owned row of integers reads as them. -/
theorem IsInts.owned {w : World} {base : Nat} {e : TypeId} {v : Value} {n : Nat} {l : List Int} (h : w.ownsRow base e 1 v n (l.map (Value.int .i64))) : IsInts w v l := by
  have hl : n = l.length := by have := h.1; simpa using this.symm
  subst hl
  obtain ⟨a, c, rfl⟩ := ownsRow_form h
  obtain ⟨h1, h2, h3, b, h4, h5⟩ := ownsRow_cap h
  refine ⟨a, c, b, 0, rfl, h1, h2, fun hp => (h4 hp).1, h3, fun j hj => ?_⟩
  rw [Nat.zero_add]
  exact h5 j _ (by simp [List.getD, hj])

/-- 'append' onto what the call owns, of whatever one-cell elements: it may be that nothing is appended. -/
theorem wpList_append_has {P : Program} {w : World} {ops : Array Oper} {rest : List Oper} {o : Oper} {a : Act} {Q : Exit → Act → World → Prop} (hgd : o.guard = none) (s x : Operand) (t : TypeId)
    (ho : o.op = .call { callee := .builtin .append, args := #[s, x], argTypes := #[t, t] })
    (base : Nat) (e : TypeId) (z : Value) (bytes : Nat) (ht : P.underlying t = some (.slice e)) (hinfo : (P.info? e).map (fun i => (i.zero, i.size, i.bytes)) = some (some z, 1, bytes)) (hz1 : z.cells.size = 1)
    (v : Value) (n : Nat) (xs : List Value) (hs : a.eval s = v) (hown : w.ownsRow base e 1 v n xs)
    (src : Value) (m : Nat) (news : List Value) (hx : a.eval x = src) (hsrc : HasCells w src m news)
    (h63 : n + m ≤ 9223372036854775807) (hbytes : (n + m) * bytes ≤ 140737488355328) (hbase : base ≤ w.heap.size)
    (h : ∀ a' c' w', w'.ownsRow base e 1 (.slice a' (n + m) c') (n + m) (xs ++ news) → w.grownBy w' v.ownBlock → wpList P ops Q rest (a.put o.dst (.slice a' (n + m) c')) w') : wpList P ops Q (o :: rest) a w := by
  obtain ⟨i, hi, hz0, hsz, hby⟩ := info_parts hinfo
  obtain ⟨ao, cap, rfl, hl, hnone, hcells, hone⟩ := hsrc
  cases ao with
  | none =>
    obtain ⟨rfl, rfl⟩ := hnone rfl
    have hn : news = [] := List.eq_nil_of_length_eq_zero hl
    subst hn
    obtain ⟨a', c', rfl⟩ := ownsRow_form hown
    exact wpList_append_own_none hgd s x t ho base e i 1 ht hi _ n xs hs hown hx (h a' c' w (by simpa using hown) (World.grownBy.refl _ _))
  | some ad =>
    refine wpList_append_own w hgd s x t ho base e i z 1 bytes ht hi hz0 hsz hby hz1 (by omega) v n xs hs hown ad m cap news hx (by omega) (hcells ad rfl) hone (by unfold maxLen; omega) hbytes hbase fun v' w' h1 h2 _ => ?_
    obtain ⟨a', c', rfl⟩ := ownsRow_form h1
    exact h a' c' w' h1 h2

end Go.Proofs.Ytmhcnekbfngafaa
namespace Go.Proofs.Ytmhcnekbfngafaa
open Go.RowKit

/-- The pairs (i, j), i < j < b, that p tells. -/
def rowTo (p : Nat → Nat → Bool) (i b : Nat) : List (Int × Int) := ((List.range b).filter fun j => decide (i < j) && p i j).map fun j : Nat => ((i : Int), (j : Int))
/-- .. of the first a rows. -/
def prsTo (n : Nat) (p : Nat → Nat → Bool) (a : Nat) : List (Int × Int) := (List.range a).flatMap fun i : Nat => rowTo p i n

theorem rowTo_start (p : Nat → Nat → Bool) (i : Nat) : rowTo p i (i + 1) = [] := by
  unfold rowTo
  rw [List.map_eq_nil_iff, List.filter_eq_nil_iff]
  intro j hj
  have := List.mem_range.1 hj
  simp; omega
theorem rowTo_yes {p : Nat → Nat → Bool} {i b : Nat} (hb : i < b) (h : p i b = true) : rowTo p i (b + 1) = rowTo p i b ++ [((i : Int), (b : Int))] := by
  unfold rowTo; rw [List.range_succ, List.filter_append]; simp [hb, h]
theorem rowTo_no {p : Nat → Nat → Bool} {i b : Nat} (h : p i b = false) : rowTo p i (b + 1) = rowTo p i b := by
  unfold rowTo; rw [List.range_succ, List.filter_append]; simp [h]
theorem prsTo_succ (n : Nat) (p : Nat → Nat → Bool) (a : Nat) : prsTo n p (a + 1) = prsTo n p a ++ rowTo p a n := by
  unfold prsTo; rw [List.range_succ, List.flatMap_append]; simp
theorem rowTo_length (p : Nat → Nat → Bool) (i b : Nat) : (rowTo p i b).length ≤ b := by
  unfold rowTo; rw [List.length_map]; exact Nat.le_trans (List.length_filter_le _ _) (by simp)
theorem prsTo_length (n : Nat) (p : Nat → Nat → Bool) (a : Nat) : (prsTo n p a).length ≤ a * n := by
  induction a with
  | zero => simp [prsTo]
  | succ a ih => rw [prsTo_succ, List.length_append]; have := rowTo_length p a n; rw [Nat.add_mul]; omega
theorem rowTo_congr {p q : Nat → Nat → Bool} {i b n : Nat} (hb : b ≤ n) (h : ∀ j, i < j → j < n → p i j = q i j) : rowTo p i b = rowTo q i b := by
  unfold rowTo
  congr 1
  apply List.filter_congr
  intro j hj
  have := List.mem_range.1 hj
  by_cases e : i < j
  · simp [h j e (by omega)]
  · simp [e]
theorem prsTo_congr {p q : Nat → Nat → Bool} {n : Nat} (h : ∀ i j, i < j → j < n → p i j = q i j) (a : Nat) : prsTo n p a = prsTo n q a := by
  induction a with
  | zero => rfl
  | succ a ih => rw [prsTo_succ, prsTo_succ, ih, rowTo_congr (Nat.le_refl n) (h a)]

end Go.Proofs.Ytmhcnekbfngafaa
namespace Go.Proofs.Ytmhcnekbfngafaa
open Go Go.RowKit

/-- The first one that is found. -/
def firstOf {α : Type} (g : Nat → Option α) : Nat → Option α
  | 0 => none
  | n + 1 => (firstOf g n).or (g n)
theorem firstOf_none {α : Type} {g : Nat → Option α} : ∀ {n}, (∀ u, u < n → g u = none) → firstOf g n = none
  | 0, _ => rfl
  | n + 1, h => by rw [firstOf, firstOf_none fun u hu => h u (by omega), h n (by omega)]; rfl
theorem firstOf_some {α : Type} {g : Nat → Option α} {v : Nat} {r : α} (h : ∀ u, u < v → g u = none) (hv : g v = some r) : ∀ {n}, v < n → firstOf g n = some r
  | 0, hn => absurd hn (Nat.not_lt_zero _)
  | n + 1, hn => by
    rw [firstOf]
    by_cases e : v = n
    · subst e; rw [firstOf_none h, hv]; rfl
    · rw [firstOf_some h hv (show v < n by omega)]; rfl

/-- May v stand for node k = l's length? -/
def okTo (G H : Nat → Nat → Bool) (l : List Nat) (v k : Nat) : Nat → Bool
  | 0 => !l.contains v
  | i + 1 => okTo G H l v k i && (!H k i || G v (l.getD i 0))

/-- The first list of nodes that goes on from l; f: how many are still to come. -/
def tryF (N : Nat) (G H : Nat → Nat → Bool) : Nat → List Nat → Option (List Nat)
  | 0, l => some l
  | f + 1, l => firstOf (fun v => if okTo G H l v l.length l.length then tryF N G H f (l ++ [v]) else none) N

/-- The numbers, as Go has them. -/
def ints (l : List Nat) : List Int := l.map fun (v : Nat) => (v : Int)
theorem ints_length (l : List Nat) : (ints l).length = l.length := by simp [ints]
theorem ints_snoc (l : List Nat) (v : Nat) : ints (l ++ [v]) = ints l ++ [(v : Int)] := by simp [ints]
theorem ints_getD (l : List Nat) (i : Nat) : (ints l).getD i 0 = ((l.getD i 0 : Nat) : Int) := by
  unfold ints
  by_cases h : i < l.length
  · simp [List.getD, h]
  · simp [List.getD, h]
theorem ints_inj {l m : List Nat} (h : ints l = ints m) : l = m := by
  have : Function.Injective fun (v : Nat) => (v : Int) := fun a b e => by have e' : (a : Int) = (b : Int) := e; omega
  exact (List.map_inj_right this).1 h

/-- Every number that is taken is less than N. -/
theorem tryF_lt {N : Nat} {G H : Nat → Nat → Bool} : ∀ {f : Nat} {l r : List Nat}, tryF N G H f l = some r → (∀ x ∈ l, x < N) → (∀ x ∈ r, x < N) ∧ r.length = l.length + f
  | 0, l, r, h, hl => by
    obtain rfl := Option.some.inj h
    exact ⟨hl, rfl⟩
  | f + 1, l, r, h, hl => by
    rw [tryF] at h
    have key : ∀ n, n ≤ N → firstOf (fun v => if okTo G H l v l.length l.length then tryF N G H f (l ++ [v]) else none) n = some r → ∃ v, v < N ∧ tryF N G H f (l ++ [v]) = some r := by
      intro n
      induction n with
      | zero => intro _ e; cases e
      | succ n ih =>
        intro hn e
        rw [firstOf] at e
        cases e1 : firstOf (fun v => if okTo G H l v l.length l.length then tryF N G H f (l ++ [v]) else none) n with
        | some q => rw [e1] at e; exact ih (by omega) (by rw [e1]; exact e)
        | none =>
          rw [e1] at e
          simp only [Option.none_or] at e
          split at e
          · exact ⟨n, by omega, e⟩
          · cases e
    obtain ⟨v, hv, e⟩ := key N (Nat.le_refl _) h
    obtain ⟨h1, h2⟩ := tryF_lt e (fun x hx => by
      rcases List.mem_append.1 hx with h | h
      · exact hl x h
      · obtain rfl : x = v := by simpa using h
        exact hv)
    exact ⟨h1, by simp at h2; omega⟩

theorem ints_at' {w wr : World} {l : List Nat} {a : Option Addr} {c n : Nat} (h : IsInts w (.slice a n c) (ints l)) (hb : Below w.heap.size w wr) {k : Nat} (hk : k < l.length) :
    ∃ b o, a = some ⟨b, o, none⟩ ∧ wr.cell? ⟨b, o + k, none⟩ = some (.int .i64 ((l.getD k 0 : Nat) : Int)) := by
  obtain ⟨a', cap, b, o, e, hcap, hmax, hadr, -, hcell⟩ := h
  simp only [Value.slice.injEq] at e
  obtain ⟨rfl, rfl, rfl⟩ := e
  have hl := ints_length l
  refine ⟨b, o, hadr (by omega), ?_⟩
  rw [← ints_getD]
  exact below_cell hb (hcell k (by omega))

theorem firstOf_congr {α : Type} {g g' : Nat → Option α} : ∀ {n}, (∀ u, u < n → g u = g' u) → firstOf g n = firstOf g' n
  | 0, _ => rfl
  | n + 1, h => by rw [firstOf, firstOf, firstOf_congr fun u hu => h u (by omega), h n (by omega)]
theorem okTo_congr {G G' H H' : Nat → Nat → Bool} {l : List Nat} {v k : Nat} : ∀ {i}, (∀ j, j < i → H k j = H' k j ∧ G v (l.getD j 0) = G' v (l.getD j 0)) → okTo G H l v k i = okTo G' H' l v k i
  | 0, _ => rfl
  | i + 1, h => by rw [okTo, okTo, okTo_congr fun j hj => h j (by omega), (h i (by omega)).1, (h i (by omega)).2]
theorem tryF_congr {N M : Nat} {G G' H H' : Nat → Nat → Bool} (hG : ∀ v x, v < N → x < N → G v x = G' v x) (hH : ∀ k i, k < M → i < M → H k i = H' k i) : ∀ (f : Nat) (l : List Nat), f + l.length = M → (∀ x ∈ l, x < N) → tryF N G H f l = tryF N G' H' f l
  | 0, _, _, _ => rfl
  | f + 1, l, hf, hl => by
    rw [tryF, tryF]
    refine firstOf_congr fun v hv => ?_
    have e : okTo G H l v l.length l.length = okTo G' H' l v l.length l.length := okTo_congr fun j hj => ⟨hH _ _ (by omega) (by omega), hG _ _ hv (hl _ (by
      rw [List.getD_eq_getElem?_getD, List.getElem?_eq_getElem hj]; exact List.getElem_mem hj))⟩
    rw [e, tryF_congr hG hH f (l ++ [v]) (by simp; omega) (fun x hx => by
      rcases List.mem_append.1 hx with h | h
      · exact hl x h
      · obtain rfl : x = v := by simpa using h
        exact hv)]

end Go.Proofs.Ytmhcnekbfngafaa
