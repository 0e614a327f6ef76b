/- Memory for parts.Strong: rows of nodes of one's own, and slices of slices wherever they lie. -/
import Derived.Test.YtmhcnekbfngafaaRchA
import Derived.Test.YtmhcnekbfngafaaPA
import Derived.ArgAppend
namespace Go.Proofs.Ytmhcnekbfngafaa
open Go.RowKit Go.Maps

/-- Rows of nodes: all of one's own. -/
def PRow (w : World) (B : Nat) (v : Value) (m : List (List Nat)) : Prop :=
  ∃ vals, w.ownsRow B 39 1 v m.length vals ∧ ∀ j, j < m.length → ∃ r, vals[j]? = some r ∧ w.ownsRow B 3 1 r (m.getD j []).length (nvals (m.getD j []))
theorem PRow.nil (w : World) (B : Nat) : PRow w B (.slice none 0 0) [] := ⟨[], World.ownsRow_nil _ _ _ _, fun j hj => absurd hj (Nat.not_lt_zero _)⟩
theorem own_side {w : World} {B : Nat} {e : TypeId} {size : Nat} {v : Value} {n : Nat} {xs : List Value} (h : w.ownsRow B e size v n xs) {q : Nat} (hq : q < B) : v.ownBlock = none ∨ v.ownBlock ≠ some q := by
  cases hv : v.ownBlock with
  | none => exact Or.inl rfl
  | some g => exact Or.inr fun e => by cases e; have := (h.lt _ hv).1; omega
theorem PRow.kept {w w' : World} {B q : Nat} {v : Value} {m : List (List Nat)} (h : PRow w B v m) (hg : w.grownBy w' (some q)) (hq : q < B) : PRow w' B v m := by
  obtain ⟨vals, h1, h2⟩ := h
  refine ⟨vals, h1.kept hg (own_side h1 hq), fun j hj => ?_⟩
  obtain ⟨r, e, ho⟩ := h2 j hj
  exact ⟨r, e, ho.kept hg (own_side ho hq)⟩
theorem PRow.below {w w' : World} {B : Nat} {v : Value} {m : List (List Nat)} (h : PRow w B v m) (hb : Below w.heap.size w w') : PRow w' B v m := by
  obtain ⟨vals, h1, h2⟩ := h
  refine ⟨vals, ownsRow_below h1 hb (Nat.le_refl _), fun j hj => ?_⟩
  obtain ⟨r, e, ho⟩ := h2 j hj
  exact ⟨r, e, ownsRow_below ho hb (Nat.le_refl _)⟩
/-- One row more. -/
theorem PRow.more {w1 w2 : World} {B : Nat} {v r v' : Value} {m : List (List Nat)} {x : List Nat} {vals : List Value} {o : Obj}
    (hown : w1.ownsRow B 39 1 v m.length vals) (hv : ∀ j, j < m.length → ∃ r, vals[j]? = some r ∧ w1.ownsRow B 3 1 r (m.getD j []).length (nvals (m.getD j [])))
    (hr : w1.ownsRow B 3 1 r x.length (nvals x)) (h2 : w2.ownsRow B 39 1 v' (m.length + 1) (vals ++ [r])) (g2 : (w1.alloc o).grownBy w2 v.ownBlock) : PRow w2 B v' (m ++ [x]) := by
  have hlen : vals.length = m.length := by have := hown.1; omega
  have ty : ∀ g, v.ownBlock = some g → ∃ c e' fz, (w1.alloc o).heap[g]? = some (.cells c e' fz) ∧ e' ≠ 3 := fun g hg => by
    obtain ⟨c, fz, hc⟩ := ownsRow_type (hown.alloc o) g hg
    exact ⟨c, _, fz, hc, by decide⟩
  refine ⟨_, by rw [List.length_append]; exact h2, fun j hj => ?_⟩
  rw [List.length_append, List.length_singleton] at hj
  by_cases e : j = m.length
  · subst e
    refine ⟨r, by rw [List.getElem?_append_right (by omega)]; simp [hlen], ?_⟩
    have e2 : (m ++ [x]).getD m.length [] = x := by simp [List.getD]
    rw [e2]
    exact ownsRow_typed (hr.alloc o) g2 ty
  · obtain ⟨q, hq, ho⟩ := hv j (by omega)
    have e2 : (m ++ [x]).getD j [] = m.getD j [] := by simp [List.getD, List.getElem?_append_left (show j < m.length by omega)]
    refine ⟨q, by rw [List.getElem?_append_left (by omega)]; exact hq, ?_⟩
    rw [e2]
    exact ownsRow_typed (ho.alloc o) g2 ty

/-- Slice v has the n values vs, wherever they lie. -/
def VSl (w : World) (v : Value) (n : Nat) (vs : List Value) : Prop :=
  ∃ a cap, v = .slice a n cap ∧ n ≤ cap ∧ cap ≤ 9223372036854775807 ∧ vs.length = n ∧ (0 < n → ∃ b off, a = some ⟨b, off, none⟩ ∧ ∀ j, j < n → w.cell? ⟨b, off + j, none⟩ = some (vs.getD j (.bool false)))
theorem VSl.below {w w' : World} {v : Value} {n : Nat} {vs : List Value} (h : VSl w v n vs) (hb : Below w.heap.size w w') : VSl w' v n vs := by
  obtain ⟨a, cap, e, h1, h2, h3, h4⟩ := h
  refine ⟨a, cap, e, h1, h2, h3, fun hn => ?_⟩
  obtain ⟨b, off, ea, hc⟩ := h4 hn
  exact ⟨b, off, ea, fun j hj => below_cell hb (hc j hj)⟩
theorem VSl.own {w : World} {B : Nat} {e : TypeId} {v : Value} {n : Nat} {vs : List Value} (h : w.ownsRow B e 1 v n vs) : VSl w v n vs := by
  rcases h.2 with ⟨rfl, h0⟩ | ⟨g, cap, cur, rfl, hb, hgg, h3, h4, h5, h6⟩
  · have := h.1
    exact ⟨none, 0, by rw [h0], by omega, by omega, by omega, fun h => by omega⟩
  · have hl : vs.length = n := by have := h.1; omega
    refine ⟨_, cap, rfl, h3, by unfold maxLen at h4; omega, hl, fun _ => ⟨g, 0, rfl, fun j hj => ?_⟩⟩
    have hx : vs[j]? = some (vs.getD j (.bool false)) := by rw [List.getD, List.getElem?_eq_getElem (by omega)]; rfl
    have := h.cells (g := g) rfl _ _ hx
    rwa [Addr.add_lit] at this

/-- [:i:i]. -/
theorem run_slice_3 {P : Program} {t e : TypeId} {i : TypeInfo} (ht : P.underlying t = some (.slice e)) (hi : P.info? e = some i) (a : Option Addr) (n cap k : Nat) (hk : k ≤ n) (hn : n ≤ cap) (w : World) :
    (Instr.slice t (.slice a n cap) none (some (.int .i64 (k : Int))) (some (.int .i64 (k : Int)))).run P w = .ok (.slice a k k) w := by
  have hb1 : ∀ c, (Instr.sliceBound (.int .i64 (k : Int)) cap c).run P w = .ok k w := fun c => run_sliceBound w .i64 k cap c (by omega) (by omega)
  have hb2 : ∀ c, (Instr.sliceBound (.int .i64 (k : Int)) k c).run P w = .ok k w := fun c => run_sliceBound w .i64 k k c (by omega) (by omega)
  simp [Instr.slice, run_underlying ht, Instr.sliceBounds, hb1, hb2, sizeOf, typeInfo, hi]
  intro _
  cases a <;> simp [Addr.add]
/-- [i+1:]. -/
theorem run_slice_low {P : Program} {t e : TypeId} {i : TypeInfo} (ht : P.underlying t = some (.slice e)) (hi : P.info? e = some i) (hs : i.size = 1) (b off n cap k : Nat) (hk : k ≤ n) (hn : n ≤ cap) (w : World) :
    ∃ a', (Instr.slice t (.slice (some ⟨b, off, none⟩) n cap) (some (.int .i64 (k : Int))) none none).run P w = .ok (.slice (some a') (n - k) (cap - k)) w ∧ (k < cap → a' = ⟨b, off + k, none⟩) := by
  have hb : (Instr.sliceBound (.int .i64 (k : Int)) n .sliceB).run P w = .ok k w := run_sliceBound w .i64 k n .sliceB (by omega) (by omega)
  by_cases hc : k < cap
  · refine ⟨⟨b, off + k, none⟩, ?_, fun _ => rfl⟩
    simp [Instr.slice, run_underlying ht, Instr.sliceBounds, hb, sizeOf, typeInfo, hi, hs]
    rw [if_neg (by omega)]
    simp [Addr.add]
  · refine ⟨⟨b, off, none⟩, ?_, fun h => absurd h hc⟩
    simp [Instr.slice, run_underlying ht, Instr.sliceBounds, hb, sizeOf, typeInfo, hi, hs]
    intro h
    omega

/-- 'append(s[:i:i], s[k:]...)': what comes of it, wherever it lies. -/
theorem wpList_append_cut {P : Program} {w : World} {ops : Array Oper} {rest : List Oper} {o : Oper} {a : Act} {Q : Exit → Act → World → Prop} (hg : o.guard = none) (s x : Operand) (t : TypeId)
    (ho : o.op = .call { callee := .builtin .append, args := #[s, x], argTypes := #[t, t] }) (e : TypeId) (z : Value) (bytes : Nat) (ht : P.underlying t = some (.slice e)) (hinfo : (P.info? e).map (fun i => (i.zero, i.size, i.bytes)) = some (some z, 1, bytes)) (hz1 : z.cells.size = 1) (hby : bytes ≤ 1000)
    (b off i : Nat) (olds : List Value) (hs : a.eval s = .slice (some ⟨b, off, none⟩) i i) (hol : olds.length = i) (hoc : ∀ j u, olds[j]? = some u → w.cell? ⟨b, off + j, none⟩ = some u)
    (ad : Addr) (m c : Nat) (news : List Value) (hx : a.eval x = .slice (some ad) m c) (hnl : news.length = m) (hnc : ∀ j u, news[j]? = some u → w.cell? (ad.add j) = some u) (h1c : ∀ u ∈ news, u.oneCell' = true) (hsm : i + m ≤ 1000)
    (hK : ∀ a' c' w', i + m ≤ c' → c' ≤ 9223372036854775807 → (0 < i + m → ∃ b' off', a' = some ⟨b', off', none⟩ ∧ (b' = b ∨ w.heap.size ≤ b') ∧ ∀ j u, (olds ++ news)[j]? = some u → w'.cell? ⟨b', off' + j, none⟩ = some u) → w.grownBy w' none → wpList P ops Q rest (a.put o.dst (.slice a' (i + m) c')) w') :
    wpList P ops Q (o :: rest) a w := by
  obtain ⟨it, hi, hz0, hsz, hbt⟩ := info_parts hinfo
  have hmul : (i + m) * bytes ≤ 1000 * 1000 := Nat.mul_le_mul hsm hby
  refine wpList_append_arg w hg s x t ho e it z 1 bytes ht hi hz0 hsz hbt hz1 (by omega) b off i i olds hs (by omega) hoc ad m c news hx (by omega) hnc h1c (fun h j hj => by omega) (by unfold maxLen; omega) (by omega) (fun h => ?_) (fun h v' w' hown hgr => ?_)
  · have hm : m = 0 := by omega
    obtain rfl : news = [] := List.eq_nil_of_length_eq_zero (by omega)
    have := hK (some ⟨b, off, none⟩) i w (by omega) (by omega) (fun hp => ⟨b, off, rfl, Or.inl rfl, fun j u hu => by rw [List.append_nil] at hu; exact hoc j u hu⟩) (World.grownBy.refl _ _)
    exact this
  · rcases hown.2 with ⟨-, h0⟩ | ⟨g, cap', cur, rfl, hge, hgg, h3, h4, h5, h6⟩
    · omega
    · refine hK _ _ _ h3 (by unfold maxLen at h4; omega) (fun hp => ⟨g, 0, rfl, Or.inr hge, fun j u hu => ?_⟩) hgr
      have := hown.cells (g := g) rfl _ _ hu
      rwa [Addr.add_lit] at this

/-- A table whose first k rows stand. -/
structure ToS (w wr : World) (bT N k : Nat) (R : Nat → Nat) (G : Nat → Nat → Bool) : Prop where
  hb : Below w.heap.size w wr
  lo : w.heap.size ≤ bT
  head : wr.rowIs bT 60 N (fun i => if i < k then .slice (some ⟨R i, 0, none⟩) N N else .slice none 0 0)
  new : ∀ i, i < k → bT < R i
  row : ∀ i, i < k → wr.rowIs (R i) 4 N (rb (G i))
theorem ToS.below {w wr w' : World} {bT N k : Nat} {R : Nat → Nat} {G : Nat → Nat → Bool} (h : ToS w wr bT N k R G) (hb : Below wr.heap.size wr w') : ToS w w' bT N k R G :=
  ⟨h.hb.trans (hb.mono h.hb.size), h.lo, h.head.of_block (hb.block _ h.head.lt), h.new, fun i hi => (h.row i hi).of_block (hb.block _ (h.row i hi).lt)⟩
theorem ToS.put {w wr : World} {bT N k b : Nat} {R : Nat → Nat} {G : Nat → Nat → Bool} (h : ToS w wr bT N k R G) (hk : k < N) (hbT : bT < b) (hr : wr.rowIs b 4 N (rb (G k))) :
    ToS w (wr.setCell ⟨bT, k, none⟩ (.slice (some ⟨b, 0, none⟩) N N)) bT N (k + 1) (fun i => if i = k then b else R i) G := by
  refine ⟨h.hb.setCell h.lo _, h.lo, (h.head.set k _).congr fun i _ => ?_, fun i hi => ?_, fun i hi => ?_⟩
  · by_cases e : i = k
    · subst e; simp
    · by_cases e2 : i < k
      · simp [e, e2, show i < k + 1 by omega]
      · simp [e, e2, show ¬ i < k + 1 by omega]
  · by_cases e : i = k
    · simp only [if_pos e]; exact hbT
    · simp only [if_neg e]; exact h.new i (by omega)
  · by_cases e : i = k
    · subst e; simp only [if_true]; exact hr.setOther (a := ⟨bT, i, none⟩) (by show b ≠ bT; omega) _
    · simp only [if_neg e]; exact (h.row i (by omega)).setOther (a := ⟨bT, k, none⟩) (by show R i ≠ bT; have := h.new i (by omega); omega) _
/-- The whole table: its cells stay where other blocks are written. -/
theorem ToS.at {w wr wz : World} {bT N : Nat} {R : Nat → Nat} {G : Nat → Nat → Bool} (h : ToS w wr bT N N R G) {i j : Nat} (hi : i < N) (hj : j < N) (hk : ∀ q, q < wr.heap.size → (q = bT ∨ ∃ i, i < N ∧ q = R i) → wz.heap[q]? = wr.heap[q]?) :
    wz.cell? ⟨bT, i, none⟩ = some (.slice (some ⟨R i, 0, none⟩) N N) ∧ wz.cell? ⟨R i, j, none⟩ = some (.bool (G i j)) := by
  have h1 := h.head.cell hi
  rw [if_pos hi] at h1
  have h2 := (h.row i hi).cell hj
  exact ⟨(World.cell?_of_block (a := ⟨bT, i, none⟩) (hk bT h.head.lt (Or.inl rfl))).trans h1, (World.cell?_of_block (a := ⟨R i, j, none⟩) (hk (R i) (h.row i hi).lt (Or.inr ⟨i, hi, rfl⟩))).trans h2⟩

open Classical in
/-- Which node leads to which. -/
noncomputable def gA (l : List (Int × Int)) (a v : Nat) : Bool := decide (WX (fun v => outA l v l.length) a v)
theorem gA_iff {l : List (Int × Int)} {a v : Nat} : gA l a v = true ↔ WX (fun v => outA l v l.length) a v := by unfold gA; simp
theorem WX.trans {X : Nat → List Nat} {a b c : Nat} (h : WX X a b) (k : WX X b c) : WX X a c := by
  induction k with
  | here => exact h
  | step _ hu ih => exact .step ih hu
theorem gA_pre (l : List (Int × Int)) (N : Nat) : Pre N (gA l) := ⟨fun v _ => gA_iff.2 .here, fun u v w _ _ _ h1 h2 => gA_iff.2 ((gA_iff.1 h1).trans (gA_iff.1 h2))⟩

end Go.Proofs.Ytmhcnekbfngafaa
