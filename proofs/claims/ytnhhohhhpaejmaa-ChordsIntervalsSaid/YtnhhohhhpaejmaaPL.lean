/- Memory for walks.pair: a row of sums and a row of pairs, by sets. What chords.Intervals writes, and when it finds nothing: plain. No program in sight. -/
import Derived.Test.YtnhhohhhpaejmaaPJ
import Derived.Test.YtnhhohhhpaejmaaPH
import Derived.Test.YtnhhohhhpaejmaaRCheck
import Derived.Test.YtnhhohhhpaejmaaPA
import Derived.Test.YtnhhohhhpaejmaaPI
import Derived.Test.YtnhhohhhpaejmaaPK
namespace Go.Proofs.Ytnhhohhhpaejmaa
open Go.RowKit

/-- The cells of a row of pairs. -/
def r2 (la : Nat → Nat × Nat) : Nat → Value := fun q => .int .i64 ((if q % 2 = 0 then (la (q / 2)).1 else (la (q / 2)).2 : Nat) : Int)
theorem run_make_two {P : Program} (t e : TypeId) (ht : P.underlying t = some (.slice e)) (hinfo : (P.info? e).map (fun i => (i.zero, i.size, i.bytes)) = some (some (.agg #[.int .i64 0, .int .i64 0]), 2, 16)) (n : Nat) (hn : n ≤ 1000000) (w : World) :
    (Instr.makeSlice t (.int .i64 (n : Int)) (.int .i64 (n : Int))).run P w = .ok (.slice (some ⟨w.heap.size, 0, none⟩) n n) (w.alloc (.cells (madeCells #[.int .i64 0, .int .i64 0] (n * 2)) e)) := by
  obtain ⟨i, hi, hzz⟩ := Option.map_eq_some_iff.1 hinfo
  simp only [Prod.mk.injEq] at hzz
  obtain ⟨hz, hs, hb⟩ := hzz
  have hr := run_make (P := P) w t e i _ ht hi hz .i64 .i64 n n (by omega) (Int.le_refl _) (by rw [hb]; omega) (by omega)
  simp only [Int.toNat_natCast, hs] at hr
  exact hr
theorem two_row2 (w : World) (n : Nat) (t : TypeId) : (w.alloc (.cells (madeCells #[.int .i64 0, .int .i64 0] (n * 2)) t)).rowIs w.heap.size t (n * 2) (r2 fun _ => (0, 0)) :=
  ⟨madeCells #[.int .i64 0, .int .i64 0] (n * 2), Go.Deep.blk_alloc_new _ _, size_madeCells _ _, fun i hi => by
    have : i % 2 = 0 ∨ i % 2 = 1 := by omega
    rcases this with e | e <;> simp [madeCells, hi, e, r2]⟩
structure PrS (w wr : World) (M : Nat) (b : Nat → Int) (la : Nat → Nat × Nat) : Prop where
  hb : Below w.heap.size w wr
  r1 : wr.rowIs w.heap.size 3 M (ri b)
  rl : wr.rowIs (w.heap.size + 1) 52 (M * 2) (r2 la)
section
variable {w wr w' : World} {M : Nat} {b : Nat → Int} {la : Nat → Nat × Nat}
theorem PrS.start (w : World) (M : Nat) : PrS w ((w.alloc (.cells (madeCells #[.int .i64 0] M) 3)).alloc (.cells (madeCells #[.int .i64 0, .int .i64 0] (M * 2)) 52)) M (fun _ => 0) (fun _ => (0, 0)) := by
  have h1 := (World.rowIs_made w (.int .i64 0) M 3).congr (g := ri fun _ => 0) fun _ _ => rfl
  have h2 := two_row2 (w.alloc (.cells (madeCells #[.int .i64 0] M) 3)) M 52
  rw [World.size_alloc] at h2
  have hb := below1 (w.alloc (.cells (madeCells #[.int .i64 0] M) 3)) (.cells (madeCells #[.int .i64 0, .int .i64 0] (M * 2)) 52)
  exact ⟨below2 _ _ _, h1.of_block (hb.block _ h1.lt), h2⟩
theorem PrS.below (h : PrS w wr M b la) (hb : Below wr.heap.size wr w') : PrS w w' M b la :=
  ⟨h.hb.trans (hb.mono h.hb.size), h.r1.of_block (hb.block _ h.r1.lt), h.rl.of_block (hb.block _ h.rl.lt)⟩
theorem PrS.set (h : PrS w wr M b la) (s : Nat) (x : Int) : PrS w (wr.setCell ⟨w.heap.size, s, none⟩ (.int .i64 x)) M (fun q => if q = s then x else b q) la :=
  ⟨h.hb.setCell (p := ⟨w.heap.size, s, none⟩) (Nat.le_refl _) _, row_set_ri h.r1 s x, h.rl.setOther (a := ⟨w.heap.size, s, none⟩) (by show w.heap.size + 1 ≠ w.heap.size; omega) _⟩
theorem PrS.put (h : PrS w wr M b la) (s i j : Nat) : PrS w ((wr.setCell ⟨w.heap.size + 1, s * 2, none⟩ (.int .i64 (i : Int))).setCell ⟨w.heap.size + 1, s * 2 + 1, none⟩ (.int .i64 (j : Int))) M b (fun q => if q = s then (i, j) else la q) := by
  refine ⟨(h.hb.setCell (p := ⟨w.heap.size + 1, s * 2, none⟩) (Nat.le_succ _) _).setCell (p := ⟨w.heap.size + 1, s * 2 + 1, none⟩) (Nat.le_succ _) _, (h.r1.setOther (a := ⟨w.heap.size + 1, s * 2, none⟩) (by show w.heap.size ≠ w.heap.size + 1; omega) _).setOther (a := ⟨w.heap.size + 1, s * 2 + 1, none⟩) (by show w.heap.size ≠ w.heap.size + 1; omega) _, ?_⟩
  refine ((h.rl.set (s * 2) (.int .i64 (i : Int))).set (s * 2 + 1) (.int .i64 (j : Int))).congr fun q _ => ?_
  unfold r2
  by_cases e1 : q = s * 2 + 1
  · subst e1
    rw [if_pos rfl]
    simp [show (s * 2 + 1) % 2 = 1 by omega, show (s * 2 + 1) / 2 = s by omega]
  · rw [if_neg e1]
    by_cases e2 : q = s * 2
    · subst e2
      rw [if_pos rfl]
      simp
    · rw [if_neg e2]
      simp only [if_neg (show ¬ q / 2 = s by omega)]
theorem PrS.cells (h : PrS w wr M b la) {s : Nat} (hs : s < M) : wr.cell? ⟨w.heap.size, s, none⟩ = some (.int .i64 (b s)) ∧ wr.cell? ⟨w.heap.size + 1, s * 2, none⟩ = some (.int .i64 ((la s).1 : Int)) ∧ wr.cell? ⟨w.heap.size + 1, s * 2 + 1, none⟩ = some (.int .i64 ((la s).2 : Int)) := by
  refine ⟨h.r1.cell hs, ?_, ?_⟩
  · have := h.rl.cell (show s * 2 < M * 2 by omega)
    rw [this]; simp [r2]
  · have := h.rl.cell (show s * 2 + 1 < M * 2 by omega)
    rw [this]; simp [r2, show (s * 2 + 1) % 2 = 1 by omega, show (s * 2 + 1) / 2 = s by omega]
theorem PrS.grown {row : Option Nat} (h : PrS w wr M b la) (hg : wr.grownBy w' row) (hr : ∀ g, row = some g → w.heap.size + 2 ≤ g) : PrS w w' M b la :=
  ⟨h.hb.grown hg h.hb.size (fun g e => by have := hr g e; omega), h.r1.of_block (hg.block _ h.r1.lt (fun e => by have := hr _ e.symm; omega)), h.rl.of_block (hg.block _ h.rl.lt (fun e => by have := hr _ e.symm; omega))⟩
/-- An element of a row of rows. -/
theorem drow_at {a : Option Addr} {nd c i x : Nat} {DD : List (List Int)} (h : IsRows w (.slice a nd c) DD) (hb : Below w.heap.size w wr) (hi : i < DD.length) (hx : x < (DD.getD i []).length) :
    ∃ g o, a = some ⟨g, o, none⟩ ∧ ∃ g' o' c', wr.cell? ⟨g, o + i, none⟩ = some (.slice (some ⟨g', o', none⟩) (DD.getD i []).length c') ∧ wr.cell? ⟨g', o' + x, none⟩ = some (.int .i64 ((DD.getD i []).getD x 0)) := by
  obtain ⟨a', c', g, o, e, -, -, h3, -, h5⟩ := h
  simp only [Value.slice.injEq] at e
  obtain ⟨rfl, -, -⟩ := e
  obtain ⟨r, hr, a2, c2, g2, o2, rfl, -, -, h6, -, h7⟩ := h5 i hi
  refine ⟨g, o, h3 (by omega), g2, o2, c2, ?_, below_cell hb (h7 x hx)⟩
  rw [← h6 (by omega)]
  exact below_cell hb hr
end
end Go.Proofs.Ytnhhohhhpaejmaa
namespace Go.Proofs.Ytnhhohhhpaejmaa
open Go Go.RowKit

section
variable {N : Nat} {G : Nat → Nat → Bool} {L : List (List Nat)}
/-- Three nodes each of which can be gone round, the greatest first. -/
def Tri3 (N : Nat) (G : Nat → Nat → Bool) : Prop := ∃ a b c, a < N ∧ b < a ∧ c < b ∧ LK N G (fun _ => true) c a b ∧ LK N G (fun _ => true) a b c ∧ LK N G (fun _ => true) b a c
theorem noI_tri (hsym : ∀ a b, a < N → b < N → G a b = G b a) (hirr : ∀ a, a < N → G a a = false) (hN : 0 < N) {A : List Nat} (hA : PerfI N G A) (hl : A.length = N) (hasc : L.Pairwise LstLt) (hiff : ∀ K, K ∈ L ↔ MaxCl N G K ∧ K ≠ []) (h : NoI L []) : Tri3 N G := by
  by_cases hat : ATr N G (fun _ => true)
  · exact atr_sorted hsym hat
  · exfalso
    obtain ⟨P, hP⟩ := lb_row hsym hirr hN (perf_chd hsym hirr hA hl) hat
    obtain ⟨p, hp⟩ := fulI_ex hsym hirr hN hasc hiff hP
    exact h p hp
theorem cqs_pos (hsym : ∀ a b, a < N → b < N → G a b = G b a) (hN : 0 < N) (hiff : ∀ K, K ∈ L ↔ MaxCl N G K ∧ K ≠ []) : 0 < L.length := by
  obtain ⟨K, hK, hu, -⟩ := mx_two (G := G) hsym hN hN (.inl rfl)
  have h := (hiff _).2 ⟨mx_list hsym hK, List.ne_nil_of_mem (mem_memsI.2 ⟨hN, hu⟩)⟩
  exact List.length_pos_of_mem h
theorem fsI_none {q : List Nat} {v : Nat} : anyI L q v = false → fsI L q v = 0 := by
  induction q using snocI_ind with
  | h0 => intro _; rfl
  | hs q k ih =>
    intro h
    rw [anyI_snoc, Bool.or_eq_false_iff] at h
    rw [fsI_snoc, h.1, if_neg (by simp), if_neg (of_decide_eq_false h.2)]
/-- Behind a part of a clique: where the first stands, where the last, and is there one. -/
def lo1 (L : List (List Nat)) (q C : List Nat) (m v : Nat) : Nat := if anyI L q v = true then fsI L q v else if v ∈ C.take m then q.length else 0
def hi1 (L : List (List Nat)) (q C : List Nat) (m v : Nat) : Nat := if v ∈ C.take m then q.length else lsI L q v
def sn1 (L : List (List Nat)) (q C : List Nat) (m v : Nat) : Bool := anyI L q v || decide (v ∈ C.take m)
theorem lo1_zero (q C : List Nat) (v : Nat) : lo1 L q C 0 v = fsI L q v := by
  unfold lo1
  by_cases h : anyI L q v = true
  · rw [if_pos h]
  · rw [if_neg h, if_neg (by simp), fsI_none (by simpa using h)]
theorem hi1_zero (q C : List Nat) (v : Nat) : hi1 L q C 0 v = lsI L q v := by
  unfold hi1
  rw [if_neg (by simp)]
theorem sn1_zero (q C : List Nat) (v : Nat) : sn1 L q C 0 v = anyI L q v := by
  unfold sn1
  simp
theorem lo1_all (q : List Nat) (k v : Nat) : lo1 L q (L.getD k []) (L.getD k []).length v = fsI L (q ++ [k]) v := by
  unfold lo1
  rw [fsI_snoc, List.take_length]
theorem hi1_all (q : List Nat) (k v : Nat) : hi1 L q (L.getD k []) (L.getD k []).length v = lsI L (q ++ [k]) v := by
  unfold hi1
  rw [lsI_snoc, List.take_length]
theorem sn1_all (q : List Nat) (k v : Nat) : sn1 L q (L.getD k []) (L.getD k []).length v = anyI L (q ++ [k]) v := by
  unfold sn1
  rw [anyI_snoc, List.take_length]
variable {q C : List Nat} {m : Nat}
theorem hi1_step (hm : m < C.length) (v : Nat) : (if v = C.getD m 0 then q.length else hi1 L q C m v) = hi1 L q C (m + 1) v := by
  unfold hi1
  by_cases e : v = C.getD m 0
  · rw [if_pos e, if_pos ((mem_take_succ hm v).2 (.inl e))]
  · rw [if_neg e]
    by_cases e2 : v ∈ C.take m
    · rw [if_pos e2, if_pos ((mem_take_succ hm v).2 (.inr e2))]
    · rw [if_neg e2, if_neg fun h => ((mem_take_succ hm v).1 h).elim e e2]
theorem sn1_step (hm : m < C.length) (v : Nat) : (if v = C.getD m 0 then true else sn1 L q C m v) = sn1 L q C (m + 1) v := by
  unfold sn1
  by_cases e : v = C.getD m 0
  · rw [if_pos e, decide_eq_true ((mem_take_succ hm v).2 (.inl e)), Bool.or_true]
  · rw [if_neg e]
    by_cases e2 : v ∈ C.take m
    · rw [decide_eq_true e2, decide_eq_true ((mem_take_succ hm v).2 (.inr e2))]
    · rw [decide_eq_false e2, decide_eq_false fun h => ((mem_take_succ hm v).1 h).elim e e2]
theorem sn1_had (hm : m < C.length) (h : sn1 L q C m (C.getD m 0) = true) (v : Nat) : sn1 L q C m v = sn1 L q C (m + 1) v := by
  rw [← sn1_step hm]
  by_cases e : v = C.getD m 0
  · rw [if_pos e, e, h]
  · rw [if_neg e]
theorem lo1_put (hm : m < C.length) (h : sn1 L q C m (C.getD m 0) = false) (v : Nat) : (if v = C.getD m 0 then q.length else lo1 L q C m v) = lo1 L q C (m + 1) v := by
  unfold sn1 at h
  rw [Bool.or_eq_false_iff] at h
  unfold lo1
  by_cases e : v = C.getD m 0
  · rw [if_pos e, e, h.1, if_neg (by simp), if_pos ((mem_take_succ hm _).2 (.inl rfl))]
  · rw [if_neg e]
    by_cases e2 : anyI L q v = true
    · rw [if_pos e2, if_pos e2]
    · rw [if_neg e2, if_neg e2]
      by_cases e3 : v ∈ C.take m
      · rw [if_pos e3, if_pos ((mem_take_succ hm v).2 (.inr e3))]
      · rw [if_neg e3, if_neg fun h => ((mem_take_succ hm v).1 h).elim e e3]
theorem lo1_had (hm : m < C.length) (h : sn1 L q C m (C.getD m 0) = true) (v : Nat) : lo1 L q C m v = lo1 L q C (m + 1) v := by
  unfold sn1 at h
  rw [Bool.or_eq_true, decide_eq_true_iff] at h
  unfold lo1
  by_cases e2 : anyI L q v = true
  · rw [if_pos e2, if_pos e2]
  · rw [if_neg e2, if_neg e2]
    by_cases e3 : v ∈ C.take m
    · rw [if_pos e3, if_pos ((mem_take_succ hm v).2 (.inr e3))]
    · rw [if_neg e3, if_neg fun h2 => ?_]
      rcases (mem_take_succ hm v).1 h2 with e | e
      · subst e
        exact h.elim e2 e3
      · exact e3 e
end
/-- The row of intervals and the row of bools. -/
structure IvS (wr : World) (bo bs N : Nat) (lo hi : Nat → Nat) (sn : Nat → Bool) : Prop where
  rl : wr.rowIs bo 52 (N * 2) (r2 fun v => (lo v, hi v))
  rs : wr.rowIs bs 4 N (rb sn)
  ne : bo ≠ bs
section
variable {wr w' : World} {bo bs N : Nat} {lo hi lo' hi' : Nat → Nat} {sn sn' : Nat → Bool}
theorem IvS.congr (h : IvS wr bo bs N lo hi sn) (e1 : ∀ v, lo v = lo' v) (e2 : ∀ v, hi v = hi' v) (e3 : ∀ v, sn v = sn' v) : IvS wr bo bs N lo' hi' sn' := by
  obtain rfl : lo = lo' := funext e1
  obtain rfl : hi = hi' := funext e2
  obtain rfl : sn = sn' := funext e3
  exact h
theorem IvS.cLo (h : IvS wr bo bs N lo hi sn) {v : Nat} (hv : v < N) : wr.cell? ⟨bo, v * 2, none⟩ = some (.int .i64 (lo v : Nat)) := by
  have := h.rl.cell (show v * 2 < N * 2 by omega)
  rw [this]; simp [r2]
theorem IvS.cHi (h : IvS wr bo bs N lo hi sn) {v : Nat} (hv : v < N) : wr.cell? ⟨bo, v * 2 + 1, none⟩ = some (.int .i64 (hi v : Nat)) := by
  have := h.rl.cell (show v * 2 + 1 < N * 2 by omega)
  rw [this]; simp [r2, show (v * 2 + 1) % 2 = 1 by omega, show (v * 2 + 1) / 2 = v by omega]
theorem IvS.cSn (h : IvS wr bo bs N lo hi sn) {v : Nat} (hv : v < N) : wr.cell? ⟨bs, v, none⟩ = some (.bool (sn v)) := h.rs.cell hv
theorem IvS.put (h : IvS wr bo bs N lo hi sn) (v i : Nat) : IvS ((wr.setCell ⟨bo, v * 2, none⟩ (.int .i64 (i : Int))).setCell ⟨bs, v, none⟩ (.bool true)) bo bs N (fun u => if u = v then i else lo u) hi (fun u => if u = v then true else sn u) := by
  refine ⟨((h.rl.set (v * 2) (.int .i64 (i : Int))).setOther (a := ⟨bs, v, none⟩) h.ne (.bool true)).congr fun p _ => ?_, row_set_rb (h.rs.setOther (a := ⟨bo, v * 2, none⟩) h.ne.symm (.int .i64 (i : Int))) v true, h.ne⟩
  unfold r2
  by_cases e2 : p = v * 2
  · subst e2
    rw [if_pos rfl]
    simp
  · rw [if_neg e2]
    by_cases e3 : p % 2 = 0
    · simp only [if_pos e3, if_neg (show ¬ p / 2 = v by omega)]
    · simp only [if_neg e3]
theorem IvS.put1 (h : IvS wr bo bs N lo hi sn) (v i : Nat) : IvS (wr.setCell ⟨bo, v * 2 + 1, none⟩ (.int .i64 (i : Int))) bo bs N lo (fun u => if u = v then i else hi u) sn := by
  refine ⟨(h.rl.set (v * 2 + 1) (.int .i64 (i : Int))).congr fun p _ => ?_, h.rs.setOther (a := ⟨bo, v * 2 + 1, none⟩) h.ne.symm (.int .i64 (i : Int)), h.ne⟩
  unfold r2
  by_cases e2 : p = v * 2 + 1
  · subst e2
    rw [if_pos rfl]
    simp [show (v * 2 + 1) % 2 = 1 by omega, show (v * 2 + 1) / 2 = v by omega]
  · rw [if_neg e2]
    by_cases e3 : p % 2 = 0
    · simp only [if_pos e3]
    · simp only [if_neg e3, if_neg (show ¬ p / 2 = v by omega)]
theorem IvS.below (h : IvS wr bo bs N lo hi sn) (hb : Below wr.heap.size wr w') : IvS w' bo bs N lo hi sn := ⟨h.rl.of_block (hb.block _ h.rl.lt), h.rs.of_block (hb.block _ h.rs.lt), h.ne⟩
theorem IvS.start (w : World) (N : Nat) : IvS ((w.alloc (.cells (madeCells #[.int .i64 0, .int .i64 0] (N * 2)) 52)).alloc (.cells (madeCells #[.bool false] N) 4)) w.heap.size (w.heap.size + 1) N (fun _ => 0) (fun _ => 0) (fun _ => false) := by
  have h1 := two_row2 w N 52
  have h2 := World.rowIs_made (w.alloc (.cells (madeCells #[.int .i64 0, .int .i64 0] (N * 2)) 52)) (.bool false) N 4
  rw [World.size_alloc] at h2
  exact ⟨h1.alloc _, h2.congr fun _ _ => rfl, by omega⟩
end
section
variable {wr : World} {bo bs N i m : Nat} {L : List (List Nat)} {q C : List Nat}
theorem IvS.had (h : IvS wr bo bs N (lo1 L q C m) (hi1 L q C m) (sn1 L q C m)) (hm : m < C.length) (hq : q.length = i) (hs : sn1 L q C m (C.getD m 0) = true) :
    IvS (wr.setCell ⟨bo, C.getD m 0 * 2 + 1, none⟩ (.int .i64 (i : Int))) bo bs N (lo1 L q C (m + 1)) (hi1 L q C (m + 1)) (sn1 L q C (m + 1)) :=
  (h.put1 _ i).congr (fun v => lo1_had hm hs v) (fun v => by rw [← hq]; exact hi1_step hm v) (fun v => sn1_had hm hs v)
theorem IvS.new (h : IvS wr bo bs N (lo1 L q C m) (hi1 L q C m) (sn1 L q C m)) (hm : m < C.length) (hq : q.length = i) (hs : sn1 L q C m (C.getD m 0) = false) :
    IvS (((wr.setCell ⟨bo, C.getD m 0 * 2, none⟩ (.int .i64 (i : Int))).setCell ⟨bs, C.getD m 0, none⟩ (.bool true)).setCell ⟨bo, C.getD m 0 * 2 + 1, none⟩ (.int .i64 (i : Int))) bo bs N (lo1 L q C (m + 1)) (hi1 L q C (m + 1)) (sn1 L q C (m + 1)) :=
  ((h.put _ i).put1 _ i).congr (fun v => by rw [← hq]; exact lo1_put hm hs v) (fun v => by rw [← hq]; exact hi1_step hm v) (fun v => sn1_step hm v)
theorem IvS.next {p : List Nat} (hi : i < p.length) (h : IvS wr bo bs N (lo1 L (p.take i) (L.getD (p.getD i 0) []) (L.getD (p.getD i 0) []).length) (hi1 L (p.take i) (L.getD (p.getD i 0) []) (L.getD (p.getD i 0) []).length) (sn1 L (p.take i) (L.getD (p.getD i 0) []) (L.getD (p.getD i 0) []).length)) :
    IvS wr bo bs N (fsI L (p.take (i + 1))) (lsI L (p.take (i + 1))) (anyI L (p.take (i + 1))) := by
  have e : p.take (i + 1) = p.take i ++ [p.getD i 0] := by
    rw [List.take_add_one, List.getElem?_eq_getElem hi, List.getD, List.getElem?_eq_getElem hi]; rfl
  rw [e]
  exact h.congr (fun v => lo1_all _ _ v) (fun v => hi1_all _ _ v) (fun v => sn1_all _ _ v)
end
end Go.Proofs.Ytnhhohhhpaejmaa
