/- Rows of integers of one's own, in a row. 'append' of edges, and where the row lies behind it. walks.Postman: what it answers; its memory. No walk. -/
import Derived.Test.YtnmljgjegodkaaaPRow
import Derived.Test.YtnmljgjegodkaaaGOwn
import Derived.Test.YtnmljgjegodkaaaGridMem
import Derived.Test.YtnmljgjegodkaaaRCheck
import Derived.Test.YtnmljgjegodkaaaPB
import Derived.Deep.RegionLaw
import Derived.Test.YtnmljgjegodkaaaPC
import Derived.Test.YtnmljgjegodkaaaPA
import Derived.Test.YtnmljgjegodkaaaEulW
import Derived.Test.YtnmljgjegodkaaaWayW
import Derived.Test.YtnmljgjegodkaaaPairW
namespace Go.Proofs.Ytnmljgjegodkaaa
open Go.RowKit Go.Maps

abbrev ivals (l : List Int) : List Value := l.map (Value.int .i64)
/-- Rows of integers: all of one's own. -/
def IRow (w : World) (B : Nat) (v : Value) (m : List (List Int)) : Prop :=
  ∃ vals, w.ownsRow B 29 1 v m.length vals ∧ ∀ j, j < m.length → ∃ r, vals[j]? = some r ∧ w.ownsRow B 3 1 r (m.getD j []).length (ivals (m.getD j []))
theorem IRow.nil (w : World) (B : Nat) : IRow w B (.slice none 0 0) [] := ⟨[], World.ownsRow_nil _ _ _ _, fun j hj => absurd hj (Nat.not_lt_zero _)⟩
theorem IRow.below {w w' : World} {B : Nat} {v : Value} {m : List (List Int)} (h : IRow w B v m) (hb : Below w.heap.size w w') : IRow w' B v m := by
  obtain ⟨vals, h1, h2⟩ := h
  refine ⟨vals, ownsRow_below h1 hb (Nat.le_refl _), fun j hj => ?_⟩
  obtain ⟨r, e, ho⟩ := h2 j hj
  exact ⟨r, e, ownsRow_below ho hb (Nat.le_refl _)⟩
/-- One row more. -/
theorem IRow.more {w1 w2 : World} {B : Nat} {v r v' : Value} {m : List (List Int)} {x : List Int} {vals : List Value} {o : Obj}
    (hown : w1.ownsRow B 29 1 v m.length vals) (hv : ∀ j, j < m.length → ∃ r, vals[j]? = some r ∧ w1.ownsRow B 3 1 r (m.getD j []).length (ivals (m.getD j [])))
    (hr : w1.ownsRow B 3 1 r x.length (ivals x)) (h2 : w2.ownsRow B 29 1 v' (m.length + 1) (vals ++ [r])) (g2 : (w1.alloc o).grownBy w2 v.ownBlock) : IRow w2 B v' (m ++ [x]) := by
  have hlen : vals.length = m.length := by have := hown.1; omega
  have ty : ∀ g, v.ownBlock = some g → ∃ c e' fz, (w1.alloc o).heap[g]? = some (.cells c e' fz) ∧ e' ≠ 3 := fun g hg => by
    obtain ⟨c, fz, hc⟩ := ownsRow_type (hown.alloc o) g hg
    exact ⟨c, _, fz, hc, by decide⟩
  refine ⟨_, by rw [List.length_append]; exact h2, fun j hj => ?_⟩
  rw [List.length_append, List.length_singleton] at hj
  by_cases e : j = m.length
  · subst e
    refine ⟨r, by rw [List.getElem?_append_right (by omega)]; simp [hlen], ?_⟩
    have e2 : (m ++ [x]).getD m.length [] = x := by simp [List.getD]
    rw [e2]
    exact ownsRow_typed (hr.alloc o) g2 ty
  · obtain ⟨q, hq, ho⟩ := hv j (by omega)
    have e2 : (m ++ [x]).getD j [] = m.getD j [] := by simp [List.getD, List.getElem?_append_left (show j < m.length by omega)]
    refine ⟨q, by rw [List.getElem?_append_left (by omega)]; exact hq, ?_⟩
    rw [e2]
    exact ownsRow_typed (ho.alloc o) g2 ty
/-- Rows of integers, to be read. -/
theorem IRow.rows {w : World} {B : Nat} {v : Value} {m : List (List Int)} (h : IRow w B v m) : IsRows w v m := by
  obtain ⟨vals, h0, hv⟩ := h
  obtain ⟨a, c, rfl⟩ := ownsRow_form h0
  obtain ⟨h1, h2, h3, b, h4, h5⟩ := ownsRow_cap h0
  refine ⟨a, c, b, 0, rfl, h1, h2, fun hp => (h4 hp).1, h3, fun j hj => ?_⟩
  obtain ⟨r, hr, hi⟩ := hv j hj
  exact ⟨r, by rw [Nat.zero_add]; exact h5 j r hr, IsInts.owned hi⟩
theorem IRow.form {w : World} {B : Nat} {v : Value} {m : List (List Int)} (h : IRow w B v m) : ∃ a c, v = .slice a m.length c := by
  obtain ⟨vals, h0, -⟩ := h
  exact ownsRow_form h0
/-- A row that is there is one's own. -/
theorem own_of_row {w : World} {b B n : Nat} {F : Nat → Int} (h : w.rowIs b 3 n (ri F)) (hB : B ≤ b) (hn : n ≤ 1000000) : w.ownsRow B 3 1 (.slice (some ⟨b, 0, none⟩) n n) n (ivals ((List.range n).map F)) := by
  obtain ⟨c, h1, h2, h3⟩ := h
  refine ⟨by simp, .inr ⟨b, n, c, rfl, hB, h1, Nat.le_refl _, by unfold maxLen; omega, by omega, ?_⟩⟩
  refine List.ext_getElem? fun i => ?_
  rw [Nat.mul_one, List.getElem?_take]
  by_cases hi : i < n
  · rw [if_pos hi, Array.getElem?_toList, h3 i hi]
    simp [ri, hi]
  · rw [if_neg hi, eq_comm, List.getElem?_eq_none]
    simp; omega
/-- One row more, by its cells. -/
theorem IRow.moreF {w1 w2 : World} {B b n : Nat} {v v' : Value} {m : List (List Int)} {F : Nat → Int} {vals : List Value} {o : Obj}
    (hown : w1.ownsRow B 29 1 v m.length vals) (hv : ∀ j, j < m.length → ∃ r, vals[j]? = some r ∧ w1.ownsRow B 3 1 r (m.getD j []).length (ivals (m.getD j [])))
    (hr : w1.rowIs b 3 n (ri F)) (hB : B ≤ b) (hn : n ≤ 1000000) (h2 : w2.ownsRow B 29 1 v' (m.length + 1) (vals ++ [.slice (some ⟨b, 0, none⟩) n n])) (g2 : (w1.alloc o).grownBy w2 v.ownBlock) : IRow w2 B v' (m ++ [(List.range n).map F]) := by
  have h := own_of_row hr hB hn
  refine IRow.more hown hv (r := .slice (some ⟨b, 0, none⟩) n n) (x := (List.range n).map F) ?_ h2 g2
  rw [List.length_map, List.length_range]; exact h
end Go.Proofs.Ytnmljgjegodkaaa
namespace Go.Proofs.Ytnmljgjegodkaaa
open Go.RowKit

/-- 'append' of edges onto edges that the call owns: and where they lie. -/
theorem run_append_edges_at {P : Program} {w : World} (t ty : TypeId)
    (base : Nat) (ht : P.underlying t = some (.slice 78)) (hinfo : (P.info? 78).map (fun i => (i.zero, i.size, i.bytes)) = some (some (.agg #[.int .i64 0, .int .i64 0]), 2, 16))
    (v : Value) (l : List (Int × Int)) (hown : OwnE w base v l) (src : Value) (m : List (Int × Int)) (hsrc : IsEdges w src m) (hm : 0 < m.length)
    (r : List (Int × Int)) (hr : l ++ m = r) (hbytes : (l.length + m.length) * 16 ≤ 140737488355328) (hbase : base ≤ w.heap.size) :
    ∃ a' c' w', (Builtin.append_ #[t, t] ty #[v, src]).run P w = .ok (.slice a' r.length c') w' ∧ OwnE w' base (.slice a' r.length c') r ∧ w.grownBy w' v.ownBlock ∧ ((Value.slice a' r.length c').ownBlock = v.ownBlock ∨ (Value.slice a' r.length c').ownBlock = some w.heap.size) := by
  obtain ⟨i, hi, hz0, hsz, hby⟩ := info_parts hinfo
  subst hr
  obtain ⟨ao, cap, b, oo, rfl, hcap, hmax, hadr, hnone, hcells⟩ := hsrc
  obtain rfl := hadr hm
  obtain ⟨v', w', h1, h2, h3, _, h5⟩ := run_append_own_at (P := P) (w := w) base t ty _ i (.agg #[.int .i64 0, .int .i64 0]) 2 16 ht hi hz0 hsz hby rfl (by omega) v l.length (cells2 l) hown ⟨b, oo, none⟩ m.length cap (cells2 m) (cells2_length m) (fun j u hu => by
    obtain ⟨i, hi, ⟨rfl, rfl⟩ | ⟨rfl, rfl⟩⟩ := cells2_some hu
    · rw [Addr.add_lit]; exact (hcells i hi).1
    · rw [Addr.add_lit, ← Nat.add_assoc]; exact (hcells i hi).2) (cells2_one m) (by unfold maxLen; omega) hbytes hbase
  have h2' : OwnE w' base v' (l ++ m) := by unfold OwnE; rw [List.length_append, cells2_append]; exact h2
  obtain ⟨a', c', rfl⟩ := h2'.form
  exact ⟨a', c', w', h1, h2', h3, h5⟩
theorem wpList_append_edges_at {P : Program} {w : World} {ops : Array Oper} {rest : List Oper} {o : Oper} {a : Act} {Q : Exit → Act → World → Prop} (hgd : o.guard = none) (s x : Operand) (t : TypeId)
    (ho : o.op = .call { callee := .builtin .append, args := #[s, x], argTypes := #[t, t] })
    (base : Nat) (ht : P.underlying t = some (.slice 78)) (hinfo : (P.info? 78).map (fun i => (i.zero, i.size, i.bytes)) = some (some (.agg #[.int .i64 0, .int .i64 0]), 2, 16))
    (v : Value) (l : List (Int × Int)) (hs : a.eval s = v) (hown : OwnE w base v l)
    (src : Value) (m : List (Int × Int)) (hx : a.eval x = src) (hsrc : IsEdges w src m) (hm : 0 < m.length)
    (r : List (Int × Int)) (hr : l ++ m = r) (hbytes : (l.length + m.length) * 16 ≤ 140737488355328) (hbase : base ≤ w.heap.size)
    (h : ∀ a' c' w', OwnE w' base (.slice a' r.length c') r → w.grownBy w' v.ownBlock → ((Value.slice a' r.length c').ownBlock = v.ownBlock ∨ (Value.slice a' r.length c').ownBlock = some w.heap.size) → wpList P ops Q rest (a.put o.dst (.slice a' r.length c')) w') : wpList P ops Q (o :: rest) a w := by
  refine wpList_plain hgd fun K hK' => ?_
  obtain ⟨a', c', w', hr, h2, h3, h4⟩ := run_append_edges_at (P := P) (w := w) t o.type base ht hinfo v l hown src m hsrc hm r hr hbytes hbase
  unfold Oper.wp
  simp [execOp, ho, resolve, invoke, builtin, hs, hx, hr, Result.andThen]
  exact hK' _ _ (h a' c' w' h2 h3 h4)
theorem step_append_edges_at {P : Program} {ops : Array Oper} {o : Oper} {a : Act} {w : World} {K : Act → World → Prop} {Q : Exit → Act → World → Prop} {E : Prop} (hg : o.guard = none) (s x : Operand) (t : TypeId)
    (ho : o.op = .call { callee := .builtin .append, args := #[s, x], argTypes := #[t, t] })
    (base : Nat) (ht : P.underlying t = some (.slice 78)) (hinfo : (P.info? 78).map (fun i => (i.zero, i.size, i.bytes)) = some (some (.agg #[.int .i64 0, .int .i64 0]), 2, 16))
    (v : Value) (l : List (Int × Int)) (hs : a.eval s = v) (hown : OwnE w base v l)
    (src : Value) (m : List (Int × Int)) (hx : a.eval x = src) (hsrc : IsEdges w src m) (hm : 0 < m.length)
    (r : List (Int × Int)) (hr : l ++ m = r) (hbytes : (l.length + m.length) * 16 ≤ 140737488355328) (hbase : base ≤ w.heap.size)
    (hK : ∀ a' c' w', OwnE w' base (.slice a' r.length c') r → w.grownBy w' v.ownBlock → ((Value.slice a' r.length c').ownBlock = v.ownBlock ∨ (Value.slice a' r.length c').ownBlock = some w.heap.size) → K (a.put o.dst (.slice a' r.length c')) w') :
    if Region.wanted o (yielded ops a.tmps) = true then Oper.wp P o a w K Q else E := by
  have hw : Region.wanted o (yielded ops a.tmps) = true := by simp [Region.wanted, hg]
  rw [if_pos hw]
  obtain ⟨a', c', w', hr, h2, h3, h4⟩ := run_append_edges_at (P := P) (w := w) t o.type base ht hinfo v l hown src m hsrc hm r hr hbytes hbase
  unfold Oper.wp
  simp [execOp, ho, resolve, invoke, builtin, hs, hx, hr, Result.andThen]
  exact hK a' c' w' h2 h3 h4

end Go.Proofs.Ytnmljgjegodkaaa
namespace Go.Proofs.Ytnmljgjegodkaaa
open Go.RowKit

/-- How far, from u on. -/
noncomputable def farE (N : Nat) (G : Nat → Nat → Bool) (u : Nat) : Nat → Int := if h : u < N then (farEx N G h).choose else fun _ => 0
theorem farE_ok {N u : Nat} {G : Nat → Nat → Bool} (h : u < N) : FarOk N G u (farE N G u) := by
  unfold farE; rw [dif_pos h]; exact (farEx N G h).choose_spec
theorem FarOk.eq {N a : Nat} {G : Nat → Nat → Bool} {F K : Nat → Int} (h : FarOk N G a F) (k : FarOk N G a K) : ∀ v, v < N → F v = K v := by
  have key : ∀ {F K : Nat → Int}, FarOk N G a F → FarOk N G a K → ∀ (d v : Nat), v < N → F v = (d : Int) → 0 ≤ K v ∧ K v ≤ d := by
    intro F K h k d
    induction d with
    | zero => intro v hv hF; rw [h.zero v hv hF, k.at']; omega
    | succ d ih =>
      intro v hv hF
      obtain ⟨u, h1, h2, h3⟩ := h.par v hv (by rw [hF]; push_cast; omega)
      have h4 := ih u h1 (by rw [h2, hF]; push_cast; omega)
      have h5 := k.fin u v h1 hv h3 h4.1
      push_cast
      omega
  intro v hv
  rcases h.rng v hv with h1 | ⟨h1, -⟩ <;> rcases k.rng v hv with h2 | ⟨h2, -⟩
  · rw [h1, h2]
  · obtain ⟨d, hd⟩ := Int.eq_ofNat_of_zero_le h2
    have := key k h d v hv hd; omega
  · obtain ⟨d, hd⟩ := Int.eq_ofNat_of_zero_le h1
    have := key h k d v hv hd; omega
  · obtain ⟨d, hd⟩ := Int.eq_ofNat_of_zero_le h2
    obtain ⟨d', hd'⟩ := Int.eq_ofNat_of_zero_le h1
    have := key k h d v hv hd
    have := key h k d' v hv hd'
    omega
/-- The row of a node. -/
noncomputable abbrev rowE (N : Nat) (l : List (Int × Int)) (u : Nat) : List Int := (List.range N).map (farE N (adj l) u)
/-- The nodes with an odd number of edges. -/
structure OddF (N : Nat) (l : List (Int × Int)) (L : List Nat) : Prop where
  nd : L.Nodup
  lt : ∀ v ∈ L, v < N
  even : L.length % 2 = 0
  far : ∀ u ∈ L, ∀ v ∈ L, 0 ≤ farE N (adj l) u v ∧ farE N (adj l) u v ≤ 100
  deg : ∀ v, v < N → (degL l v % 2 = 1 ↔ v ∈ L)
theorem odd_edge {N v : Nat} {G : Nat → Nat → Bool} (h : v ∈ oddL N G) : ∃ z, AG N G v z := by
  obtain ⟨h1, h2⟩ := mem_oddL.1 h
  refine Classical.byContradiction fun hno => ?_
  have : cntN N (G v) = 0 := by
    rw [cntN_congr (q := fun _ => false), cntN_false]
    intro i hi
    cases e : G v i
    · rfl
    · exact absurd ⟨i, h1, hi, e⟩ hno
  omega
theorem odd_f {N : Nat} {l : List (Int × Int)} (hg : GoodGraph N l) (hh : HangE N (adj l)) : OddF N l (oddL N (adj l)) where
  nd := by unfold oddL; exact List.Nodup.sublist List.filter_sublist List.nodup_range
  lt v hv := (mem_oddL.1 hv).1
  even := odd_even hg
  far u hu v hv := by
    obtain ⟨x, hx⟩ := odd_edge hu
    obtain ⟨y, hy⟩ := odd_edge hv
    have hF := farE_ok (G := adj l) hx.1
    have h1 := (hF.rch_iff hy.1).2 (hh _ _ _ _ hx hy)
    have h2 := hF.rng v hy.1
    have := hg.hi
    omega
  deg v hv := by
    unfold degL
    rw [rem_deg hg, mem_oddL]
    exact ⟨fun h => ⟨hv, h⟩, fun h => h.2⟩
theorem OddF.at {N : Nat} {l : List (Int × Int)} {L : List Nat} (h : OddF N l L) {i : Nat} (hi : i < L.length) : L.getD i 0 < N ∧ L.getD i 0 ∈ L := by
  have : L.getD i 0 ∈ L := by rw [List.getD, List.getElem?_eq_getElem hi]; exact List.getElem_mem _
  exact ⟨h.lt _ this, this⟩
theorem dM_far {N : Nat} {l : List (Int × Int)} {L : List Nat} (h : OddF N l L) {i j : Nat} (hi : i < L.length) (hj : j < L.length) : dM L (L.map (rowE N l)) i j = farE N (adj l) (L.getD i 0) (L.getD j 0) := by
  unfold dM
  have e1 : (L.map (rowE N l)).getD i [] = rowE N l (L.getD i 0) := by simp [List.getD, List.getElem?_eq_getElem hi]
  rw [e1]
  have := (h.at hj).1
  simp [List.getD, rowE] at this ⊢
  simp [this]
/-- What walks.Postman answers. -/
def PostPost (n : Int) (l : List (Int × Int)) (w : World) (e : Ending) (w' : World) : Prop :=
  ∃ c0 a0 c a v, GraphSpec n l c0 a0 ∧ e = .returned (.tuple #[v, .agg #[.int .i64 c, .int .i64 a]]) ∧ Below w.heap.size w w' ∧
    ((c0 ≠ 0 ∧ c = c0 ∧ a = a0 ∧ v = .slice none 0 0) ∨ (c0 = 0 ∧ a0 = 0 ∧ ∃ N : Nat, n = N ∧ GoodGraph N l ∧
      ((l = [] ∧ c = 0 ∧ a = 0 ∧ v = .slice none 0 0) ∨ (0 < l.length ∧ hangB N (adj l) = false ∧ c = 9 ∧ a = 0 ∧ v = .slice none 0 0) ∨
       (0 < l.length ∧ hangB N (adj l) = true ∧ 12 < (oddL N (adj l)).length ∧ c = 2 ∧ a = 0 ∧ v = .slice none 0 0) ∨
       (0 < l.length ∧ hangB N (adj l) = true ∧ (oddL N (adj l)).length ≤ 12 ∧ c = 0 ∧ a = 0 ∧ ∃ f O eO X, (∃ z, AG N (adj l) f z) ∧
         (∀ q ∈ X, ∃ x y : Nat, q = ((x : Int), (y : Int)) ∧ AG N (adj l) x y) ∧ (X.length : Int) = matesP (farE N (adj l)) 12 (oddL N (adj l)) ∧ IsInts w' v (ints O) ∧ TrF N (l ++ X).length (edE (l ++ X)) f f O eO))))
/-- While edges are put anew: E is what comes of them, PV the pairs. -/
structure PoS (w8 wr : World) (bP : Nat) (vE vP : Value) (E PV : List (Int × Int)) : Prop where
  hb : Below w8.heap.size w8 wr
  own : OwnE wr w8.heap.size vE E
  pw : OwnE wr bP vP PV
  lP : w8.heap.size ≤ bP
  ne : ∀ g, vE.ownBlock = some g → vP.ownBlock ≠ some g
theorem PoS.below {w8 wr w' : World} {bP : Nat} {vE vP : Value} {E PV : List (Int × Int)} (h : PoS w8 wr bP vE vP E PV) (hb : Below wr.heap.size wr w') : PoS w8 w' bP vE vP E PV :=
  ⟨h.hb.trans (hb.mono h.hb.size), h.own.below hb, h.pw.below hb, h.lP, h.ne⟩
theorem PoS.app {w8 wr w' : World} {bP : Nat} {vE vE' vP : Value} {E E' PV : List (Int × Int)} (h : PoS w8 wr bP vE vP E PV) (ho : OwnE w' w8.heap.size vE' E') (hg : wr.grownBy w' vE.ownBlock) (hat : vE'.ownBlock = vE.ownBlock ∨ vE'.ownBlock = some wr.heap.size) : PoS w8 w' bP vE' vP E' PV := by
  have hp : wr.ownsRow bP 78 2 vP PV.length (cells2 PV) := h.pw
  refine ⟨h.hb.grown hg h.hb.size (fun g e => (World.ownsRow.lt h.own g e).1), ho, ?_, h.lP, fun g e e2 => ?_⟩
  · refine hp.kept hg ?_
    cases hv : vP.ownBlock with
    | none => exact Or.inl rfl
    | some g => exact Or.inr fun e => h.ne g e.symm hv
  · rcases hat with e3 | e3
    · rw [e3] at e; exact h.ne g e e2
    · rw [e3] at e
      have := (hp.lt g e2).2
      have := Option.some.inj e
      omega
/-- A way's row stays where edges are put. -/
theorem way_kept {wr w' : World} {b8 bW : Nat} {vE vW : Value} {E : List (Int × Int)} {W : List Nat} (h : OwnE wr b8 vE E) (hw : wr.ownsRow bW 3 1 vW W.length (nvals W)) (hg : wr.grownBy w' vE.ownBlock) : w'.ownsRow bW 3 1 vW W.length (nvals W) := by
  have ho : wr.ownsRow b8 78 2 vE E.length (cells2 E) := h
  refine ownsRow_typed hw hg fun g e => ?_
  obtain ⟨c, fz, hc⟩ := ownsRow_type ho g e
  exact ⟨c, _, fz, hc, by decide⟩
/-- The sum of pairs is the least one. -/
theorem sum_mates {N : Nat} {l : List (Int × Int)} {L : List Nat} {P : List (Nat × Nat)} {b : Nat → Int} {la : Nat → Nat × Nat} (h : OddF N l L) (hL : L.length ≤ 12) (hok : ∀ s, s < 2 ^ L.length → PmOk L.length (dM L (L.map (rowE N l))) b la s) (hP : PcI L.length (dM L (L.map (rowE N l))) b 0 P) :
    (P.map fun p => dM L (L.map (rowE N l)) p.1 p.2).sum = matesP (farE N (adj l)) 12 L := by
  have h0 := (hok 0 (Nat.two_pow_pos _)).1 rfl
  have hs := hP.sum
  have hpc : pcM L.length (2 ^ L.length - 1) = L.length := by
    unfold pcM
    rw [cntN_congr (q := fun _ => !false) (fun q hq => by rw [Nat.testBit_two_pow_sub_one]; simp [hq])]
    have := cntN_not L.length (fun _ => false)
    rw [cntN_false] at this
    omega
  have := mates_eq (n := L.length) (f := 12) (L := L) (D := dM L (L.map (rowE N l))) (E := farE N (adj l)) (b := b) (la := la)
    (fun i j hij hj => by rw [dM_far h (by omega) hj]; exact (h.far _ (h.at (by omega)).2 _ (h.at hj).2).1)
    (fun i j hij hj => (dM_far h (by omega) hj).symm) hok 12 (2 ^ L.length - 1) (by have := Nat.two_pow_pos L.length; omega) (by rw [hpc]; exact h.even) (by rw [lstM_full]; exact hL)
  rw [lstM_full] at this
  omega
/-- A cell elsewhere. -/
theorem far2 {w : World} {C b o : Nat} (h : C ≠ b) (x y : Value) : ((w.setCell ⟨C, 0, none⟩ x).setCell ⟨C, 1, none⟩ y).cell? ⟨b, o, none⟩ = w.cell? ⟨b, o, none⟩ := by
  rw [World.cell?_setCell_far _ _ _ _ (show C ≠ b from h), World.cell?_setCell_far _ _ _ _ (show C ≠ b from h)]
/-- A fault's box, made ahead of a call. -/
theorem flt_row {w w2 : World} (hb : Below (w.alloc (Obj.cells #[.int .i64 0, .int .i64 0] 27)).drew.heap.size (w.alloc (Obj.cells #[.int .i64 0, .int .i64 0] 27)).drew w2) : w2.rowIs w.heap.size 27 2 (fun i => if i = 0 then .int .i64 0 else .int .i64 0) := by
  have h := two_row w (.int .i64 0) (.int .i64 0) 27
  have h2 := h.of_block (((Below.refl _ _).drew : Below (w.alloc (Obj.cells #[.int .i64 0, .int .i64 0] 27)).heap.size _ (w.alloc (Obj.cells #[.int .i64 0, .int .i64 0] 27)).drew).block _ h.lt)
  exact h2.of_block (hb.block _ h2.lt)
/-- walks.Way between two nodes that hang together. -/
theorem WayPost.ok {N A B : Nat} {l : List (Int × Int)} {w w' : World} {e : Ending} (hg : GoodGraph N l) (hA : A < N) (hB : B < N) (h0 : 0 ≤ farE N (adj l) A B) (h : WayPost (N : Int) l (A : Int) (B : Int) w e w') :
    ∃ v W, e = .returned (.tuple #[v, .agg #[.int .i64 0, .int .i64 0]]) ∧ Below w.heap.size w w' ∧ w'.ownsRow w.heap.size 3 1 v W.length (nvals W) ∧ (∀ i, i + 1 < W.length → AG N (adj l) (W.getD i 0) (W.getD (i + 1) 0)) ∧ 0 < W.length ∧ W.getD 0 0 = A ∧ W.getD (W.length - 1) 0 = B ∧ (W.length : Int) - 1 = farE N (adj l) A B := by
  obtain ⟨c0, a0, c, a, v, hL, rfl, hb, hcase⟩ := h
  have hL2 : LookR (N : Int) l [(A : Int), (B : Int)] 0 0 := ⟨0, 0, hg.spec, .inr ⟨rfl, .inr ⟨fun j hj => by
    have : j = 0 ∨ j = 1 := by simp at hj; omega
    rcases this with rfl | rfl
    · show 0 ≤ (A : Int) ∧ (A : Int) < (N : Int); omega
    · show 0 ≤ (B : Int) ∧ (B : Int) < (N : Int); omega, rfl, rfl⟩⟩⟩
  obtain ⟨rfl, rfl⟩ := hL.uniq hL2
  rcases hcase with ⟨h1, -⟩ | ⟨-, N', A', B', e1, e2, e3, -, -, -, F, hF, hcase⟩
  · exact absurd rfl h1
  · have e1 := Int.ofNat.inj e1; have e2 := Int.ofNat.inj e2; have e3 := Int.ofNat.inj e3
    subst e1 e2 e3
    have hsy := FarOk.symm (adj_sy l) hA hB (farE_ok (G := adj l) hA) hF h0
    rcases hcase with ⟨h1, -⟩ | ⟨h1, rfl, rfl, W, ho, hW⟩
    · omega
    · obtain ⟨k1, k2, k3, k4⟩ := hW.ends hF h1
      exact ⟨v, W, rfl, hb, ho, hW.steps, k1, k2, k3, by rw [k4, hsy]⟩
/-- Pairs without a node in common are few. -/
theorem few_pairs {n : Nat} : ∀ {P : List (Nat × Nat)}, (∀ k, k < n → (P.filter fun p => decide (p.1 = k) || decide (p.2 = k)).length ≤ 1) → (∀ p ∈ P, p.1 < n) → (P.map Prod.fst).Nodup
  | [], _, _ => by simp
  | p :: P, h, hr => by
    rw [List.map_cons, List.nodup_cons]
    refine ⟨fun hm => ?_, few_pairs (fun k hk => ?_) fun q hq => hr q (List.mem_cons_of_mem _ hq)⟩
    · obtain ⟨q, hq, e⟩ := List.mem_map.1 hm
      have h1 := h p.1 (hr p (by simp))
      rw [List.filter_cons] at h1
      simp only [decide_true, Bool.true_or, if_true, List.length_cons] at h1
      have h2 : (P.filter fun p_1 => decide (p_1.1 = p.1) || decide (p_1.2 = p.1)) = [] := List.eq_nil_of_length_eq_zero (by omega)
      have := List.filter_eq_nil_iff.1 h2 q hq
      simp [e] at this
    · have := h k hk
      rw [List.filter_cons] at this
      split at this
      · rw [List.length_cons] at this; omega
      · exact this
theorem PcI.few {n : Nat} {D : Nat → Nat → Int} {b : Nat → Int} {P : List (Nat × Nat)} (h : PcI n D b 0 P) : P.length ≤ n := by
  have h1 := few_pairs (n := n) (P := P) (fun k hk => by have := h.cov k hk; omega) fun p hp => by have := h.rng p hp; omega
  have h2 := nodup_lt n _ h1 fun v hv => by
    obtain ⟨p, hp, rfl⟩ := List.mem_map.1 hv
    have := h.rng p hp; omega
  rwa [List.length_map] at h2
theorem prI_at {P : List (Nat × Nat)} {q : Nat} (hq : q < P.length) : (prI P).getD q (0, 0) = (((P.getD q (0, 0)).1 : Int), ((P.getD q (0, 0)).2 : Int)) ∧ P.getD q (0, 0) ∈ P ∧ P.take (q + 1) = P.take q ++ [P.getD q (0, 0)] := by
  refine ⟨?_, ?_, ?_⟩
  · simp [prI, List.getD, List.getElem?_eq_getElem hq]
  · rw [List.getD, List.getElem?_eq_getElem hq]; exact List.getElem_mem _
  · rw [List.take_add_one, List.getD, List.getElem?_eq_getElem hq]; rfl
end Go.Proofs.Ytnmljgjegodkaaa
