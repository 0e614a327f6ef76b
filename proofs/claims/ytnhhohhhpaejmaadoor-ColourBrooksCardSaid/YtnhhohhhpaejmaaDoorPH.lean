/- What parts.blocks' answer is good for: ends, sizes, cuts. What parts.blocks answers: the classes of edges that no node keeps apart, each in order, in order by their first edges. -/
import Derived.Test.YtnhhohhhpaejmaaDoorBlkW
import Derived.Test.YtnhhohhhpaejmaaDoorPA
import Derived.Test.YtnhhohhhpaejmaaDoorPD
namespace Go.Proofs.YtnhhohhhpaejmaaDoor
open Go.RowKit


/-- The argument's box, and the fault that comes back. -/
structure PSt (w wr : World) (n : Int) (s : Value) (l : List (Int × Int)) : Prop where
  hb : Below w.heap.size w wr
  cn : wr.cell? ⟨w.heap.size, 0, none⟩ = some (.int .i64 n)
  cs : wr.cell? ⟨w.heap.size, 1, none⟩ = some s
  he : IsEdges wr s l
  r : wr.rowIs (w.heap.size + 1) 27 2 (fun i => if i = 0 then .int .i64 0 else .int .i64 0)
theorem PSt.start {w : World} {n : Int} {s : Value} {l : List (Int × Int)} (h : IsEdges w s l) : PSt w ((w.alloc (Obj.cells #[.int .i64 n, s] 24)).alloc (Obj.cells #[.int .i64 0, .int .i64 0] 27)) n s l := by
  obtain ⟨c0, c1⟩ := two_cells w (.int .i64 n) s 24
  have hr := two_row (w.alloc (Obj.cells #[.int .i64 n, s] 24)) (.int .i64 0) (.int .i64 0) 27
  rw [World.size_alloc] at hr
  have hb := below2 w (Obj.cells #[.int .i64 n, s] 24) (Obj.cells #[.int .i64 0, .int .i64 0] 27)
  exact ⟨hb, below_cell (below1 _ _) c0, below_cell (below1 _ _) c1, h.below hb, hr⟩
theorem PSt.below {w wr w' : World} {n : Int} {s : Value} {l : List (Int × Int)} (h : PSt w wr n s l) (hb : Below wr.heap.size wr w') : PSt w w' n s l :=
  ⟨h.hb.trans (hb.mono h.hb.size), below_cell hb h.cn, below_cell hb h.cs, h.he.below hb, h.r.of_block (hb.block _ h.r.lt)⟩

/-- The ends of the blocks' edges are nodes. -/
def InN (N : Nat) (e : Int × Int) : Prop := (0 ≤ e.1 ∧ e.1 < N) ∧ 0 ≤ e.2 ∧ e.2 < N
theorem BlksR.ends {l : List (Int × Int)} {N : Nat} (hN : N ≤ 100) {L : List (List (Int × Int))} (h : BlksR (blkD l N) L) : ∀ b ∈ L, ∀ e ∈ b, InN N e := by
  obtain ⟨M, hM, hof, hp⟩ := h.of
  have hA := nbrs_ask (l := l) hN
  have hall := (allD_every (P := InN N) hA.mem (fun v u hv hu => ⟨⟨by omega, by simp; omega⟩, by omega, by have := hA.mem v u hv hu; simp; omega⟩) N (Nat.le_refl _)).blk
  intro b hb e he
  obtain ⟨j, hj, ej⟩ := List.mem_iff_getElem.1 (hp.mem_iff.1 hb)
  have h1 := (hof j (by omega)).1
  rw [show M.getD j [] = b by rw [List.getD, List.getElem?_eq_getElem hj]; exact ej] at h1
  have h2 := h1.mem_iff.1 he
  obtain ⟨e0, he0, rfl⟩ := List.mem_map.1 h2
  have h3 := hall ((blkD l N).getD j []) (by rw [List.getD, List.getElem?_eq_getElem (by omega)]; exact List.getElem_mem _) e0 he0
  unfold norm
  split
  · exact h3
  · exact ⟨h3.2, h3.1⟩
theorem BlksR.small {l : List (Int × Int)} {N : Nat} (hN : N ≤ 100) {L : List (List (Int × Int))} (h : BlksR (blkD l N) L) : ∀ b ∈ L, b.length ≤ 10000 := by
  obtain ⟨M, hM, hof, hp⟩ := h.of
  have hall := allD_big (nbrs_ask (l := l) hN) N (Nat.le_refl _)
  intro b hb
  obtain ⟨j, hj, ej⟩ := List.mem_iff_getElem.1 (hp.mem_iff.1 hb)
  have h1 := (hof j (by omega)).1.length_eq
  rw [show M.getD j [] = b by rw [List.getD, List.getElem?_eq_getElem hj]; exact ej, List.length_map] at h1
  have h2 := (hall ((blkD l N).getD j []) (by rw [List.getD, List.getElem?_eq_getElem (by omega)]; exact List.getElem_mem _)).2
  omega
theorem BlksR.length {bs L : List (List (Int × Int))} (h : BlksR bs L) : L.length = bs.length := by
  obtain ⟨M, hM, -, hp⟩ := h.of
  rw [hp.length_eq, hM]
theorem inB_norm (e : Int × Int) (q : Nat) : (decide ((norm e).1 = (q : Int)) || decide ((norm e).2 = (q : Int))) = (decide (e.1 = (q : Int)) || decide (e.2 = (q : Int))) := by
  unfold norm
  split
  · rfl
  · exact Bool.or_comm _ _
theorem any_perm {α : Type} {l m : List α} (h : l.Perm m) (p : α → Bool) : l.any p = m.any p := by
  rw [Bool.eq_iff_iff]
  simp only [List.any_eq_true]
  exact ⟨fun ⟨x, hx, hp⟩ => ⟨x, h.mem_iff.1 hx, hp⟩, fun ⟨x, hx, hp⟩ => ⟨x, h.mem_iff.2 hx, hp⟩⟩
theorem BlkOf.inB {b m : List (Int × Int)} (h : BlkOf b m) (q : Nat) : inB m q = inB b q := by
  unfold Go.Proofs.YtnhhohhhpaejmaaDoor.inB
  rw [any_perm h.1, List.any_map]
  congr 1
  funext e
  exact inB_norm e q
/-- How many blocks have a node: as the model has it. -/
theorem BlksR.bcnt {bs L : List (List (Int × Int))} (h : BlksR bs L) (q : Nat) : Go.Proofs.YtnhhohhhpaejmaaDoor.bcnt L q = Go.Proofs.YtnhhohhhpaejmaaDoor.bcnt bs q := by
  obtain ⟨M, hM, hof, hp⟩ := h.of
  unfold Go.Proofs.YtnhhohhhpaejmaaDoor.bcnt
  rw [(hp.filter _).length_eq]
  clear hp
  have : ∀ k, k ≤ bs.length → ((M.take k).filter fun b => inB b q).length = ((bs.take k).filter fun b => inB b q).length := by
    intro k
    induction k with
    | zero => intro _; rfl
    | succ k ih =>
      intro hk
      have h1 := bcnt_snoc (L := M) (k := k) (by omega) q
      have h2 := bcnt_snoc (L := bs) (k := k) (by omega) q
      unfold Go.Proofs.YtnhhohhhpaejmaaDoor.bcnt at h1 h2
      rw [h1, h2, ih (by omega), (hof k (by omega)).inB]
  have h3 := this bs.length (Nat.le_refl _)
  rwa [List.take_length, ← hM, List.take_length] at h3
theorem BlksR.cuts {bs L : List (List (Int × Int))} (h : BlksR bs L) (N : Nat) : cutsL N L = cutsL N bs := by
  unfold cutsL
  congr 1
  funext q
  rw [h.bcnt]

end Go.Proofs.YtnhhohhhpaejmaaDoor
namespace Go.Proofs.YtnhhohhhpaejmaaDoor
open Go.RowKit

/-- The model's blocks are right. -/
theorem blkD_ok {l : List (Int × Int)} {N : Nat} (hg : GoodGraph N l) : BlkOk (AG N (adj l)) (blkD l N) ∧ ∀ b ∈ blkD l N, b ≠ [] := by
  have hN : N ≤ 100 := by have := hg.hi; omega
  have hA := nbrs_ask (l := l) hN
  exact ⟨(allD_right hN (good_gr hg).nbs hA.len N (Nat.le_refl _)).ok (good_gr hg).nbs, fun b hb => (allD_big hA N (Nat.le_refl _) b hb).1⟩
theorem nodup_part {α : Type} {L : List (List α)} (h : L.flatten.Nodup) {b : List α} (hb : b ∈ L) : b.Nodup := h.sublist (List.sublist_flatten_of_mem hb)
theorem BlksR.cls {N : Nat} {G : Nat → Nat → Bool} (hG : Gr N G) {bs L : List (List (Int × Int))} (hb : BlkOk (AG N G) bs) (hne : ∀ b ∈ bs, b ≠ []) (h : BlksR bs L) : ClsOk (edG N G) (Twn (AG N G)) L := by
  have hA := hG.nbs
  obtain ⟨M, hM, hof, hp⟩ := h.of
  -- what is in a block
  have hmem : ∀ j, j < bs.length → ∀ f, f ∈ M.getD j [] ↔ ∃ e ∈ bs.getD j [], norm e = f := fun j hj f => by
    rw [(hof j hj).1.mem_iff, List.mem_map]
  have hneM : ∀ j, j < bs.length → M.getD j [] ≠ [] := fun j hj e => by
    have h1 := (hof j hj).1.length_eq
    rw [e, List.length_map] at h1
    exact hne _ (getD_mem hj) (List.eq_nil_of_length_eq_zero h1.symm)
  have hE : ∀ j, j < bs.length → ∀ f, f ∈ M.getD j [] ↔ f ∈ edG N G ∧ Twn (AG N G) ((M.getD j []).headD (0, 0)) f := fun j hj f => by
    obtain ⟨e0, he0, hh⟩ := (hmem j hj _).1 (headD_mem (hneM j hj))
    rw [← hh]
    constructor
    · intro hf
      obtain ⟨e, he, rfl⟩ := (hmem j hj f).1 hf
      exact ⟨isE_norm hG (hb.edge _ (getD_mem hj) e he), Twn.norm.2 (hb.one _ (getD_mem hj) e0 he0 e he)⟩
    · rintro ⟨hf, ht⟩
      obtain ⟨a, b, hab, hA', rfl⟩ := edG_iff.1 hf
      obtain ⟨bl, hbl, hin⟩ := hb.all a b hA'
      obtain ⟨i, hi, rfl⟩ := mem_getD (d := []) hbl
      have : ∃ e ∈ bs.getD i [], norm e = ((a : Int), (b : Int)) := by
        rcases hin with k | k
        · exact ⟨_, k, (norm_pair hab).1⟩
        · exact ⟨_, k, (norm_pair hab).2⟩
      obtain ⟨e, he, hee⟩ := this
      rw [← hee] at ht ⊢
      have ht := Twn.norm.1 ht
      have hij : i = j := Classical.byContradiction fun k => hb.two j i hj hi (fun q => k q.symm) e0 he0 e he ht
      subst hij
      exact (hmem i hi _).2 ⟨e, he, rfl⟩
  have hL : ∀ b ∈ L, ∃ j, j < bs.length ∧ M.getD j [] = b := fun b hbL => by
    obtain ⟨j, hj, e⟩ := mem_getD (d := []) (hp.mem_iff.1 hbL)
    exact ⟨j, by omega, e⟩
  have hdiff : L.Pairwise fun b c => b.headD (0, 0) ≠ c.headD (0, 0) := by
    refine (hp.pairwise_iff (fun h => Ne.symm h)).2 ?_
    rw [List.pairwise_iff_getElem]
    intro i j hi hj hij he
    have ei : M.getD i [] = M[i] := by rw [List.getD, List.getElem?_eq_getElem hi]; rfl
    have ej : M.getD j [] = M[j] := by rw [List.getD, List.getElem?_eq_getElem hj]; rfl
    rw [← ei, ← ej] at he
    obtain ⟨e, he1, he2⟩ := (hmem i (by omega) _).1 (headD_mem (hneM i (by omega)))
    obtain ⟨f, hf1, hf2⟩ := (hmem j (by omega) _).1 (headD_mem (hneM j (by omega)))
    refine hb.two i j (by omega) (by omega) (by omega) e he1 f hf1 (Twn.norm.1 ?_)
    rw [he2, hf2, he]
    exact Twn.refl hA (edG_isE ((hE j (by omega) _).1 (headD_mem (hneM j (by omega)))).1)
  refine ⟨?_, fun b hbL => ?_, fun b hbL => ?_, fun b hbL f => ?_, fun e he => ?_⟩
  · refine List.Pairwise.imp₂ ?_ h.sorted hdiff
    intro b c h1 h2
    rcases LexLt.tri (b.headD (0, 0)) (c.headD (0, 0)) with k | k | k
    · exact k
    · exact absurd k h2
    · exact absurd k h1
  · obtain ⟨j, hj, rfl⟩ := hL b hbL
    exact hneM j hj
  · obtain ⟨j, hj, rfl⟩ := hL b hbL
    refine rise_of (hof j hj).2 ((hof j hj).1.nodup_iff.2 ?_)
    have h1 := hb.un
    rw [List.map_flatten] at h1
    exact nodup_part h1 (List.mem_map.2 ⟨_, getD_mem hj, rfl⟩)
  · obtain ⟨j, hj, rfl⟩ := hL b hbL
    exact hE j hj f
  · obtain ⟨a, b, hab, hA', rfl⟩ := edG_iff.1 he
    obtain ⟨bl, hbl, hin⟩ := hb.all a b hA'
    obtain ⟨i, hi, rfl⟩ := mem_getD (d := []) hbl
    refine ⟨M.getD i [], hp.mem_iff.2 (getD_mem (by omega)), (hmem i hi _).2 ?_⟩
    rcases hin with k | k
    · exact ⟨_, k, (norm_pair hab).1⟩
    · exact ⟨_, k, (norm_pair hab).2⟩
/-- What the program finds is what the document finds. -/
theorem blks_cls {l : List (Int × Int)} {N : Nat} (hg : GoodGraph N l) {L : List (List (Int × Int))} (h : BlksR (blkD l N) L) : ClsOk (edG N (adj l)) (Twn (AG N (adj l))) L :=
  BlksR.cls (good_gr hg) (blkD_ok hg).1 (blkD_ok hg).2 h
theorem Twn.eqs {N : Nat} {G : Nat → Nat → Bool} (hG : Gr N G) : (∀ e f, e ∈ edG N G → f ∈ edG N G → Twn (AG N G) e f → Twn (AG N G) f e) ∧ ∀ e f g, e ∈ edG N G → f ∈ edG N G → g ∈ edG N G → Twn (AG N G) e f → Twn (AG N G) f g → Twn (AG N G) e g :=
  ⟨fun _ _ _ _ h => h.symm hG.nbs, fun _ _ _ _ hf _ h k => h.trans hG.nbs (edG_isE hf) k⟩

end Go.Proofs.YtnhhohhhpaejmaaDoor
