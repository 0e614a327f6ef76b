/- Package parts: how its functions begin. -/
import Derived.Test.YtmhcnekbfngafaaBlkW
import Derived.Test.YtmhcnekbfngafaaPA
namespace Go.Proofs.Ytmhcnekbfngafaa
open Go.RowKit

/-- The argument's box, and the fault that comes back. -/
structure PSt (w wr : World) (n : Int) (s : Value) (l : List (Int × Int)) : Prop where
  hb : Below w.heap.size w wr
  cn : wr.cell? ⟨w.heap.size, 0, none⟩ = some (.int .i64 n)
  cs : wr.cell? ⟨w.heap.size, 1, none⟩ = some s
  he : IsEdges wr s l
  r : wr.rowIs (w.heap.size + 1) 27 2 (fun i => if i = 0 then .int .i64 0 else .int .i64 0)
theorem PSt.start {w : World} {n : Int} {s : Value} {l : List (Int × Int)} (h : IsEdges w s l) : PSt w ((w.alloc (Obj.cells #[.int .i64 n, s] 24)).alloc (Obj.cells #[.int .i64 0, .int .i64 0] 27)) n s l := by
  obtain ⟨c0, c1⟩ := two_cells w (.int .i64 n) s 24
  have hr := two_row (w.alloc (Obj.cells #[.int .i64 n, s] 24)) (.int .i64 0) (.int .i64 0) 27
  rw [World.size_alloc] at hr
  have hb := below2 w (Obj.cells #[.int .i64 n, s] 24) (Obj.cells #[.int .i64 0, .int .i64 0] 27)
  exact ⟨hb, below_cell (below1 _ _) c0, below_cell (below1 _ _) c1, h.below hb, hr⟩
theorem PSt.below {w wr w' : World} {n : Int} {s : Value} {l : List (Int × Int)} (h : PSt w wr n s l) (hb : Below wr.heap.size wr w') : PSt w w' n s l :=
  ⟨h.hb.trans (hb.mono h.hb.size), below_cell hb h.cn, below_cell hb h.cs, h.he.below hb, h.r.of_block (hb.block _ h.r.lt)⟩

/-- The ends of the blocks' edges are nodes. -/
def InN (N : Nat) (e : Int × Int) : Prop := (0 ≤ e.1 ∧ e.1 < N) ∧ 0 ≤ e.2 ∧ e.2 < N
theorem BlksR.ends {l : List (Int × Int)} {N : Nat} (hN : N ≤ 100) {L : List (List (Int × Int))} (h : BlksR (blkD l N) L) : ∀ b ∈ L, ∀ e ∈ b, InN N e := by
  obtain ⟨M, hM, hof, hp⟩ := h.of
  have hA := nbrs_ask (l := l) hN
  have hall := (allD_every (P := InN N) hA.mem (fun v u hv hu => ⟨⟨by omega, by simp; omega⟩, by omega, by have := hA.mem v u hv hu; simp; omega⟩) N (Nat.le_refl _)).blk
  intro b hb e he
  obtain ⟨j, hj, ej⟩ := List.mem_iff_getElem.1 (hp.mem_iff.1 hb)
  have h1 := (hof j (by omega)).1
  rw [show M.getD j [] = b by rw [List.getD, List.getElem?_eq_getElem hj]; exact ej] at h1
  have h2 := h1.mem_iff.1 he
  obtain ⟨e0, he0, rfl⟩ := List.mem_map.1 h2
  have h3 := hall ((blkD l N).getD j []) (by rw [List.getD, List.getElem?_eq_getElem (by omega)]; exact List.getElem_mem _) e0 he0
  unfold norm
  split
  · exact h3
  · exact ⟨h3.2, h3.1⟩
theorem BlksR.small {l : List (Int × Int)} {N : Nat} (hN : N ≤ 100) {L : List (List (Int × Int))} (h : BlksR (blkD l N) L) : ∀ b ∈ L, b.length ≤ 10000 := by
  obtain ⟨M, hM, hof, hp⟩ := h.of
  have hall := allD_big (nbrs_ask (l := l) hN) N (Nat.le_refl _)
  intro b hb
  obtain ⟨j, hj, ej⟩ := List.mem_iff_getElem.1 (hp.mem_iff.1 hb)
  have h1 := (hof j (by omega)).1.length_eq
  rw [show M.getD j [] = b by rw [List.getD, List.getElem?_eq_getElem hj]; exact ej, List.length_map] at h1
  have h2 := (hall ((blkD l N).getD j []) (by rw [List.getD, List.getElem?_eq_getElem (by omega)]; exact List.getElem_mem _)).2
  omega
theorem BlksR.length {bs L : List (List (Int × Int))} (h : BlksR bs L) : L.length = bs.length := by
  obtain ⟨M, hM, -, hp⟩ := h.of
  rw [hp.length_eq, hM]
theorem inB_norm (e : Int × Int) (q : Nat) : (decide ((norm e).1 = (q : Int)) || decide ((norm e).2 = (q : Int))) = (decide (e.1 = (q : Int)) || decide (e.2 = (q : Int))) := by
  unfold norm
  split
  · rfl
  · exact Bool.or_comm _ _
theorem any_perm {α : Type} {l m : List α} (h : l.Perm m) (p : α → Bool) : l.any p = m.any p := by
  rw [Bool.eq_iff_iff]
  simp only [List.any_eq_true]
  exact ⟨fun ⟨x, hx, hp⟩ => ⟨x, h.mem_iff.1 hx, hp⟩, fun ⟨x, hx, hp⟩ => ⟨x, h.mem_iff.2 hx, hp⟩⟩
theorem BlkOf.inB {b m : List (Int × Int)} (h : BlkOf b m) (q : Nat) : inB m q = inB b q := by
  unfold Go.Proofs.Ytmhcnekbfngafaa.inB
  rw [any_perm h.1, List.any_map]
  congr 1
  funext e
  exact inB_norm e q
/-- How many blocks have a node: as the model has it. -/
theorem BlksR.bcnt {bs L : List (List (Int × Int))} (h : BlksR bs L) (q : Nat) : Go.Proofs.Ytmhcnekbfngafaa.bcnt L q = Go.Proofs.Ytmhcnekbfngafaa.bcnt bs q := by
  obtain ⟨M, hM, hof, hp⟩ := h.of
  unfold Go.Proofs.Ytmhcnekbfngafaa.bcnt
  rw [(hp.filter _).length_eq]
  clear hp
  have : ∀ k, k ≤ bs.length → ((M.take k).filter fun b => inB b q).length = ((bs.take k).filter fun b => inB b q).length := by
    intro k
    induction k with
    | zero => intro _; rfl
    | succ k ih =>
      intro hk
      have h1 := bcnt_snoc (L := M) (k := k) (by omega) q
      have h2 := bcnt_snoc (L := bs) (k := k) (by omega) q
      unfold Go.Proofs.Ytmhcnekbfngafaa.bcnt at h1 h2
      rw [h1, h2, ih (by omega), (hof k (by omega)).inB]
  have h3 := this bs.length (Nat.le_refl _)
  rwa [List.take_length, ← hM, List.take_length] at h3
theorem BlksR.cuts {bs L : List (List (Int × Int))} (h : BlksR bs L) (N : Nat) : cutsL N L = cutsL N bs := by
  unfold cutsL
  congr 1
  funext q
  rw [h.bcnt]

set_option maxHeartbeats 3200000 in
set_option maxRecDepth 100000 in
theorem pblocks_ok {l : List (Int × Int)} {N : Nat} (hgood : GoodGraph N l) (s : Value) (w : World) (h : IsEdges w s l) :
    Calls Try.prog 27 #[.agg #[.int .i64 (N : Int), s]] w fun e w' => ∃ v L, e = .returned (.tuple #[v, .agg #[.int .i64 0, .int .i64 0]]) ∧ Blks w' w.heap.size (.slice none 0 0) v L ∧ Below w.heap.size w w' ∧ BlksR (blkD l N) L := by
  obtain ⟨ad, cap, rfl⟩ := h.form
  have Hg := Lib.hid hgood
  have St := Lib.hid (PSt.start (n := (N : Int)) h)
  clear hgood h
  go_enter Try.func27, Try.ntmps27
  go_upto_region 1 with fail
  generalize (w.alloc (Obj.cells #[.int .i64 (N : Int), .slice ad l.length cap] 24)).alloc (Obj.cells #[.int .i64 0, .int .i64 0] 27) = w1 at *
  have cn := St.out.cn
  have cs := St.out.cs
  have hl := St.out.r.lt
  go_upto_region 2 with (go_at_call 47; refine (gcheck_is Hg.out.spec _ _ St.out.he).mono ?_; rintro e w2 ⟨rfl, hb2⟩; have S2 := Lib.hid (St.out.below (hb2.trans ((below1 w2 (Obj.cells #[.int .i64 0, .int .i64 0] 27)).mono hb2.size))); have e01 := two_cells w2 (.int .i64 0) (.int .i64 0) 27; clear hb2)
  generalize w2.alloc (Obj.cells #[.int .i64 0, .int .i64 0] 27) = w3 at *
  obtain ⟨e0, e1⟩ := e01
  clear cn cs hl St
  have cn := S2.out.cn
  have cs := S2.out.cs
  go_upto_region 4 with fail
  clear e0 e1
  go_wp2_with (go_at_call 59; refine (blocks_any Hg.out _ _ S2.out.he).mono ?_; rintro e w5 ⟨v, L, rfl, h5, hb5, hr5⟩; have S5 := Lib.hid (S2.out.below hb5); obtain ⟨z0, z1, f0, f1, l0⟩ := row_facts S5.out.r; have H5 := Lib.hid h5; have R5 := Lib.hid hr5; clear h5 hb5 hr5)
  have e := (S5.out.r.set 0 (.int .i64 0)).set 1 (.int .i64 0)
  have e0 := e.cell (show 0 < 2 by omega)
  have e1 := e.cell (show 1 < 2 by omega)
  simp only [if_true, show ¬ (1 : Nat) = 0 by omega, show ¬ (0 : Nat) = 1 by omega, if_false] at e0 e1
  have hfin := (S5.out.hb.setCell (p := ⟨w.heap.size + 1, 0, none⟩) (by show w.heap.size ≤ w.heap.size + 1; omega) (.int .i64 0)).setCell (p := ⟨w.heap.size + 1, 1, none⟩) (by show w.heap.size ≤ w.heap.size + 1; omega) (.int .i64 0)
  have hlow : w.heap.size + 1 < w3.heap.size := S2.out.r.lt
  exact bodyPost_ret (v := .tuple #[v, .agg #[.int .i64 0, .int .i64 0]]) (by simp [results, Try.results27, go_sem, e0, e1]) rfl ⟨v, L, rfl, ((H5.out.set hlow 0 (.int .i64 0)).set hlow 1 (.int .i64 0)).low (by omega), hfin, R5.out⟩

end Go.Proofs.Ytmhcnekbfngafaa
