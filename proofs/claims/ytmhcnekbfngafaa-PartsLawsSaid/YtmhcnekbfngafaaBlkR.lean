/- What parts.blocks answers: the classes of edges that no node keeps apart, each in order, in order by their first edges. -/
import Derived.Test.YtmhcnekbfngafaaPartP
import Derived.Test.YtmhcnekbfngafaaPA
namespace Go.Proofs.Ytmhcnekbfngafaa
open Go.RowKit

theorem good_gr {l : List (Int × Int)} {N : Nat} (hg : GoodGraph N l) : Gr N (adj l) where
  sym i j _ _ := adj_symm l i j
  irr i _ := by
    cases e : adj l i i with
    | false => rfl
    | true =>
      unfold adj hasE at e
      obtain ⟨f, hf, hm⟩ := List.any_eq_true.1 e
      obtain ⟨k, hk, rfl⟩ := List.getElem_of_mem hf
      have hfine := (hg.fine k hk).2.1
      have eg : l.getD k (0, 0) = l[k] := by simp [List.getD, hk]
      rw [eg] at hfine
      have hm := of_decide_eq_true hm
      unfold Meets at hm
      omega
/-- The model's blocks are right. -/
theorem blkD_ok {l : List (Int × Int)} {N : Nat} (hg : GoodGraph N l) : BlkOk (AG N (adj l)) (blkD l N) ∧ ∀ b ∈ blkD l N, b ≠ [] := by
  have hN : N ≤ 100 := by have := hg.hi; omega
  have hA := nbrs_ask (l := l) hN
  exact ⟨(allD_right hN (good_gr hg).nbs hA.len N (Nat.le_refl _)).ok (good_gr hg).nbs, fun b hb => (allD_big hA N (Nat.le_refl _) b hb).1⟩
theorem getD_mem {α : Type} {l : List α} {d : α} {k : Nat} (hk : k < l.length) : l.getD k d ∈ l := by rw [List.getD, List.getElem?_eq_getElem hk]; exact List.getElem_mem _
theorem mem_getD {α : Type} {l : List α} {d x : α} (h : x ∈ l) : ∃ k, k < l.length ∧ l.getD k d = x := by
  obtain ⟨j, hj, e⟩ := List.getElem_of_mem h
  exact ⟨j, hj, by rw [List.getD, List.getElem?_eq_getElem hj]; exact e⟩
theorem nodup_part {α : Type} {L : List (List α)} (h : L.flatten.Nodup) {b : List α} (hb : b ∈ L) : b.Nodup := h.sublist (List.sublist_flatten_of_mem hb)
theorem BlksR.cls {N : Nat} {G : Nat → Nat → Bool} (hG : Gr N G) {bs L : List (List (Int × Int))} (hb : BlkOk (AG N G) bs) (hne : ∀ b ∈ bs, b ≠ []) (h : BlksR bs L) : ClsOk (edG N G) (Twn (AG N G)) L := by
  have hA := hG.nbs
  obtain ⟨M, hM, hof, hp⟩ := h.of
  -- what is in a block
  have hmem : ∀ j, j < bs.length → ∀ f, f ∈ M.getD j [] ↔ ∃ e ∈ bs.getD j [], norm e = f := fun j hj f => by
    rw [(hof j hj).1.mem_iff, List.mem_map]
  have hneM : ∀ j, j < bs.length → M.getD j [] ≠ [] := fun j hj e => by
    have h1 := (hof j hj).1.length_eq
    rw [e, List.length_map] at h1
    exact hne _ (getD_mem hj) (List.eq_nil_of_length_eq_zero h1.symm)
  have hE : ∀ j, j < bs.length → ∀ f, f ∈ M.getD j [] ↔ f ∈ edG N G ∧ Twn (AG N G) ((M.getD j []).headD (0, 0)) f := fun j hj f => by
    obtain ⟨e0, he0, hh⟩ := (hmem j hj _).1 (headD_mem (hneM j hj))
    rw [← hh]
    constructor
    · intro hf
      obtain ⟨e, he, rfl⟩ := (hmem j hj f).1 hf
      exact ⟨isE_norm hG (hb.edge _ (getD_mem hj) e he), Twn.norm.2 (hb.one _ (getD_mem hj) e0 he0 e he)⟩
    · rintro ⟨hf, ht⟩
      obtain ⟨a, b, hab, hA', rfl⟩ := edG_iff.1 hf
      obtain ⟨bl, hbl, hin⟩ := hb.all a b hA'
      obtain ⟨i, hi, rfl⟩ := mem_getD (d := []) hbl
      have : ∃ e ∈ bs.getD i [], norm e = ((a : Int), (b : Int)) := by
        rcases hin with k | k
        · exact ⟨_, k, (norm_pair hab).1⟩
        · exact ⟨_, k, (norm_pair hab).2⟩
      obtain ⟨e, he, hee⟩ := this
      rw [← hee] at ht ⊢
      have ht := Twn.norm.1 ht
      have hij : i = j := Classical.byContradiction fun k => hb.two j i hj hi (fun q => k q.symm) e0 he0 e he ht
      subst hij
      exact (hmem i hi _).2 ⟨e, he, rfl⟩
  have hL : ∀ b ∈ L, ∃ j, j < bs.length ∧ M.getD j [] = b := fun b hbL => by
    obtain ⟨j, hj, e⟩ := mem_getD (d := []) (hp.mem_iff.1 hbL)
    exact ⟨j, by omega, e⟩
  have hdiff : L.Pairwise fun b c => b.headD (0, 0) ≠ c.headD (0, 0) := by
    refine (hp.pairwise_iff (fun h => Ne.symm h)).2 ?_
    rw [List.pairwise_iff_getElem]
    intro i j hi hj hij he
    have ei : M.getD i [] = M[i] := by rw [List.getD, List.getElem?_eq_getElem hi]; rfl
    have ej : M.getD j [] = M[j] := by rw [List.getD, List.getElem?_eq_getElem hj]; rfl
    rw [← ei, ← ej] at he
    obtain ⟨e, he1, he2⟩ := (hmem i (by omega) _).1 (headD_mem (hneM i (by omega)))
    obtain ⟨f, hf1, hf2⟩ := (hmem j (by omega) _).1 (headD_mem (hneM j (by omega)))
    refine hb.two i j (by omega) (by omega) (by omega) e he1 f hf1 (Twn.norm.1 ?_)
    rw [he2, hf2, he]
    exact Twn.refl hA (edG_isE ((hE j (by omega) _).1 (headD_mem (hneM j (by omega)))).1)
  refine ⟨?_, fun b hbL => ?_, fun b hbL => ?_, fun b hbL f => ?_, fun e he => ?_⟩
  · refine List.Pairwise.imp₂ ?_ h.sorted hdiff
    intro b c h1 h2
    rcases LexLt.tri (b.headD (0, 0)) (c.headD (0, 0)) with k | k | k
    · exact k
    · exact absurd k h2
    · exact absurd k h1
  · obtain ⟨j, hj, rfl⟩ := hL b hbL
    exact hneM j hj
  · obtain ⟨j, hj, rfl⟩ := hL b hbL
    refine rise_of (hof j hj).2 ((hof j hj).1.nodup_iff.2 ?_)
    have h1 := hb.un
    rw [List.map_flatten] at h1
    exact nodup_part h1 (List.mem_map.2 ⟨_, getD_mem hj, rfl⟩)
  · obtain ⟨j, hj, rfl⟩ := hL b hbL
    exact hE j hj f
  · obtain ⟨a, b, hab, hA', rfl⟩ := edG_iff.1 he
    obtain ⟨bl, hbl, hin⟩ := hb.all a b hA'
    obtain ⟨i, hi, rfl⟩ := mem_getD (d := []) hbl
    refine ⟨M.getD i [], hp.mem_iff.2 (getD_mem (by omega)), (hmem i hi _).2 ?_⟩
    rcases hin with k | k
    · exact ⟨_, k, (norm_pair hab).1⟩
    · exact ⟨_, k, (norm_pair hab).2⟩
/-- What the program finds is what the document finds. -/
theorem blks_cls {l : List (Int × Int)} {N : Nat} (hg : GoodGraph N l) {L : List (List (Int × Int))} (h : BlksR (blkD l N) L) : ClsOk (edG N (adj l)) (Twn (AG N (adj l))) L :=
  BlksR.cls (good_gr hg) (blkD_ok hg).1 (blkD_ok hg).2 h
theorem Twn.eqs {N : Nat} {G : Nat → Nat → Bool} (hG : Gr N G) : (∀ e f, e ∈ edG N G → f ∈ edG N G → Twn (AG N G) e f → Twn (AG N G) f e) ∧ ∀ e f g, e ∈ edG N G → f ∈ edG N G → g ∈ edG N G → Twn (AG N G) e f → Twn (AG N G) f g → Twn (AG N G) e g :=
  ⟨fun _ _ _ _ h => h.symm hG.nbs, fun _ _ _ _ hf _ h k => h.trans hG.nbs (edG_isE hf) k⟩

end Go.Proofs.Ytmhcnekbfngafaa
