/- arborref.Cuts and Bridges: by counting components without a node, without an edge. -/
import Derived.Test.YtmhcnekbfngafaaShutW
import Derived.Test.YtmhcnekbfngafaaPB
import Derived.Test.YtmhcnekbfngafaaNbRow
namespace Go.Proofs.Ytmhcnekbfngafaa
open Go.RowKit

/-- The nodes below v that cut. -/
noncomputable abbrev cutTo (N : Nat) (G : Nat → Nat → Bool) (v : Nat) : List Nat := (List.range v).filter (cutB N G)
theorem cutTo_succ (N : Nat) (G : Nat → Nat → Bool) (i : Nat) : cutTo N G (i + 1) = cutTo N G i ++ if cutB N G i = true then [i] else [] := by
  unfold cutTo
  rw [List.range_succ, List.filter_append]
  by_cases h : cutB N G i = true <;> simp [h]
theorem partsF_le (N : Nat) (G : Nat → Nat → Bool) (S : Nat → Bool) : partsF N G S ≤ N := cnt_le _ _

set_option maxHeartbeats 3200000 in
set_option maxRecDepth 100000 in
theorem rcuts_any (N : Nat) (G : Nat → Nat → Bool) (gv : Value) (w : World) (hN : N ≤ 100) (hg : HasGrid w gv N G) :
    Calls Try.prog 36 #[gv] w fun e w' => ∃ x, e = .returned x ∧ w'.ownsRow w.heap.size 3 1 x (cutTo N G N).length (nvals (cutTo N G N)) ∧ Below w.heap.size w w' := by
  have HG := Lib.hid hg
  obtain ⟨Bg, ga, gc, gb, go', R0, rfl, -⟩ := hg
  have hp0 := partsF_le N G (fun _ => false)
  go_enter Try.func36, Try.ntmps36
  go_wp2
  go_loopg [3, 4] N (fun g s3 s4 wr => ∃ i : Nat, i ≤ N ∧ g = N - i ∧ s4 = .int .i64 i ∧ wr.ownsRow w.heap.size 3 1 s3 (cutTo N G i).length (nvals (cutTo N G i)) ∧ Below w.heap.size w wr)
  case atStart => exact ⟨0, Nat.zero_le _, rfl, rfl, World.ownsRow_nil _ _ _ _, Below.refl _ _⟩
  case round =>
    obtain ⟨i, hi, rfl, rfl, ho, hb⟩ := hrel
    obtain ⟨a2, c2, rfl⟩ := ownsRow_form ho
    have hz := hb.size
    have Ho := Lib.hid ho; have Hb := Lib.hid hb
    by_cases hlt : i < N
    · have hsu := cutTo_succ N G i
      have hcl : (cutTo N G i).length ≤ 100 := by have := List.length_filter_le (cutB N G) (List.range i); rw [List.length_range] at this; exact Nat.le_trans this (by omega)
      have hp1 := partsF_le N G (shut1 i)
      have HGr := Lib.hid (HG.out.below hb)
      clear ho hb
      go_wp2_with fail
      refine (shut_any N i wr hN hlt).mono ?_
      rintro e w2 ⟨x2, rfl, hs2, hb2⟩
      have Hs2 := Lib.hid hs2; have HG2 := Lib.hid (HGr.out.below hb2); have Hb2 := Lib.hid hb2
      clear hs2 hb2
      go_wp2_with fail
      refine (parts_any N G (shut1 i) _ _ w2 hN HG2.out Hs2.out).mono ?_
      rintro e w3 ⟨rfl, hb3⟩
      have HG3 := Lib.hid (HG2.out.below hb3); have Hb3 := Lib.hid (upb Hb2.out hb3)
      clear hb3
      go_wp2_with fail
      refine (parts_any N G (fun _ => false) _ _ w3 hN HG3.out (HasShut.nil w3)).mono ?_
      rintro e w4 ⟨rfl, hb4⟩
      have Hb4 := Lib.hid (upb Hb3.out hb4)
      have Ho4 := Lib.hid (ownsRow_below Ho.out Hb4.out (Nat.le_refl _))
      have Hbw := Lib.hid (upb Hb.out Hb4.out)
      have hz4 := Hbw.out.size
      clear hb4
      cases hc : cutB N G i with
      | true =>
        rw [if_pos hc] at hsu
        have h1 : (partsF N G (fun _ => false) : Int) < (partsF N G (shut1 i) : Int) := by unfold cutB at hc; have := of_decide_eq_true hc; omega
        generalize partsF N G (fun _ => false) = p0 at *
        generalize partsF N G (shut1 i) = p1 at *
        generalize hcc : cutTo N G i = cc at *
        have Hcc := Lib.hid hcc; have Hsu := Lib.hid hsu
        clear hcc hsu hc
        go_wp2_with (at_builtin; refine wpList_append_has rfl (.tmp 20) (.tmp 22) 39 rfl w.heap.size 3 (.int .i64 0) 8 Try.underlying39 info3 rfl (.slice a2 cc.length c2) cc.length (nvals cc) rfl (Ho4.out.alloc _) _ 1 (nvals [i]) rfl (HasCells.one _ _ _ rfl) (by omega) (by omega) (by simp; omega) ?_; intro a5 c5 w5 ho5 hg5; have Ho5 := Lib.hid ho5; have Hb5 := Lib.hid ((Hbw.out.alloc hz4 (Obj.cells #[.int .i64 (i : Int)] 3)).grown hg5 (by simp; omega) (fun g e => (Ho.out.lt g e).1)); clear ho5 hg5)
        go_roundg (N - (i + 1))
        case measure => go_light; omega
        case rel => exact ⟨i + 1, by omega, rfl, by go_num, by rw [Hsu.out]; have h5 := Ho5.out; simpa [nvals, ints] using h5, Hb5.out⟩
      | false =>
        rw [if_neg (by rw [hc]; simp), List.append_nil] at hsu
        have h1 : ¬ (partsF N G (fun _ => false) : Int) < (partsF N G (shut1 i) : Int) := by unfold cutB at hc; have := of_decide_eq_false hc; omega
        generalize partsF N G (fun _ => false) = p0 at *
        generalize partsF N G (shut1 i) = p1 at *
        have Hsu := Lib.hid hsu
        clear hsu hc
        go_wp2
        go_roundg (N - (i + 1))
        case measure => go_light; omega
        case rel => exact ⟨i + 1, by omega, rfl, by go_num, by rw [Hsu.out]; exact Ho4.out, Hbw.out⟩
    · obtain rfl : N = i := by omega
      go_wp2
      go_ret
      exact ⟨_, rfl, Ho.out, Hb.out⟩

/-- The bridges among the first k edges. -/
noncomputable abbrev briTo (N : Nat) (G : Nat → Nat → Bool) (k : Nat) : List (Int × Int) := ((edG N G).take k).filter (bridgeB N G)
theorem briTo_succ {N : Nat} {G : Nat → Nat → Bool} {k : Nat} {x y : Int} (hk : k < (edG N G).length) (he : (edG N G).getD k (0, 0) = (x, y)) : briTo N G (k + 1) = briTo N G k ++ if bridgeB N G (x, y) = true then [(x, y)] else [] := by
  unfold briTo
  rw [take_snoc hk he, List.filter_append]
  by_cases h : bridgeB N G (x, y) = true <;> simp [h]
theorem briTo_len (N : Nat) (G : Nat → Nat → Bool) (k : Nat) : (briTo N G k).length ≤ (edG N G).length := by
  unfold briTo
  exact Nat.le_trans (List.length_filter_le _ _) (by rw [List.length_take]; omega)

set_option maxHeartbeats 3200000 in
set_option maxRecDepth 100000 in
theorem rbridges_any (N : Nat) (G : Nat → Nat → Bool) (gv : Value) (w : World) (hN : N ≤ 100) (hg : HasGrid w gv N G) (hG : Gr N G) :
    Calls Try.prog 35 #[gv] w fun e w' => ∃ x, e = .returned x ∧ OwnE w' w.heap.size x ((edG N G).filter (bridgeB N G)) ∧ Below w.heap.size w w' := by
  have HG := Lib.hid hg
  have HGr := Lib.hid hG
  obtain ⟨Bg, ga, gc, gb, go', R0, rfl, -⟩ := hg
  have hp0 := partsF_le N G (fun _ => false)
  clear hG
  go_enter Try.func35, Try.ntmps35
  go_wp2_with fail
  refine (of_any N G _ _ hN HG.out).mono ?_
  rintro e w2 ⟨v2, ho2, hb2, rfl⟩
  have hplen : (edG N G).length ≤ N * N := prsTo_length N G N
  have hlen : (edG N G).length ≤ 10000 := by
    have : N * N ≤ 100 * 100 := Nat.mul_le_mul hN hN
    omega
  obtain ⟨ad, cap, bb, o, e0, hcap, hmax, hadr, -, hcell⟩ := ho2.edges
  subst e0
  have HG2 := Lib.hid (HG.out.below hb2)
  have Hb2 := Lib.hid hb2
  have Hn := Lib.hid (briTo_len N G)
  clear ho2 hb2 hplen
  obtain ⟨M, hM⟩ : ∃ M, (edG N G).length = M := ⟨_, rfl⟩
  have HM := Lib.hid hM
  rw [hM] at hlen Hn hcap hadr hcell ⊢
  clear hM
  have hfe : (Instr.field 24 (.agg #[.int .i64 (N : Int), .slice ad M cap]) 1).run Try.prog w2 = .ok (.slice ad M cap) w2 := by kernel_rfl
  go_wp2
  clear hfe
  go_loopg [3, 5] M (fun g s3 s5 wr => ∃ k : Nat, k ≤ M ∧ g = M - k ∧ s5 = .int .i64 k ∧ OwnE wr w2.heap.size s3 (briTo N G k) ∧ Below w2.heap.size w2 wr)
  case atStart => exact ⟨0, Nat.zero_le _, rfl, rfl, OwnE.nil _ _, Below.refl _ _⟩
  case round =>
    obtain ⟨k, hk, rfl, rfl, ho, hb⟩ := hrel
    obtain ⟨a3, c3, rfl⟩ := ho.form
    have Ho := Lib.hid ho; have Hb := Lib.hid hb
    have hz := hb.size
    have hbl := Hn.out k
    by_cases hlt : k < M
    · obtain rfl := hadr (by omega)
      have hcell2 : ∀ j, j < (edG N G).length → w2.cell? ⟨bb, o + j * 2, none⟩ = some (.int .i64 ((edG N G).getD j (0, 0)).1) ∧ w2.cell? ⟨bb, o + j * 2 + 1, none⟩ = some (.int .i64 ((edG N G).getD j (0, 0)).2) := by rw [HM.out]; exact hcell
      obtain ⟨u, v, Hu, cu, cv⟩ := edges_at hcell2 hb (by rw [HM.out]; exact hlt)
      clear hcell2
      have hmem : ((edG N G).getD k (0, 0)) ∈ edG N G := atE_mem (by rw [HM.out]; exact hlt)
      rw [Hu.out] at hmem
      obtain ⟨a, b, hab, hA, e⟩ := edG_iff.1 hmem
      simp only [Prod.mk.injEq] at e
      obtain ⟨rfl, rfl⟩ := e
      have hsu := briTo_succ (by rw [HM.out]; exact hlt) Hu.out
      have HGw := Lib.hid (HG2.out.below hb)
      have hp1 := partsF_le N (lessG G a b) (fun _ => false)
      clear ho hb hmem
      go_wp2_with fail
      refine (without_any N G (a : Int) (b : Int) _ wr hN HGw.out).mono ?_
      rintro e w3 ⟨v3, rfl, hg3, hb3⟩
      have Hg3 := Lib.hid (hg3.congr fun i j hi hj => but_less HGr.out hab hi hj)
      have HG3 := Lib.hid (HGw.out.below hb3); have Hb3 := Lib.hid hb3
      clear hg3 hb3
      go_wp2_with fail
      refine (parts_any N (lessG G a b) (fun _ => false) _ _ w3 hN Hg3.out (HasShut.nil w3)).mono ?_
      rintro e w4 ⟨rfl, hb4⟩
      have HG4 := Lib.hid (HG3.out.below hb4); have Hb4 := Lib.hid (upb Hb3.out hb4)
      clear hb4
      go_wp2_with fail
      refine (parts_any N G (fun _ => false) _ _ w4 hN HG4.out (HasShut.nil w4)).mono ?_
      rintro e w5 ⟨rfl, hb5⟩
      have Hb5 := Lib.hid (upb Hb4.out hb5)
      have Ho5 := Lib.hid (Ho.out.below Hb5.out)
      have Hbw := Lib.hid (upb Hb.out Hb5.out)
      have Ho5a := Lib.hid (Ho5.out.below (below1 w5 (Obj.cells #[.int .i64 (a : Int), .int .i64 (b : Int)] 61)))
      have Hbwa := Lib.hid (upb Hbw.out (below1 w5 (Obj.cells #[.int .i64 (a : Int), .int .i64 (b : Int)] 61)))
      have hz5 := Hbwa.out.size
      have cu := below_cell Hb5.out cu
      have cv := below_cell Hb5.out cv
      clear hb5
      cases hc : bridgeB N G ((a : Int), (b : Int)) with
      | true =>
        rw [if_pos hc] at hsu
        have h1 : (partsF N G (fun _ => false) : Int) < (partsF N (lessG G a b) (fun _ => false) : Int) := by unfold bridgeB at hc; have := of_decide_eq_true hc; simp only [Int.toNat_natCast] at this; omega
        generalize partsF N G (fun _ => false) = p0 at *
        generalize partsF N (lessG G a b) (fun _ => false) = p1 at *
        generalize hcc : briTo N G k = cc at *
        have Hcc := Lib.hid hcc; have Hsu := Lib.hid hsu
        clear hcc hsu hc
        go_wp2_with (at_builtin; refine wpList_append_edges rfl (.tmp 25) (.tmp 30) 22 rfl w2.heap.size Try.underlying22 info2 _ cc rfl Ho5a.out _ [((a : Int), (b : Int))] rfl (edge_one _ _ _ _ rfl) _ rfl (by simp; omega) hz5 ?_; intro a6 c6 w6 ho6 hg6; have Ho6 := Lib.hid ho6; have Hb6 := Lib.hid (Hbwa.out.grown hg6 (by simpa using hz5) (fun g e => (World.ownsRow.lt Ho5a.out g e).1)); clear hg6 ho6)
        go_roundg (M - (k + 1))
        case measure => go_light; omega
        case rel => exact ⟨k + 1, by omega, rfl, by go_num, by have h9 := Ho6.out; rw [Hsu.out]; simpa only [List.length_append, List.length_cons, List.length_nil, Nat.zero_add] using h9, Hb6.out⟩
      | false =>
        rw [if_neg (by rw [hc]; simp), List.append_nil] at hsu
        have h1 : ¬ (partsF N G (fun _ => false) : Int) < (partsF N (lessG G a b) (fun _ => false) : Int) := by unfold bridgeB at hc; have := of_decide_eq_false hc; simp only [Int.toNat_natCast] at this; omega
        generalize partsF N G (fun _ => false) = p0 at *
        generalize partsF N (lessG G a b) (fun _ => false) = p1 at *
        have Hsu := Lib.hid hsu
        clear hsu hc
        go_wp2
        go_roundg (M - (k + 1))
        case measure => go_light; omega
        case rel => exact ⟨k + 1, by omega, rfl, by go_num, by rw [Hsu.out]; exact Ho5.out, Hbw.out⟩
    · obtain rfl : M = k := by omega
      have e : briTo N G M = (edG N G).filter (bridgeB N G) := by unfold briTo; rw [← HM.out, List.take_length]
      rw [e] at Ho ho ⊢
      clear ho hb
      go_wp2
      go_ret
      exact ⟨_, rfl, Ho.out.low Hb2.out.size, upb Hb2.out Hb.out⟩

end Go.Proofs.Ytmhcnekbfngafaa
