/- arborref.Without: a table without an edge. A table without an edge. No walk of its own. -/
import Derived.Test.YtnmljgjegodkaaaOf
import Derived.Test.YtnmljgjegodkaaaGridOf
import Derived.Test.YtnmljgjegodkaaaPairEq
import Derived.Test.YtnmljgjegodkaaaFormP
import Derived.Test.YtnmljgjegodkaaaPF
import Derived.BigQuiet
import Derived.Test.YtnmljgjegodkaaaPA
namespace Go.Proofs.Ytnmljgjegodkaaa
open Go.RowKit

/-- All but one. -/
def butE (L : List (Int × Int)) (x y : Int) : List (Int × Int) := L.filter fun e => decide (e ≠ (x, y))
theorem butE_yes {L : List (Int × Int)} {k : Nat} {x y u v : Int} (hk : k < L.length) (he : L.getD k (0, 0) = (u, v)) (h : ¬ (u = x ∧ v = y)) : butE (L.take (k + 1)) x y = butE (L.take k) x y ++ [(u, v)] := by
  rw [take_snoc hk he]
  unfold butE
  rw [List.filter_append]
  have : decide (((u, v) : Int × Int) ≠ (x, y)) = true := decide_eq_true fun e => h (by cases e; exact ⟨rfl, rfl⟩)
  simp only [List.filter_cons, this, if_true, List.filter_nil]
theorem butE_no {L : List (Int × Int)} {k : Nat} {x y u v : Int} (hk : k < L.length) (he : L.getD k (0, 0) = (u, v)) (h : u = x ∧ v = y) : butE (L.take (k + 1)) x y = butE (L.take k) x y := by
  rw [take_snoc hk he]
  unfold butE
  rw [List.filter_append]
  obtain ⟨rfl, rfl⟩ := h
  simp
theorem butE_len (L : List (Int × Int)) (x y : Int) (k : Nat) : (butE (L.take k) x y).length ≤ L.length := by
  unfold butE
  exact Nat.le_trans (List.length_filter_le _ _) (by rw [List.length_take]; omega)

set_option maxHeartbeats 3200000 in
set_option maxRecDepth 100000 in
theorem without_any (N : Nat) (G : Nat → Nat → Bool) (x y : Int) (s : Value) (w : World) (hN : N ≤ 100) (hg : HasGrid w s N G) :
    Calls Try.prog 56 #[s, .agg #[.int .i64 x, .int .i64 y]] w fun e w' => ∃ v, e = .returned v ∧ HasGrid w' v N (adj (butE (prsTo N G N) x y)) ∧ Below w.heap.size w w' := by
  obtain ⟨ag, kg, rfl⟩ := hg.form
  have hb1 := below1 w (Obj.cells #[.int .i64 x, .int .i64 y] 78)
  have c0 := two_cells w (.int .i64 x) (.int .i64 y) 78
  have HG := Lib.hid (hg.below hb1)
  have Hb1 := Lib.hid hb1
  have C0 := Lib.hid c0
  clear hg hb1 c0
  go_enter Try.func56, Try.ntmps56
  go_upto_region 1 with fail
  generalize w.alloc (Obj.cells #[.int .i64 x, .int .i64 y] 78) = w1 at *
  go_wp2_with fail
  refine (of_any N G _ _ hN HG.out).mono ?_
  rintro e w2 ⟨v2, ho2, hb2, rfl⟩
  have hplen := prsTo_length N G N
  have hends := prs_ends (N := N) (p := G)
  have Hends := Lib.hid hends
  generalize hLe : prsTo N G N = L at *
  have HLe := Lib.hid hLe
  clear hLe
  obtain ⟨a2, k2, rfl⟩ := ho2.form
  have hlen : L.length ≤ 10000 := by
    have : N * N ≤ 100 * 100 := Nat.mul_le_mul hN hN
    omega
  have e3 := two_cells w2 (.int .i64 (N : Int)) (.slice a2 L.length k2) 24
  have b3 := upb hb2 (below1 w2 (Obj.cells #[.int .i64 (N : Int), .slice a2 L.length k2] 24))
  have He := Lib.hid (ho2.edges.below (below1 w2 (Obj.cells #[.int .i64 (N : Int), .slice a2 L.length k2] 24)))
  have E3 := Lib.hid e3
  have B3 := Lib.hid (upb Hb1.out b3)
  have X3 := Lib.hid (And.intro (below_cell b3 C0.out.1) (below_cell b3 C0.out.2))
  clear ho2 hb2 e3 b3 hplen hends
  go_upto_region 4 with fail
  generalize w2.alloc (Obj.cells #[.int .i64 (N : Int), .slice a2 L.length k2] 24) = w3 at *
  generalize w2.heap.size = P at *
  obtain ⟨ad, cap, bb, o, e0, hcap, hmax, hadr, -, hcell⟩ := He.out
  simp only [Value.slice.injEq] at e0
  obtain ⟨rfl, -, rfl⟩ := e0
  go_loopg [6, 7] L.length (fun g s6 s7 wr => ∃ k : Nat, k ≤ L.length ∧ g = L.length - k ∧ s7 = .int .i64 k ∧ OwnE wr w3.heap.size s6 (butE (L.take k) x y) ∧ Below w3.heap.size w3 wr)
  case atStart => exact ⟨0, Nat.zero_le _, rfl, rfl, OwnE.nil _ _, Below.refl _ _⟩
  case round =>
    obtain ⟨k, hk, rfl, rfl, ho, hb⟩ := hrel
    have g0 := below_cell hb E3.out.1
    have g1 := below_cell hb E3.out.2
    have hPl := World.block_lt_of_cell? _ _ g0
    simp only at hPl
    obtain ⟨a6, k6, rfl⟩ := ho.form
    have Ho := Lib.hid ho
    have Hb := Lib.hid hb
    have hbl := butE_len L x y k
    by_cases hlt : k < L.length
    · obtain rfl := hadr (by omega)
      obtain ⟨u, v, Hu, cu, cv⟩ := edges_at hcell hb hlt
      have cx := below_cell hb X3.out.1
      have cy := below_cell hb X3.out.2
      have hpe := pair_neq
      have lA := hb.size
      clear ho hb
      by_cases huv : u = x ∧ v = y
      · have hq1 : decide (u = x ∧ v = y) = true := decide_eq_true huv
        have Hst := Lib.hid (butE_no (L := L) hlt Hu.out huv)
        clear huv
        go_upto_region 6 with fail
        go_quiet (fail)
        have hq := Below.drewN' (Below.refl wr.heap.size wr) nq
        have HoB := Lib.hid (Ho.out.below hq)
        have HbB := Lib.hid (upb Hb.out hq)
        clear hq cu cv cx cy g0 g1 hPl lA
        generalize wr.drewN nq = wB at *
        go_wp2
        go_roundg (L.length - (k + 1))
        case measure => go_light; omega
        case rel => exact ⟨k + 1, by omega, rfl, by go_num, by rw [Hst.out]; exact HoB.out, HbB.out⟩
      · have hq1 : decide (u = x ∧ v = y) = false := decide_eq_false huv
        have Hst := Lib.hid (butE_yes (L := L) hlt Hu.out huv)
        clear huv
        go_upto_region 6 with fail
        go_quiet (fail)
        have hq := Below.drewN' (Below.refl wr.heap.size wr) nq
        have HoB := Lib.hid (Ho.out.below (hq.trans ((below1 (wr.drewN nq) (Obj.cells #[.int .i64 u, .int .i64 v] 78)).mono hq.size)))
        have HbB := Lib.hid (upb Hb.out (hq.trans ((below1 (wr.drewN nq) (Obj.cells #[.int .i64 u, .int .i64 v] 78)).mono hq.size)))
        have g1 := below_cell hq g1
        have cu := below_cell hq cu
        have cv := below_cell hq cv
        have hszB := HbB.out.size
        clear hq cx cy g0 hPl lA hpe
        generalize wr.drewN nq = wB at *
        generalize butE (L.take k) x y = Lc at *
        go_wp2_with (at_builtin; refine wpList_append_edges rfl (.tmp 24) (.tmp 30) 22 rfl w3.heap.size Try.underlying22 info2 _ Lc rfl HoB.out _ [(u, v)] rfl (edge_one _ _ _ _ rfl) _ rfl (by simp; omega) hszB ?_; intro a5 c5 w5 ho5 hg5; have Hn := Lib.hid ho5; have Hbn := Lib.hid (HbB.out.grown hg5 (by simpa using hszB) (fun g e => (World.ownsRow.lt HoB.out g e).1)); clear hg5 ho5)
        go_roundg (L.length - (k + 1))
        case measure => go_light; omega
        case rel => exact ⟨k + 1, by omega, rfl, by go_num, by have h9 := Hn.out; rw [Hst.out]; simpa only [List.length_append, List.length_cons, List.length_nil, Nat.zero_add] using h9, Hbn.out⟩
    · obtain rfl : L.length = k := by omega
      rw [List.take_length] at ho
      have he := ho.edges
      have hbl2 : (butE (L.take L.length) x y).length = (butE L x y).length := by rw [List.take_length]
      have Hok := Lib.hid (fun j (hj : j < (butE L x y).length) => show EndsOk (N : Int) ((butE L x y).getD j (0, 0)) ∧ ((butE L x y).getD j (0, 0)).1 ≠ ((butE L x y).getD j (0, 0)).2 from by
        have h0 : (butE L x y).getD j (0, 0) = (butE L x y)[j] := by simp [List.getD, hj]
        have h1 := Hends.out _ (List.mem_filter.1 (List.getElem_mem hj)).1
        rw [h0]
        unfold EndsOk
        omega)
      rw [hbl2] at *
      have He2 := Lib.hid he
      have Hb3 := Lib.hid (upb B3.out hb)
      clear ho hb he hbl hbl2 Ho
      go_wp2_with fail
      refine (gridOf_any (butE L x y) N _ _ He2.out hN Hok.out).mono ?_
      rintro e w9 ⟨v9, rfl, hg9, hb9⟩
      go_wp2
      go_ret
      exact ⟨v9, rfl, ⟨_, by rw [HLe.out]; exact hg9⟩, upb Hb3.out hb9⟩

end Go.Proofs.Ytnmljgjegodkaaa
namespace Go.Proofs.Ytnmljgjegodkaaa
open Go.RowKit

theorem HasGrid.congr {w : World} {v : Value} {n : Nat} {G H : Nat → Nat → Bool} (h : HasGrid w v n G) (e : ∀ i j, i < n → j < n → G i j = H i j) : HasGrid w v n H := by
  obtain ⟨B, a, cap, b, o, R, h1, h2, h3, h4⟩ := h
  exact ⟨B, a, cap, b, o, R, h1, h2, h3, h4.congr e⟩
/-- Without an edge: as the law has it. -/
theorem but_less {N : Nat} {G : Nat → Nat → Bool} (hG : Gr N G) {a b : Nat} (hab : a < b) {i j : Nat} (hi : i < N) (hj : j < N) : adj (butE (edG N G) (a : Int) (b : Int)) i j = lessG G a b i j := by
  rw [Bool.eq_iff_iff]
  unfold adj hasE lessG
  rw [List.any_eq_true]
  simp only [decide_eq_true_eq, Bool.and_eq_true, Bool.not_eq_true', Bool.or_eq_false_iff, decide_eq_false_iff_not]
  constructor
  · rintro ⟨e, he, hm⟩
    unfold butE at he
    rw [List.mem_filter] at he
    obtain ⟨x, y, hxy, hA, rfl⟩ := edG_iff.1 he.1
    have hne : ¬ (x = a ∧ y = b) := fun k => by have := of_decide_eq_true he.2; rw [k.1, k.2] at this; exact this rfl
    unfold Meets at hm
    simp only at hm
    have hm2 : (x = i ∧ y = j) ∨ (x = j ∧ y = i) := by omega
    rcases hm2 with ⟨rfl, rfl⟩ | ⟨rfl, rfl⟩
    · exact ⟨hA.2.2, hne, by omega⟩
    · exact ⟨(hG.nbs.sym _ _ hA).2.2, by omega, fun k => hne ⟨k.2, k.1⟩⟩
  · rintro ⟨hg, h1, h2⟩
    have hA : AG N G i j := ⟨hi, hj, hg⟩
    have hne : i ≠ j := fun e => hG.nbs.irr i (by rw [← e] at hA; exact hA)
    rcases Nat.lt_or_gt_of_ne hne with k | k
    · exact ⟨((i : Int), (j : Int)), List.mem_filter.2 ⟨edG_iff.2 ⟨i, j, k, hA, rfl⟩, decide_eq_true fun e => h1 (by simp only [Prod.mk.injEq, Int.ofNat_inj] at e; exact e)⟩, .inl ⟨rfl, rfl⟩⟩
    · exact ⟨((j : Int), (i : Int)), List.mem_filter.2 ⟨edG_iff.2 ⟨j, i, k, hG.nbs.sym _ _ hA, rfl⟩, decide_eq_true fun e => h2 (by simp only [Prod.mk.injEq, Int.ofNat_inj] at e; exact ⟨e.2, e.1⟩)⟩, .inr ⟨rfl, rfl⟩⟩

end Go.Proofs.Ytnmljgjegodkaaa
