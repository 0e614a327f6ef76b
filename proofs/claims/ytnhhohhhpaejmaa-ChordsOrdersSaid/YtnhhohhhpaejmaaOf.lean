/- arborref.Of: the graph of a table. -/
import Derived.Test.YtnhhohhhpaejmaaPA
import Derived.Test.YtnhhohhhpaejmaaGridOf
import Derived.Test.YtnhhohhhpaejmaaHasGrid
namespace Go.Proofs.Ytnhhohhhpaejmaa
open Go.RowKit

/-- The function's own: a result, the graph under way. -/
structure OSt (w wr : World) (n : Int) (v : Value) (L : List (Int × Int)) : Prop where
  hb : Below w.heap.size w wr
  r0 : wr.rowIs w.heap.size 24 2 (fun i => if i = 0 then .int .i64 0 else .slice none 0 0)
  out : wr.rowIs (w.heap.size + 1) 24 2 (fun i => if i = 0 then .int .i64 n else v)
  own : OwnE wr (w.heap.size + 2) v L
theorem OSt.start (w : World) (n : Int) : OSt w ((w.alloc (Obj.cells #[.int .i64 0, .slice none 0 0] 24)).alloc (Obj.cells #[.int .i64 n, .slice none 0 0] 24)) n (.slice none 0 0) [] := by
  have h0 := two_row w (.int .i64 0) (.slice none 0 0) 24
  have h2 := two_row (w.alloc (Obj.cells #[.int .i64 0, .slice none 0 0] 24)) (.int .i64 n) (.slice none 0 0) 24
  rw [World.size_alloc] at h2
  exact ⟨below2 _ _ _, h0.alloc _, h2, OwnE.nil _ _⟩
theorem OSt.below {w wr w' : World} {n : Int} {v : Value} {L : List (Int × Int)} (h : OSt w wr n v L) (hb : Below wr.heap.size wr w') : OSt w w' n v L :=
  ⟨h.hb.trans (hb.mono h.hb.size), h.r0.of_block (hb.block _ h.r0.lt), h.out.of_block (hb.block _ h.out.lt), h.own.below hb⟩
theorem OSt.put {w wr w2 : World} {n : Int} {v v2 : Value} {L L2 : List (Int × Int)} (h : OSt w wr n v L) (h2 : OwnE w2 (w.heap.size + 2) v2 L2) (hg : wr.grownBy w2 v.ownBlock) :
    OSt w (w2.setCell ⟨w.heap.size + 1, 1, none⟩ v2) n v2 L2 := by
  have hlo : ∀ g, v.ownBlock = some g → w.heap.size + 2 ≤ g ∧ g < wr.heap.size := fun g e => World.ownsRow.lt h.own g e
  have blk : ∀ q, q < w.heap.size + 2 → w2.heap[q]? = wr.heap[q]? := fun q hq => hg.block q (by have := h.out.lt; omega) (fun e => by have := (hlo q e.symm).1; omega)
  refine ⟨((h.hb.grown hg h.hb.size (fun g e => by have := (hlo g e).1; omega))).setCell (by simp) _, ?_, ?_, h2.set (by omega) _ _⟩
  · exact (h.r0.of_block (blk _ (by omega))).setOther (show w.heap.size ≠ w.heap.size + 1 by omega) _
  · refine ((h.out.of_block (blk _ (by omega))).set 1 _).congr fun i hi => ?_
    by_cases e : i = 1
    · subst e; simp
    · have : i = 0 := by omega
      subst this; simp
theorem OSt.after {w wr w2 : World} {n : Int} {v : Value} {L : List (Int × Int)} (h : OSt w wr n v L) (hg : wr.grownBy w2 v.ownBlock) :
    w2.rowIs (w.heap.size + 1) 24 2 (fun i => if i = 0 then .int .i64 n else v) := by
  have hlo : ∀ g, v.ownBlock = some g → w.heap.size + 2 ≤ g ∧ g < wr.heap.size := fun g e => World.ownsRow.lt h.own g e
  exact h.out.of_block (hg.block _ h.out.lt (fun e => by have := (hlo _ e.symm).1; omega))

/-- The graph of all pairs. -/
def OfPost (n : Nat) (p : Nat → Nat → Bool) (w : World) (e : Ending) (w' : World) : Prop :=
  ∃ v, OwnE w' w.heap.size v (prsTo n p n) ∧ Below w.heap.size w w' ∧ e = .returned (.agg #[.int .i64 (n : Int), v])

set_option maxHeartbeats 3200000 in
set_option maxRecDepth 100000 in
theorem of_any (n : Nat) (p : Nat → Nat → Bool) (s : Value) (w : World) (hn : n ≤ 100) (hg : HasGrid w s n p) :
    Calls Try.prog 20 #[s] w (OfPost n p w) := by
  have Hst := Lib.hid (OSt.start w (n : Int))
  have Hg := Lib.hid hg
  obtain ⟨B, ga, gc, gb, go, R, rfl, -⟩ := hg
  go_enter Try.func20, Try.ntmps20
  go_wp2
  generalize (w.alloc (Obj.cells #[.int .i64 0, .slice none 0 0] 24)).alloc (Obj.cells #[.int .i64 (n : Int), .slice none 0 0] 24) = w1 at *
  go_loopg [4] n (fun gm s1 wr => ∃ (i : Nat) (v : Value), i ≤ n ∧ gm = n - i ∧ s1 = .int .i64 i ∧ OSt w wr (n : Int) v (prsTo n p i))
  case atStart => exact ⟨0, _, Nat.zero_le _, rfl, rfl, Hst.out⟩
  case round =>
    obtain ⟨i, v, hi, rfl, rfl, hm⟩ := hrel
    have Hm := Lib.hid hm
    clear hm
    by_cases hlt : i < n
    · have hs0 : prsTo n p i = prsTo n p i ++ rowTo p i (i + 1) := by rw [rowTo_start, List.append_nil]
      have Hs0 := Lib.hid hs0
      clear hs0
      go_wp2
      obtain ⟨wo, rfl⟩ : ∃ wo : World, wo = wr := ⟨_, rfl⟩
      go_loopg [5] (n - (i + 1)) (fun gm s2 wr => ∃ (j : Nat) (v : Value), i < j ∧ j ≤ n ∧ gm = n - j ∧ s2 = .int .i64 j ∧ OSt w wr (n : Int) v (prsTo n p i ++ rowTo p i j))
      case atStart => exact ⟨i + 1, v, by omega, by omega, rfl, by go_num, by rw [← Hs0.out]; exact Hm.out⟩
      case round =>
        obtain ⟨j, v2, hij, hj, rfl, rfl, hm2⟩ := hrel
        by_cases hlt2 : j < n
        · obtain ⟨b, o, c, r, he, c1, c2⟩ := (Hg.out.below hm2.hb).entry hlt hlt2
          simp only [Value.slice.injEq, true_and] at he
          obtain ⟨rfl, rfl⟩ := he
          cases hp : p i j with
          | true =>
            rw [hp] at c2
            have hyes := rowTo_yes hij hp
            have hlen1 := prsTo_length n p i
            have hlen2 := rowTo_length p i j
            have hlen3 : i * n ≤ 100 * 100 := Nat.mul_le_mul (by omega) (by omega)
            have hlen : (prsTo n p i ++ rowTo p i j).length ≤ 10100 := by rw [List.length_append]; omega
            have hyes2 : prsTo n p i ++ rowTo p i (j + 1) = (prsTo n p i ++ rowTo p i j) ++ [((i : Int), (j : Int))] := by rw [hyes, List.append_assoc]
            obtain ⟨a2, cc2, rfl⟩ := hm2.own.form
            generalize prsTo n p i ++ rowTo p i j = Lc at hm2 hlen hyes2 ⊢
            have Hyes := Lib.hid hyes2
            have co := hm2.out.cell (show 1 < 2 by omega)
            simp only [show ¬ (1 : Nat) = 0 by omega, if_false] at co
            have M3 := Lib.hid (hm2.below (below1 wr (Obj.cells #[.int .i64 (i : Int), .int .i64 (j : Int)] 52)))
            have hbz := M3.out.hb.size
            have hOl := hm2.out.lt
            clear hp hyes hyes2 hlen1 hlen2 hlen3 hm2
            go_wp2_with (at_builtin; refine wpList_append_edges rfl (.tmp 31) (.tmp 35) 22 rfl (w.heap.size + 2) Try.underlying22 info2 _ Lc rfl M3.out.own _ [((i : Int), (j : Int))] rfl (edge_one _ _ _ _ rfl) _ rfl (by simp; omega) (by simp at hbz ⊢; omega) ?_; intro a5 c5 w5 ho5 hg5; have r5 := M3.out.after hg5; have co5 := r5.cell (show 1 < 2 by omega); have fo5 := r5.frozen 1; have lo5 := r5.lt; have Hn := Lib.hid (M3.out.put ho5 hg5); clear hg5 ho5 r5)
            go_roundg (n - (j + 1))
            case measure => go_light; omega
            case rel => exact ⟨j + 1, .slice a5 (Lc.length + 1) c5, by omega, by omega, rfl, by go_num, by have h9 := Hn.out; simp only [List.length_append, List.length_cons, List.length_nil, Nat.zero_add] at h9; rw [Hyes.out]; exact h9⟩
          | false =>
            rw [hp] at c2
            have hno := rowTo_no (p := p) (i := i) (b := j) hp
            have Hno := Lib.hid hno
            have Hm2 := Lib.hid hm2
            clear hp hno hm2
            go_wp2
            go_roundg (n - (j + 1))
            case measure => go_light; omega
            case rel => exact ⟨j + 1, _, by omega, by omega, rfl, by go_num, by rw [Hno.out]; exact Hm2.out⟩
        · obtain rfl : j = n := by omega
          rw [← prsTo_succ] at hm2
          have Hm2 := Lib.hid hm2
          clear hm2
          go_wp2
          go_roundg (j - (i + 1))
          case measure => go_light; omega
          case rel => exact ⟨i + 1, _, by omega, rfl, by go_num, Hm2.out⟩
    · obtain rfl : i = n := by omega
      have hco := Hm.out.out.cell (show 1 < 2 by omega)
      have hcn := Hm.out.out.cell (show 0 < 2 by omega)
      simp only [show ¬ (1 : Nat) = 0 by omega, if_false, if_true] at hco hcn
      obtain ⟨a2, c2, rfl⟩ := Hm.out.own.form
      have r0 := Hm.out.r0
      have l0 := r0.lt
      have lO := Hm.out.out.lt
      have z00 := r0.cell (show 0 < 2 by omega)
      have z01 := r0.cell (show 1 < 2 by omega)
      have f00 := r0.frozen 0
      have f01 := r0.frozen 1
      have ho := Hm.out.own
      have R0 := Lib.hid r0
      have Hb := Lib.hid Hm.out.hb
      have Ho := Lib.hid ho
      clear r0 ho
      go_wp2
      have e0 := ((R0.out.set 0 (.int .i64 (i : Int))).set 1 (.slice a2 (prsTo i p i).length c2)).cell (show 0 < 2 by omega)
      have e1 := ((R0.out.set 0 (.int .i64 (i : Int))).set 1 (.slice a2 (prsTo i p i).length c2)).cell (show 1 < 2 by omega)
      simp only [if_true, show ¬ (1 : Nat) = 0 by omega, show ¬ (0 : Nat) = 1 by omega, if_false] at e0 e1
      have hfin := ((Hb.out.setCell (p := ⟨w.heap.size, 0, none⟩) (Nat.le_refl _) (.int .i64 (i : Int))).setCell (p := ⟨w.heap.size, 1, none⟩) (Nat.le_refl _) (.slice a2 (prsTo i p i).length c2))
      have hoe := ((Ho.out.set (show w.heap.size < w.heap.size + 2 by omega) 0 (.int .i64 (i : Int))).set (show w.heap.size < w.heap.size + 2 by omega) 1 (.slice a2 (prsTo i p i).length c2))
      exact bodyPost_ret (v := .agg #[.int .i64 (i : Int), .slice a2 (prsTo i p i).length c2]) (by simp [results, Try.results20, go_sem, e0, e1]) rfl ⟨_, hoe.low (by omega), hfin, rfl⟩

end Go.Proofs.Ytnhhohhhpaejmaa
