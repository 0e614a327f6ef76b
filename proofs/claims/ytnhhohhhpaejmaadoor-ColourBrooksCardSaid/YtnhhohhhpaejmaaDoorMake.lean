/- graph.Make: edges normed and in order. -/
import Derived.Test.YtnhhohhhpaejmaaDoorOrder
import Derived.Test.YtnhhohhhpaejmaaDoorPD
namespace Go.Proofs.YtnhhohhhpaejmaaDoor
open Go.RowKit Go.Sort

/-- The function's own: the result, the graph under way. -/
structure MkSt (w wr : World) (n : Int) (v : Value) (L : List (Int × Int)) : Prop where
  hb : Below w.heap.size w wr
  r0 : wr.rowIs w.heap.size 24 2 (fun i => if i = 0 then .int .i64 0 else .slice none 0 0)
  out : wr.rowIs (w.heap.size + 1) 24 2 (fun i => if i = 0 then .int .i64 n else v)
  own : OwnE wr (w.heap.size + 2) v L
theorem MkSt.start (w : World) (n : Int) : MkSt w ((w.alloc (Obj.cells #[.int .i64 0, .slice none 0 0] 24)).alloc (Obj.cells #[.int .i64 n, .slice none 0 0] 24)) n (.slice none 0 0) [] := by
  have h0 := two_row w (.int .i64 0) (.slice none 0 0) 24
  have h1 := two_row (w.alloc (Obj.cells #[.int .i64 0, .slice none 0 0] 24)) (.int .i64 n) (.slice none 0 0) 24
  rw [World.size_alloc] at h1
  exact ⟨below2 _ _ _, h0.alloc _, h1, OwnE.nil _ _⟩
theorem MkSt.below {w wr w' : World} {n : Int} {v : Value} {L : List (Int × Int)} (h : MkSt w wr n v L) (hb : Below wr.heap.size wr w') : MkSt w w' n v L :=
  ⟨h.hb.trans (hb.mono h.hb.size), h.r0.of_block (hb.block _ h.r0.lt), h.out.of_block (hb.block _ h.out.lt), h.own.below hb⟩
theorem MkSt.grown {w wr w2 : World} {n : Int} {v v2 : Value} {L L2 : List (Int × Int)} (h : MkSt w wr n v L) (h2 : OwnE w2 (w.heap.size + 2) v2 L2) (hg : wr.grownBy w2 v.ownBlock) :
    Below w.heap.size w w2 ∧ w2.rowIs w.heap.size 24 2 (fun i => if i = 0 then .int .i64 0 else .slice none 0 0) ∧ w2.rowIs (w.heap.size + 1) 24 2 (fun i => if i = 0 then .int .i64 n else v) := by
  have hlo : ∀ g, v.ownBlock = some g → w.heap.size + 2 ≤ g ∧ g < wr.heap.size := fun g e => World.ownsRow.lt h.own g e
  have blk : ∀ q, q < w.heap.size + 2 → w2.heap[q]? = wr.heap[q]? := fun q hq => hg.block q (by have := h.out.lt; omega) (fun e => by have := (hlo q e.symm).1; omega)
  exact ⟨h.hb.grown hg h.hb.size (fun g e => by have := (hlo g e).1; omega), h.r0.of_block (blk _ (by omega)), h.out.of_block (blk _ (by omega))⟩
theorem MkSt.put {w wr w2 : World} {n : Int} {v v2 : Value} {L L2 : List (Int × Int)} (h : MkSt w wr n v L) (h2 : OwnE w2 (w.heap.size + 2) v2 L2) (hg : wr.grownBy w2 v.ownBlock) :
    MkSt w (w2.setCell ⟨w.heap.size + 1, 1, none⟩ v2) n v2 L2 := by
  obtain ⟨b, r0, out⟩ := h.grown h2 hg
  refine ⟨b.setCell (by simp) _, r0.setOther (show w.heap.size ≠ w.heap.size + 1 by omega) _, ?_, h2.set (by omega) _ _⟩
  refine (out.set 1 _).congr fun i hi => ?_
  by_cases e : i = 1
  · subst e; simp
  · have : i = 0 := by omega
    subst this; simp

/-- What graph.Make answers. -/
def MakePost (n : Int) (l : List (Int × Int)) (w : World) (e : Ending) (w' : World) : Prop :=
  ∃ v L, OwnE w' w.heap.size v L ∧ Below w.heap.size w w' ∧ e = .returned (.agg #[.int .i64 n, v]) ∧ L.Perm (l.map norm) ∧ L.Pairwise fun a b => ¬ LexLt b a

theorem norm_snoc {l : List (Int × Int)} {k : Nat} {x y : Int} (hk : k < l.length) (he : l.getD k (0, 0) = (x, y)) : (l.take (k + 1)).map norm = (l.take k).map norm ++ [norm (x, y)] := by
  rw [take_snoc hk he, List.map_append]; rfl

/-- slices.SortFunc over the edges of one's own. -/
theorem sortE_any {w : World} {base g cap : Nat} {L : List (Int × Int)} (h : OwnE w base (.slice (some ⟨g, 0, none⟩) L.length cap) L) (hl : L.length ≤ 100000) :
    Calls Tryd.prog 50 #[.slice (some ⟨g, 0, none⟩) L.length cap, .func (.func 51) #[] #[]] w fun e w' => e = .returned (.tuple #[]) ∧
      ∃ L', OwnE w' base (.slice (some ⟨g, 0, none⟩) L.length cap) L' ∧ w.grownBy w' (some g) ∧ L'.length = L.length ∧ L'.Perm L ∧ L'.Pairwise fun a b => ¬ LexLt b a := by
  have eg : ∀ args w, (callFunc 51 args).run Tryd.prog w = .ok (.enter 51 args) w := enters_of Tryd.func51 (by kernel_rfl) rfl
  have hg : g < w.heap.size := World.ownsRow.lt h g rfl |>.2
  have hcon := Tryd.slices_SortFunc 2 Tryd.isAgg39 Tryd.sizeOf39 encE (fun _ => rfl) (fun x v hv => by simp [encE] at hv; rcases hv with rfl | rfl <;> rfl) cmpE cmpE_swo 51 #[] g 0 cap L.toArray w eg
    (fun _ _ _ _ x y => order_any x.1 x.2 y.1 y.2 _) h.holds hg (by simp; omega)
  rw [List.size_toArray] at hcon
  refine hcon.mono ?_
  rintro e w' ⟨rfl, d', n, os, hp, hs, rfl⟩
  obtain ⟨L', rfl, h1, h2, h3⟩ := sorted_list (by simpa using hp) (by simpa using hs)
  obtain ⟨k1, k2⟩ := h.sorted h1 n os
  exact ⟨rfl, L', k1, k2, h1, h2, h3⟩
theorem sortE_all {w : World} {base : Nat} {v : Value} {L : List (Int × Int)} (h : OwnE w base v L) (hl : L.length ≤ 100000) :
    Calls Tryd.prog 50 #[v, .func (.func 51) #[] #[]] w fun e w' => e = .returned (.tuple #[]) ∧
      ∃ L', OwnE w' base v L' ∧ w.grownBy w' v.ownBlock ∧ L'.length = L.length ∧ L'.Perm L ∧ L'.Pairwise fun a b => ¬ LexLt b a := by
  have h0 : w.ownsRow base 39 2 v L.length (cells2 L) := h
  rcases h0.2 with ⟨rfl, h2⟩ | ⟨g, cap, cur, rfl, -⟩
  · obtain rfl : L = [] := List.eq_nil_of_length_eq_zero h2
    have hcon : Calls Tryd.prog 50 #[.slice none 0 0, .func (.func 51) #[] #[]] w fun e w' => e = .returned (.tuple #[]) ∧ w' = w := by
      first
        | exact Tryd.slices_SortFunc_none_f50 (α := Int × Int) none 0 _ w
        | exact Tryd.slices_SortFunc_none (α := Int × Int) none 0 _ w
    refine hcon.mono ?_
    rintro e w' ⟨rfl, rfl⟩
    exact ⟨rfl, [], h, ⟨rfl, rfl, rfl, Nat.le_refl _, fun _ _ _ => rfl⟩, rfl, List.Perm.refl _, List.Pairwise.nil⟩
  · exact sortE_any h hl

set_option maxHeartbeats 3200000 in
set_option maxRecDepth 100000 in
theorem make_any (l : List (Int × Int)) (n : Int) (s : Value) (w : World) (h : IsEdges w s l) (hl : l.length ≤ 100000) :
    Calls Tryd.prog 37 #[.int .i64 n, s] w (MakePost n l w) := by
  obtain ⟨ad, cap, bb, o, rfl, hcap, hmax, hadr, -, hcell⟩ := h
  have Hst := Lib.hid (MkSt.start w n)
  go_enter Tryd.func37, Tryd.ntmps37
  go_wp2
  generalize (w.alloc (Obj.cells #[.int .i64 0, .slice none 0 0] 24)).alloc (Obj.cells #[.int .i64 n, .slice none 0 0] 24) = w1 at *
  go_loopg [12] l.length (fun g s12 wr => ∃ (k : Nat) (v : Value), k ≤ l.length ∧ g = l.length - k ∧ s12 = .int .i64 k ∧ MkSt w wr n v ((l.take k).map norm))
  case atStart => exact ⟨0, _, Nat.zero_le _, rfl, rfl, Hst.out⟩
  case round =>
    obtain ⟨k, v, hk, rfl, rfl, hm⟩ := hrel
    by_cases hlt : k < l.length
    · obtain rfl := hadr (by omega)
      obtain ⟨x, y, He, cx, cy⟩ := edges_at hcell hm.hb hlt
      have hs := norm_snoc hlt He.out
      have hlen : ((l.take k).map norm).length ≤ 100000 := by simp; omega
      obtain ⟨a2, c2, rfl⟩ := hm.own.form
      have hpq : norm (x, y) = (min x y, max x y) := by
        unfold norm; simp only [Prod.mk.injEq]; by_cases e : x ≤ y
        · rw [if_pos e, if_pos e]; omega
        · rw [if_neg e, if_neg e]; omega
      have mn : (if y < x then y else x) = min x y := by split <;> omega
      have mx : (if x < y then y else x) = max x y := by split <;> omega
      rw [hpq] at hs
      have M3 := Lib.hid (hm.below (below2 wr (Obj.cells #[.int .i64 x, .int .i64 y] 39) (Obj.cells #[.int .i64 (min x y), .int .i64 (max x y)] 39)))
      have hbz := M3.out.hb.size
      have hco := hm.out.cell (show 1 < 2 by omega)
      have hco2 := M3.out.out.cell (show 1 < 2 by omega)
      have hOl := hm.out.lt
      simp only [show ¬ (1 : Nat) = 0 by omega, if_false] at hco hco2
      generalize (l.take k).map norm = Lc at *
      have Hs := Lib.hid hs
      have Hm := Lib.hid hm
      clear hs hm hcell hadr hpq
      go_wp2_with (at_builtin; refine wpList_append_edges rfl (.tmp 17) (.tmp 29) 22 rfl (w.heap.size + 2) Tryd.underlying22 info2 _ Lc rfl M3.out.own _ [(min x y, max x y)] rfl (edge_one _ _ _ _ (by simp)) _ rfl (by simp; omega) (by simp at hbz ⊢; omega) ?_; intro a5 c5 w5 ho5 hg5; obtain ⟨b5, r5, o5⟩ := M3.out.grown ho5 hg5; have co5 := o5.cell (show 1 < 2 by omega); have fo5 := o5.frozen 1; have lo5 := o5.lt; have Hn := Lib.hid (M3.out.put ho5 hg5); clear hg5 ho5 r5 o5 b5)
      go_roundg (l.length - (k + 1))
      case measure => go_light; omega
      case rel => exact ⟨k + 1, .slice a5 (Lc.length + 1) c5, by omega, rfl, by go_num, by have h9 := Hn.out; simp only [List.length_append, List.length_cons, List.length_nil, Nat.zero_add] at h9; rw [Hs.out]; exact h9⟩
    · obtain rfl : k = l.length := by omega
      rw [List.take_length] at hm
      have hlen : (l.map norm).length ≤ 100000 := by simp; omega
      generalize hL : l.map norm = L at *
      have HL := Lib.hid hL
      clear hL hcell hadr
      obtain ⟨a2, c2, rfl⟩ := hm.own.form
      have hco := hm.out.cell (show 1 < 2 by omega)
      simp only [show ¬ (1 : Nat) = 0 by omega, if_false] at hco
      have Hm := Lib.hid hm
      clear hm
      go_wp2_with (go_at_call 50; refine (sortE_all Hm.out.own hlen).mono ?_; rintro e w2 ⟨rfl, L', ho, hg, hl2, hp, hr⟩; obtain ⟨b2, r2, o2⟩ := Hm.out.grown ho hg; obtain ⟨y0, y1, g0, g1, l1⟩ := row_facts o2; obtain ⟨z0, z1, f0, f1, l0⟩ := row_facts r2; have Ho := Lib.hid ho; have B2 := Lib.hid b2; have R2 := Lib.hid r2; have Hp := Lib.hid hp; have Hr := Lib.hid hr; have Hl2 := Lib.hid hl2; clear ho b2 r2 o2 hg hp hr hl2)
      have e := (R2.out.set 0 (.int .i64 n)).set 1 (.slice a2 L.length c2)
      have e0 := e.cell (show 0 < 2 by omega)
      have e1 := e.cell (show 1 < 2 by omega)
      simp only [if_true, show ¬ (1 : Nat) = 0 by omega, show ¬ (0 : Nat) = 1 by omega, if_false] at e0 e1
      have hfin := (B2.out.setCell (p := ⟨w.heap.size, 0, none⟩) (Nat.le_refl _) (.int .i64 n)).setCell (p := ⟨w.heap.size, 1, none⟩) (Nat.le_refl _) (.slice a2 L.length c2)
      have hoe := ((Ho.out.set (show w.heap.size < w.heap.size + 2 by omega) 0 (.int .i64 n)).set (show w.heap.size < w.heap.size + 2 by omega) 1 (.slice a2 L.length c2)).low (show w.heap.size ≤ w.heap.size + 2 by omega)
      exact bodyPost_ret (v := .agg #[.int .i64 n, .slice a2 L.length c2]) (by simp [results, Tryd.results37, go_sem, e0, e1]) rfl ⟨_, L', hoe, hfin, rfl, by rw [HL.out]; exact Hp.out, Hr.out⟩

end Go.Proofs.YtnhhohhhpaejmaaDoor
