/- graph.Lists: what each node sees, rising. -/
import Derived.Test.YtnhhohhhpaejmaaDoorNbMem
import Derived.Deep.RegionLaw
namespace Go.Proofs.YtnhhohhhpaejmaaDoor
open Go.RowKit

/-- Behind the first k edges. -/
def LsSt (w : World) (l : List (Int × Int)) (N k : Nat) (wr : World) : Prop := ∃ V, NB wr (w.heap.size + 1) N V (fun v => nbA l v k) ∧ Below w.heap.size w wr
/-- Behind one 'append': E is the edge's box. -/
def LsCut (w : World) (N : Nat) (X : Nat → List Nat) (E : Nat) (x y : Int) (wx : World) : Prop :=
  ∃ V, NB wx (w.heap.size + 1) N V X ∧ (∀ r, r < N → (V r).ownBlock ≠ some E) ∧ wx.cell? ⟨E, 0, none⟩ = some (.int .i64 x) ∧ wx.cell? ⟨E, 1, none⟩ = some (.int .i64 y) ∧ Below w.heap.size w wx
/-- Ahead of one 'append'. -/
structure LsE (w wr : World) (N : Nat) (V : Nat → Value) (X : Nat → List Nat) (E : Nat) (x y : Int) : Prop where
  nb : NB wr (w.heap.size + 1) N V X
  hE : ∀ r, r < N → (V r).ownBlock ≠ some E
  hEl : E < wr.heap.size
  hEb : w.heap.size + 1 < E
  c0 : wr.cell? ⟨E, 0, none⟩ = some (.int .i64 x)
  c1 : wr.cell? ⟨E, 1, none⟩ = some (.int .i64 y)
  hb : Below w.heap.size w wr
theorem LsE.da {w wr : World} {N : Nat} {V : Nat → Value} {X : Nat → List Nat} {E : Nat} {x y : Int} (h : LsE w wr N V X E x y) (o : Obj) : LsE w (wr.drew.alloc o) N V X E x y :=
  have hb : Below wr.heap.size wr (wr.drew.alloc o) := ((Below.refl _ _).drew).alloc (Nat.le_refl _) o
  ⟨h.nb.below hb, h.hE, Nat.lt_of_lt_of_le h.hEl hb.size, h.hEb, below_cell hb h.c0, below_cell hb h.c1, h.hb.trans (hb.mono h.hb.size)⟩
theorem LsE.sz {w wr : World} {N : Nat} {V : Nat → Value} {X : Nat → List Nat} {E : Nat} {x y : Int} (h : LsE w wr N V X E x y) : w.heap.size + 1 + 1 ≤ wr.heap.size := by have := h.hEl; have := h.hEb; omega
theorem LsE.of {w wr w2 : World} {N : Nat} {V : Nat → Value} {X : Nat → List Nat} {E r : Nat} {x y : Int} {v' : Value} {m : List Nat} (h : LsE w wr N V X E x y) (hr : r < N)
    (ho : w2.ownsRow (w.heap.size + 1 + 1) 3 1 v' ((X r).length + m.length) (nvals (X r) ++ nvals m)) (hg : wr.grownBy w2 (V r).ownBlock) (hat : v'.ownBlock = (V r).ownBlock ∨ v'.ownBlock = some wr.heap.size) :
    LsCut w N (growN X r m) E x y (w2.setCell ⟨w.heap.size + 1, r, none⟩ v') ∧ w2.cell? ⟨E, 0, none⟩ = some (.int .i64 x) ∧ w2.cell? ⟨E, 1, none⟩ = some (.int .i64 y) ∧ w2.rowIs (w.heap.size + 1) 29 N V := by
  obtain ⟨h, hE, hEl, hEb, c0, c1, hb⟩ := h
  have hbk := hg.block E hEl (fun e => hE r hr e.symm)
  have d0 : w2.cell? ⟨E, 0, none⟩ = some (.int .i64 x) := by rw [← c0]; unfold World.cell?; rw [hbk]
  have d1 : w2.cell? ⟨E, 1, none⟩ = some (.int .i64 y) := by rw [← c1]; unfold World.cell?; rw [hbk]
  refine ⟨⟨_, h.app hr ho hg hat, fun q hq => ?_, ?_, ?_, ?_⟩, d0, d1, h.mid hr hg⟩
  · by_cases e : q = r
    · simp only [e, if_true]
      rcases hat with ha | ha
      · rw [ha]; exact hE r hr
      · rw [ha]; intro e2; cases e2; omega
    · simp only [if_neg e]; exact hE q hq
  · rw [World.cell?_setCell_far _ _ _ _ (show w.heap.size + 1 ≠ E by omega)]; exact d0
  · rw [World.cell?_setCell_far _ _ _ _ (show w.heap.size + 1 ≠ E by omega)]; exact d1
  · exact (hb.grown hg hb.size (fun g e => by have := (h.low hr g e).1; omega)).setCell (p := ⟨w.heap.size + 1, r, none⟩) (by show w.heap.size ≤ w.heap.size + 1; omega) _

/-- What graph.Lists answers. -/
def ListsPost (l : List (Int × Int)) (N : Nat) (w : World) (e : Ending) (w' : World) : Prop :=
  ∃ B V, e = .returned (.slice (some ⟨B, 0, none⟩) N N) ∧ NB w' B N V (nbrs l N) ∧ w.heap.size ≤ B ∧ Below w.heap.size w w'

set_option maxHeartbeats 6400000 in
set_option maxRecDepth 100000 in
theorem glists_any {l : List (Int × Int)} {N : Nat} (hgood : GoodGraph N l) (s : Value) (w : World) (h : IsEdges w s l) :
    Calls Tryd.prog 19 #[.agg #[.int .i64 (N : Int), s]] w (ListsPost l N w) := by
  obtain ⟨ad, cap, bb, o, rfl, hcap, hmax, hadr, -, hcell⟩ := h
  have hN : N ≤ 100 := by have := hgood.hi; omega
  have hlen := hgood.len
  have Hg := Lib.hid hgood
  have hb1 := below1 w (Obj.cells #[.int .i64 (N : Int), .slice ad l.length cap] 24)
  have hc := two_cells w (.int .i64 (N : Int)) (.slice ad l.length cap) 24
  have hmk := run_make_row' (P := Tryd.prog) 48 29 (.slice none 0 0) 24 Tryd.underlying48 infoS rfl .i64 .i64 N (by omega) (by omega)
  obtain ⟨cn, cs⟩ := hc
  have hz : w.heap.size < (w.alloc (Obj.cells #[.int .i64 (N : Int), .slice ad l.length cap] 24)).heap.size := by simp
  clear hgood
  go_enter Tryd.func19, Tryd.ntmps19
  go_upto_region 1 with fail
  have hz1 : (w.alloc (Obj.cells #[.int .i64 (N : Int), .slice ad l.length cap] 24)).heap.size = w.heap.size + 1 := by simp
  generalize w.alloc (Obj.cells #[.int .i64 (N : Int), .slice ad l.length cap] 24) = w1 at *
  go_upto_region 2 with fail
  clear hmk
  have hrow := World.rowIs_made w1 (.slice none 0 0) N 29
  rw [hz1] at hrow
  have hb2 := hb1.alloc hb1.size (.cells (madeCells #[.slice none 0 0] N) 29)
  have cs2 := below_cell (below1 w1 (.cells (madeCells #[.slice none 0 0] N) 29)) cs
  have hz2 := Nat.lt_of_lt_of_le hz (below1 w1 (.cells (madeCells #[.slice none 0 0] N) 29)).size
  have St : LsSt w l N 0 (w1.alloc (.cells (madeCells #[.slice none 0 0] N) 29)) := ⟨fun _ => .slice none 0 0, ⟨hrow, Bank.start _ _ _ _⟩, hb2⟩
  clear hrow hb2 hb1 cn cs hz
  generalize w1.alloc (.cells (madeCells #[.slice none 0 0] N) 29) = w2 at *
  have HSt := Lib.hid St
  clear St
  go_upto_region 3 with fail
  clear cs2 hz2
  go_loopg [14] l.length (fun g s14 wr => ∃ k : Nat, k ≤ l.length ∧ g = l.length - k ∧ s14 = .int .i64 k ∧ LsSt w l N k wr)
  case atStart => exact ⟨0, Nat.zero_le _, rfl, rfl, HSt.out⟩
  case round =>
    obtain ⟨k, hk, rfl, rfl, V, hnb, hb⟩ := hrel
    by_cases hlt : k < l.length
    · obtain rfl := hadr (by omega)
      obtain ⟨X, Y, he, hX, hY, hne, -⟩ := Hg.out.at hlt
      have hcx := below_cell hb (hcell k hlt).1
      have hcy := below_cell hb (hcell k hlt).2
      rw [he] at hcx hcy
      simp only at hcx hcy
      have hsucc : ∀ v, nbA l v (k + 1) = growN (growN (fun v => nbA l v k) X [Y]) Y [X] v := fun v => by
        rw [nbA_succ he]
        unfold growN
        by_cases e1 : v = X
        · subst e1; simp [hne, Ne.symm hne]
        · by_cases e2 : v = Y
          · subst e2; simp [e1, Ne.symm e1]
          · simp [e1, e2, Ne.symm e1, Ne.symm e2]
      have hlx := nbA_len l X k
      have hly := nbA_len l Y k
      have Hsucc := Lib.hid hsucc
      have hbE := hb.alloc hb.size (Obj.cells #[.int .i64 (X : Int), .int .i64 (Y : Int)] 39)
      have hnE := hnb.below (below1 wr (Obj.cells #[.int .i64 (X : Int), .int .i64 (Y : Int)] 39))
      have hoE : ∀ r, r < N → (V r).ownBlock ≠ some wr.heap.size := fun r hr e => by have := (hnb.low hr _ e).2; omega
      have hEc := two_cells wr (.int .i64 (X : Int)) (.int .i64 (Y : Int)) 39
      have hEz : wr.heap.size < (wr.alloc (Obj.cells #[.int .i64 (X : Int), .int .i64 (Y : Int)] 39)).heap.size := by simp
      have hEb : w.heap.size + 1 < wr.heap.size := by have := hnb.ro.lt; omega
      clear hsucc hb hnb hcell hadr
      go_upto_region 5 with fail
      generalize wr.alloc (Obj.cells #[.int .i64 (X : Int), .int .i64 (Y : Int)] 39) = w3 at *
      generalize wr.heap.size = E at *
      clear hcx hcy
      generalize hXX : (fun v => nbA l v k) = XX at *
      have hlx1 : (XX X).length ≤ 2000 := by rw [← hXX]; show (nbA l X k).length ≤ 2000; omega
      have hly1 : (XX Y).length ≤ 2000 := by rw [← hXX]; show (nbA l Y k).length ≤ 2000; omega
      clear hXX hlx hly
      have H1 := Lib.hid (LsE.mk hnE hoE hEz hEb hEc.1 hEc.2 hbE)
      clear hnE hoE hEz hEb hEc hbE
      obtain ⟨ax1, cx1, ex1⟩ := H1.out.nb.form hX
      have Ex1 := Lib.hid ex1
      have t1 := H1.out.nb.ro.cell hX
      rw [ex1] at t1
      have ft1 := H1.out.nb.ro.frozen X
      have lt1 := H1.out.nb.ro.lt
      have e0 := H1.out.c0
      have e1 := H1.out.c1
      have lE1 := H1.out.hEl
      have sz1 := H1.out.sz
      clear ex1
      go_cut [] from 18 to 30 (fun wx => LsCut w N (growN XX X [Y]) E X Y wx)
      case first =>
        go_region_law (refine step_append_at rfl _ _ 29 rfl (w.heap.size + 1 + 1) 3 (.int .i64 0) 8 Tryd.underlying29 info3 rfl (V X) (XX X).length _ Ex1.out.symm ((H1.out.da _).nb.owns hX) _ 1 (nvals [Y]) rfl (HasCells.one _ _ _ rfl) (by omega) (by omega) (by omega) (H1.out.da _).sz ?_; intro a2 c2 w2 ho2 hg2 hat2; obtain ⟨G2, q0, q1, qr⟩ := (H1.out.da _).of (m := [Y]) hX ho2 hg2 hat2; have qt := qr.cell hX; rw [Ex1.out] at qt; have qf := qr.frozen X; have ql := qr.lt; clear ho2 hg2 hat2 qr)
        all_goals
          go_wp2
          go_meet
          exact G2
      case rest =>
      obtain ⟨w4, rfl⟩ : ∃ w4 : World, w4 = wc := ⟨_, rfl⟩
      obtain ⟨V2, hnb2, hoE2, hc20, hc21, hb2⟩ := hcut
      have hX2 : (growN XX X [Y] Y).length ≤ 2001 := by unfold growN; split <;> (try simp) <;> omega
      have hEb2 := H1.out.hEb
      have hEl2 : E < w4.heap.size := World.block_lt_of_cell? _ _ hc20
      generalize growN XX X [Y] = X2 at *
      have H2 := Lib.hid (LsE.mk hnb2 hoE2 hEl2 hEb2 hc20 hc21 hb2)
      clear t1 ft1 lt1 e0 e1 lE1 sz1 hnb2 hoE2 hEl2 hEb2 hc20 hc21 hb2 H1 Ex1 hlx1 hly1
      go_upto_region 6 with fail
      obtain ⟨ax2, cx2, ex2⟩ := H2.out.nb.form hY
      have Ex2 := Lib.hid ex2
      have t2 := H2.out.nb.ro.cell hY
      rw [ex2] at t2
      have ft2 := H2.out.nb.ro.frozen Y
      have lt2 := H2.out.nb.ro.lt
      have e0 := H2.out.c0
      have e1 := H2.out.c1
      have lE2 := H2.out.hEl
      have sz2 := H2.out.sz
      clear ex2
      go_region_law (refine step_append_at rfl _ _ 29 rfl (w.heap.size + 1 + 1) 3 (.int .i64 0) 8 Tryd.underlying29 info3 rfl (V2 Y) (X2 Y).length _ Ex2.out.symm ((H2.out.da _).nb.owns hY) _ 1 (nvals [X]) rfl (HasCells.one _ _ _ rfl) (by omega) (by omega) (by omega) (H2.out.da _).sz ?_; intro a2 c2 w2 ho2 hg2 hat2; obtain ⟨G2, q0, q1, qr⟩ := (H2.out.da _).of (m := [X]) hY ho2 hg2 hat2; have qt := qr.cell hY; rw [Ex2.out] at qt; have qf := qr.frozen Y; have ql := qr.lt; clear ho2 hg2 hat2 qr)
      all_goals
        obtain ⟨V3, hnb3, -, -, -, hb3⟩ := G2
        have S3 := Lib.hid (show LsSt w l N (k + 1) _ from ⟨V3, hnb3.congr fun r _ => (Hsucc.out r).symm, hb3⟩)
        clear hnb3 hb3
        go_wp2
        go_roundg (l.length - (k + 1))
        case measure => go_light; omega
        case rel => exact ⟨k + 1, by omega, rfl, by go_num, S3.out⟩
    · obtain rfl : k = l.length := by omega
      clear hcell hadr
      have hnb1 : NB wr (w.heap.size + 1) N V (fun v => if v < 0 then nbrs l N v else nbA l v l.length) := hnb.congr fun r _ => by simp
      have Hnb := Lib.hid hnb1
      have Hb := Lib.hid hb
      clear hnb hnb1 hb
      go_wp2
      obtain ⟨wo, rfl⟩ : ∃ wo : World, wo = wr := ⟨_, rfl⟩
      go_loopg [47] N (fun g s47 wr => ∃ i : Nat, i ≤ N ∧ g = N - i ∧ s47 = .int .i64 i ∧ NB wr (w.heap.size + 1) N V (fun v => if v < i then nbrs l N v else nbA l v l.length) ∧ Below w.heap.size w wr)
      case atStart => exact ⟨0, Nat.zero_le _, rfl, rfl, Hnb.out, Hb.out⟩
      case round =>
        obtain ⟨i, hi, rfl, rfl, hnb, hb⟩ := hrel
        have HN2 := Lib.hid hnb
        have HB2 := Lib.hid hb
        by_cases hlt2 : i < N
        · obtain ⟨av, cv, ev⟩ := hnb.form hlt2
          have ti := hnb.ro.cell hlt2
          have ho := hnb.owns hlt2
          simp only [Nat.lt_irrefl, if_false] at ev ho
          rw [ev] at ti ho
          have hsl := nbA_len l i l.length
          have ho' : wr.ownsRow (w.heap.size + 1 + 1) 3 1 (.slice av (nbA l i l.length).length cv) (ints (nbA l i l.length)).length ((ints (nbA l i l.length)).map (Value.int .i64)) := by rw [ints_length]; exact ho
          have Ho := Lib.hid ho'
          have Ev := Lib.hid ev
          have hsl2 : (ints (nbA l i l.length)).length ≤ 100000 := by rw [ints_length]; omega
          clear hnb hb ho ho' hsl ev
          go_wp2_with (go_at_call 38; refine (sortI_any Ho.out hsl2).mono ?_; rintro e w7 ⟨rfl, ho7, hg7⟩; have Ho7 := Lib.hid ho7; have Hg7 := Lib.hid hg7; clear ho7 hg7)
          go_roundg (N - (i + 1))
          case measure => go_light; omega
          case rel =>
            have ho7 := Ho7.out
            rw [nbA_sorted Hg.out] at ho7
            have hlen7 : (ints (nbA l i l.length)).length = (nbrs l N i).length := by
              have := (List.mergeSort_perm (ints (nbA l i l.length)) (fun x y : Int => decide (x ≤ y))).length_eq
              rw [nbA_sorted Hg.out, ints_length] at this
              exact this.symm
            rw [hlen7, ← Ev.out] at ho7
            have hg7 := Hg7.out
            rw [← Ev.out] at hg7
            refine ⟨i + 1, by omega, rfl, by go_num, (HN2.out.put hlt2 ho7 hg7).congr fun r _ => ?_, HB2.out.grown hg7 HB2.out.size (fun g e => by have := (HN2.out.low hlt2 g e).1; omega)⟩
            unfold putN
            by_cases e : r = i
            · subst e; simp
            · rw [if_neg e]
              show (if r < i then nbrs l N r else nbA l r l.length) = _
              by_cases e2 : r < i
              · rw [if_pos e2, if_pos (by omega)]
              · rw [if_neg e2, if_neg (by omega)]
        · obtain rfl : i = N := by omega
          clear hnb hb
          go_wp2
          go_ret
          exact ⟨w.heap.size + 1, V, rfl, HN2.out.congr fun r hr => by rw [if_pos hr], by omega, HB2.out⟩

end Go.Proofs.YtnhhohhhpaejmaaDoor
