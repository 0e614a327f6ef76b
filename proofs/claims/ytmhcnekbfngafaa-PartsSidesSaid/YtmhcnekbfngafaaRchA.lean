/- parts.reach: what can be reached along arcs. -/
import Derived.Test.YtmhcnekbfngafaaNbRow
import Derived.Test.YtmhcnekbfngafaaPA
import Derived.Test.YtmhcnekbfngafaaQueue
import Derived.Test.YtmhcnekbfngafaaReach
import Derived.Test.YtmhcnekbfngafaaArcsW
import Derived.BigQuiet
namespace Go.Proofs.Ytmhcnekbfngafaa
open Go.RowKit

/-- Ahead of one 'append': E is the arc's box. -/
structure RaE (w wr : World) (B N : Nat) (V : Nat → Value) (X : Nat → List Nat) (E : Nat) (x y : Int) : Prop where
  nb : NB wr B N V X
  hE : ∀ r, r < N → (V r).ownBlock ≠ some E
  hEl : E < wr.heap.size
  hEb : B < E
  c0 : wr.cell? ⟨E, 0, none⟩ = some (.int .i64 x)
  c1 : wr.cell? ⟨E, 1, none⟩ = some (.int .i64 y)
  hb : Below w.heap.size w wr
  lo : w.heap.size ≤ B
/-- Behind it. -/
def RaCut (w : World) (B N : Nat) (X : Nat → List Nat) (wx : World) : Prop := ∃ V, NB wx B N V X ∧ Below w.heap.size w wx
theorem RaE.da {w wr : World} {B N : Nat} {V : Nat → Value} {X : Nat → List Nat} {E : Nat} {x y : Int} (h : RaE w wr B N V X E x y) (o : Obj) : RaE w (wr.drew.alloc o) B N V X E x y :=
  have hb : Below wr.heap.size wr (wr.drew.alloc o) := ((Below.refl _ _).drew).alloc (Nat.le_refl _) o
  ⟨h.nb.below hb, h.hE, Nat.lt_of_lt_of_le h.hEl hb.size, h.hEb, below_cell hb h.c0, below_cell hb h.c1, h.hb.trans (hb.mono h.hb.size), h.lo⟩
theorem RaE.sz {w wr : World} {B N : Nat} {V : Nat → Value} {X : Nat → List Nat} {E : Nat} {x y : Int} (h : RaE w wr B N V X E x y) : B + 1 ≤ wr.heap.size := by have := h.hEl; have := h.hEb; omega
theorem RaE.of {w wr w2 : World} {B N : Nat} {V : Nat → Value} {X : Nat → List Nat} {E r : Nat} {x y : Int} {v' : Value} {m : List Nat} (h : RaE w wr B N V X E x y) (hr : r < N)
    (ho : w2.ownsRow (B + 1) 3 1 v' ((X r).length + m.length) (nvals (X r) ++ nvals m)) (hg : wr.grownBy w2 (V r).ownBlock) (hat : v'.ownBlock = (V r).ownBlock ∨ v'.ownBlock = some wr.heap.size) :
    RaCut w B N (growN X r m) (w2.setCell ⟨B, r, none⟩ v') ∧ w2.cell? ⟨E, 0, none⟩ = some (.int .i64 x) ∧ w2.cell? ⟨E, 1, none⟩ = some (.int .i64 y) ∧ w2.rowIs B 39 N V := by
  obtain ⟨h, hE, hEl, hEb, c0, c1, hb, hlo⟩ := h
  have hbk := hg.block E hEl (fun e => hE r hr e.symm)
  have d0 : w2.cell? ⟨E, 0, none⟩ = some (.int .i64 x) := by rw [← c0]; unfold World.cell?; rw [hbk]
  have d1 : w2.cell? ⟨E, 1, none⟩ = some (.int .i64 y) := by rw [← c1]; unfold World.cell?; rw [hbk]
  exact ⟨⟨_, h.app hr ho hg hat, (hb.grown hg hb.size (fun g e => by have := (h.low hr g e).1; omega)).setCell (p := ⟨B, r, none⟩) hlo _⟩, d0, d1, h.mid hr hg⟩

/-- One element of a row. -/
theorem NB.lookR {w : World} {B N : Nat} {V : Nat → Value} {X : Nat → List Nat} (h : NB w B N V X) {r j : Nat} (hr : r < N) (hj : j < (X r).length) :
    ∃ g c, V r = .slice (some ⟨g, 0, none⟩) (X r).length c ∧ w.cell? ⟨g, j, none⟩ = some (.int .i64 ((X r).getD j 0 : Nat)) := by
  have ho := h.owns hr
  have hx : (nvals (X r))[j]? = some (.int .i64 ((X r).getD j 0 : Nat)) := by
    simp [nvals, ints, List.getD, List.getElem?_eq_getElem hj]
  rcases ho.2 with ⟨e, h0⟩ | ⟨g, cap, cur, e, -⟩
  · omega
  · have c := ho.cells (g := g) (by rw [e]; rfl) _ _ hx
    rw [Addr.add_lit, Nat.zero_add] at c
    exact ⟨g, cap, e, c⟩
theorem one_cellR (w : World) (a : Addr) (x v : Value) (t : TypeId) : ((w.setCell a x).alloc (.cells #[v] t)).cell? ((⟨w.heap.size, 0, none⟩ : Addr).add 0) = some v := by
  rw [Addr.add_lit, World.cell?_alloc_at _ _ _ _ (size_setCell w a x).symm]; rfl
theorem outA_lt {l : List (Int × Int)} {N : Nat} (hg : GoodArcs N l) {v u : Nat} (h : u ∈ outA l v l.length) : u < N := by
  have h1 := (outA_mem (fun j hj => ⟨(hg.ends j hj).1, (hg.ends j hj).2.1⟩) l.length (Nat.le_refl _)).1 h
  rw [List.take_length] at h1
  obtain ⟨j, hj, ej⟩ := List.mem_iff_getElem.1 h1
  have h2 := hg.ends j hj
  rw [List.getD, List.getElem?_eq_getElem hj, ej] at h2
  obtain ⟨-, -, -, h3⟩ := h2
  simp only [Option.getD_some] at h3
  omega
/-- What can be reached: the answer. -/
def ReachA (l : List (Int × Int)) (N a : Nat) (w : World) (e : Ending) (w' : World) : Prop :=
  ∃ b I, e = .returned (.slice (some ⟨b, 0, none⟩) N N) ∧ w.heap.size ≤ b ∧ w'.rowIs b 4 N (rb I) ∧ Below w.heap.size w w' ∧ ∀ v, I v = true ↔ WX (fun v => outA l v l.length) a v

set_option maxHeartbeats 6400000 in
set_option maxRecDepth 100000 in
theorem preach_any {l : List (Int × Int)} {N a : Nat} (hgood : GoodArcs N l) (ha : a < N) (s : Value) (w : World) (h : IsEdges w s l) :
    Calls Try.prog 69 #[.int .i64 (N : Int), s, .int .i64 (a : Int)] w (ReachA l N a w) := by
  obtain ⟨ad, cap, bb, o, rfl, hcap, hmax, hadr, -, hcell⟩ := h
  have hN : N ≤ 100 := by have := hgood.hi; omega
  have hlen := hgood.len
  have Hg := Lib.hid hgood
  have hmk := run_make_row' (P := Try.prog) 30 39 (.slice none 0 0) 24 Try.underlying30 infoS rfl .i64 .i64 N (by omega) (by omega)
  have hb2 := below1 w (.cells (madeCells #[.slice none 0 0] N) 39)
  have hrow := World.rowIs_made w (.slice none 0 0) N 39
  have hz2 : w.heap.size < (w.alloc (.cells (madeCells #[.slice none 0 0] N) 39)).heap.size := by simp
  clear hgood
  go_enter Try.func69, Try.ntmps69
  go_upto_region 2 with fail
  clear hmk
  have St := Lib.hid (show RaCut w w.heap.size N (fun v => outA l v 0) (w.alloc (.cells (madeCells #[.slice none 0 0] N) 39)) from ⟨fun _ => .slice none 0 0, ⟨hrow, Bank.start _ _ _ _⟩, hb2⟩)
  clear hrow hb2
  generalize w.alloc (.cells (madeCells #[.slice none 0 0] N) 39) = w2 at *
  go_upto_region 3 with fail
  clear hz2
  go_loopg [18] l.length (fun g s18 wr => ∃ k : Nat, k ≤ l.length ∧ g = l.length - k ∧ s18 = .int .i64 k ∧ RaCut w w.heap.size N (fun v => outA l v k) wr)
  case atStart => exact ⟨0, Nat.zero_le _, rfl, rfl, St.out⟩
  case round =>
    obtain ⟨k, hk, rfl, rfl, V, hnb, hb⟩ := hrel
    by_cases hlt : k < l.length
    · obtain rfl := hadr (by omega)
      obtain ⟨x, y, He, hcx, hcy⟩ := edges_at hcell hb hlt
      have hends := Hg.out.ends k hlt
      rw [He.out] at hends
      obtain ⟨h1, h2, h3, h4⟩ := hends
      obtain ⟨X, rfl⟩ := Int.eq_ofNat_of_zero_le h1
      obtain ⟨Y, rfl⟩ := Int.eq_ofNat_of_zero_le h2
      simp only at h3 h4
      have hX : X < N := by omega
      have hsucc : ∀ v, outA l v (k + 1) = growN (fun v => outA l v k) X [Y] v := fun v => by
        rw [outA_succ He.out]
        unfold growN
        by_cases e1 : v = X
        · subst e1; simp
        · simp [e1, Ne.symm e1]
      have hlx := outA_len l X k
      have Hsucc := Lib.hid hsucc
      have hbE := hb.alloc hb.size (Obj.cells #[.int .i64 (X : Int), .int .i64 (Y : Int)] 61)
      have hnE := hnb.below (below1 wr (Obj.cells #[.int .i64 (X : Int), .int .i64 (Y : Int)] 61))
      have hoE : ∀ r, r < N → (V r).ownBlock ≠ some wr.heap.size := fun r hr e => by have := (hnb.low hr _ e).2; omega
      have hEc := two_cells wr (.int .i64 (X : Int)) (.int .i64 (Y : Int)) 61
      have hEz : wr.heap.size < (wr.alloc (Obj.cells #[.int .i64 (X : Int), .int .i64 (Y : Int)] 61)).heap.size := by simp
      have hEb : w.heap.size < wr.heap.size := hnb.ro.lt
      clear hsucc hb hnb hcell hadr h1 h2 h3 h4
      go_upto_region 5 with fail
      generalize wr.alloc (Obj.cells #[.int .i64 (X : Int), .int .i64 (Y : Int)] 61) = w3 at *
      generalize wr.heap.size = E at *
      clear hcx hcy
      generalize hXX : (fun v => outA l v k) = XX at *
      have hlx1 : (XX X).length ≤ 2000 := by rw [← hXX]; show (outA l X k).length ≤ 2000; omega
      clear hXX hlx
      have H1 := Lib.hid (RaE.mk hnE hoE hEz hEb hEc.1 hEc.2 hbE (Nat.le_refl _))
      clear hnE hoE hEz hEb hEc hbE
      obtain ⟨ax1, cx1, ex1⟩ := H1.out.nb.form hX
      have Ex1 := Lib.hid ex1
      have t1 := H1.out.nb.ro.cell hX
      rw [ex1] at t1
      have ft1 := H1.out.nb.ro.frozen X
      have lt1 := H1.out.nb.ro.lt
      have e0 := H1.out.c0
      have e1 := H1.out.c1
      have lE1 := H1.out.hEl
      have sz1 := H1.out.sz
      clear ex1
      go_region_law (refine step_append_at rfl _ _ 39 rfl (w.heap.size + 1) 3 (.int .i64 0) 8 Try.underlying39 info3 rfl (V X) (XX X).length _ Ex1.out.symm ((H1.out.da _).nb.owns hX) _ 1 (nvals [Y]) rfl (HasCells.one _ _ _ rfl) (by omega) (by omega) (by omega) (H1.out.da _).sz ?_; intro a2 c2 w2 ho2 hg2 hat2; obtain ⟨G2, q0, q1, qr⟩ := (H1.out.da _).of (m := [Y]) hX ho2 hg2 hat2; have qt := qr.cell hX; rw [Ex1.out] at qt; have qf := qr.frozen X; have ql := qr.lt; clear ho2 hg2 hat2 qr)
      all_goals
        obtain ⟨V3, hnb3, hb3⟩ := G2
        have S3 := Lib.hid (show RaCut w w.heap.size N (fun v => outA l v (k + 1)) _ from ⟨V3, hnb3.congr fun r _ => (Hsucc.out r).symm, hb3⟩)
        clear hnb3 hb3
        go_wp2
        go_roundg (l.length - (k + 1))
        case measure => go_light; omega
        case rel => exact ⟨k + 1, by omega, rfl, by go_num, S3.out⟩
    · obtain rfl : k = l.length := by omega
      have Hnb := Lib.hid hnb; have Hb := Lib.hid hb
      have hz := hb.size
      have hzB := hnb.ro.lt
      clear hnb hb hcell hadr
      have hmk2 := run_make_row' (P := Try.prog) 60 4 (.bool false) 1 Try.underlying60 info4 rfl .i64 .i64 N (by omega) (by omega)
      have hr3 := World.rowIs_made wr (.bool false) N 4
      obtain ⟨wp, rfl⟩ : ∃ wp : World, wp = wr := ⟨_, rfl⟩
      have R1 := Lib.hid (RcSt.mk (bI := wp.heap.size) (I := fun _ => false) (below1 wp (.cells (madeCells #[.bool false] N) 4)) (Nat.le_refl _) (hr3.congr fun _ _ => rfl))
      have hz3 : (wp.alloc (.cells (madeCells #[.bool false] N) 4)).heap.size = wp.heap.size + 1 := World.size_alloc _ _
      clear hr3
      go_upto_region 8 with fail
      clear hmk2
      generalize wp.alloc (.cells (madeCells #[.bool false] N) 4) = w3 at *
      have t0 := R1.out.row.cell ha
      have f0 := R1.out.row.frozen a
      have R2 := Lib.hid (R1.out.set a true)
      have hz4 : (w3.setCell ⟨wp.heap.size, a, none⟩ (.bool true)).heap.size = wp.heap.size + 1 := by rw [size_setCell, hz3]
      go_upto_region 9 with fail
      clear t0 f0 R1
      generalize w3.setCell ⟨wp.heap.size, a, none⟩ (.bool true) = w4 at *
      have R3 := Lib.hid (R2.out.below (below1 w4 (.cells #[.int .i64 (a : Int)] 3)))
      have hq4 := QIs.one w4 (wp.heap.size + 1) a (by omega)
      rw [hz4] at hq4
      have Hq4 := Lib.hid hq4
      clear hq4 R2
      go_wp2
      generalize w4.alloc (.cells #[.int .i64 (a : Int)] 3) = w5 at *
      clear hz4 hz3
      generalize Value.slice (some ⟨wp.heap.size + 1, 0, none⟩) 1 1 = vq at *
      go_loopg [11] N (fun g s11 wr => ∃ (I : Nat → Bool) (Q : List Nat), g + cnt I N = N + Q.length ∧ BfI N (fun v => outA l v l.length) a I Q ∧ RcSt wp wr wp.heap.size N I ∧ QIs wr (wp.heap.size + 1) s11 Q)
      case atStart =>
        refine ⟨_, [a], ?_, BfI.start ha, R3.out, Hq4.out⟩
        have h0 : ∀ n, cnt (fun _ => false) n = 0 := fun n => by
          induction n with
          | zero => rfl
          | succ n ih => rw [cnt, ih]; simp
        have h1 := cnt_put1 (I := fun _ => false) ha rfl
        rw [h0] at h1
        show N + cnt (fun q => if q = a then true else false) N = _
        rw [h1]; rfl
      case round =>
        obtain ⟨I, Q, hg, hbf, hst, hq⟩ := hrel
        have Hg1 := Lib.hid hg; have Hbf := Lib.hid hbf; have Hst := Lib.hid hst
        obtain ⟨b, off, cap, K, f, rfl, hq⟩ := hq
        have Hq := Lib.hid hq
        clear hg hbf
        rcases Q with _ | ⟨x, R⟩
        · clear hst hq
          go_wp2
          exact bodyPost_ret (v := .slice (some ⟨wp.heap.size, 0, none⟩) N N) (by simp [results, Try.results69, go_sem]) rfl ⟨wp.heap.size, I, rfl, hz, Hst.out.row, Hb.out.trans (Hst.out.hb.mono hz), Hbf.out.done⟩
        · have hq0 := hq.cell (show 0 < (x :: R).length by simp)
          rw [Nat.add_zero] at hq0
          have hq0 : wr.cell? ⟨b, off, none⟩ = some (.int .i64 (x : Int)) := hq0
          have hx := (Hbf.out.qs x (by simp)).1
          have hnb5 := Hnb.out.below hst.hb
          obtain ⟨au, cu, eu⟩ := hnb5.form hx
          have Eu := Lib.hid eu
          have t1 := hnb5.ro.cell hx
          rw [eu] at t1
          have hlR : (0 : Int) < (((x :: R).length : Nat) : Int) := by simp only [List.length_cons]; omega
          have hlR' : 0 < (x :: R).length := by simp only [List.length_cons]; omega
          have hcap := hq.len
          have hnu := outA_len l x l.length
          clear hq hst hnb5 eu
          generalize hnQ : (x :: R).length = nQ at *
          have HnQ := Lib.hid hnQ
          clear hnQ
          generalize hnX : (outA l x l.length).length = nu at *
          have HnX := Lib.hid hnX
          clear hnX
          go_wp2
          have Hq0 := Lib.hid hq0
          clear hq0 t1 hcap hlR hlR'
          go_loopg [11, 55] nu (fun g s11 s55 wi => ∃ (j : Nat) (I' : Nat → Bool) (R' : List Nat), j ≤ nu ∧ g = nu - j ∧ s55 = .int .i64 (j : Int) ∧ gk + cnt I' N = N + (x :: R').length ∧ BfI N (fun v => outA l v l.length) a I' (x :: R') ∧ RcSt wp wi wp.heap.size N I' ∧ QIs wi (wp.heap.size + 1) s11 (x :: R') ∧ ∀ j', j' < j → I' ((outA l x l.length).getD j' 0) = true)
          case atStart => exact ⟨0, I, R, Nat.zero_le _, rfl, rfl, by rw [Hg1.out, HnQ.out], Hbf.out, Hst.out, ⟨b, off, cap, K, f, by rw [HnQ.out], Hq.out⟩, fun _ h => absurd h (Nat.not_lt_zero _)⟩
          case round =>
            clear Hg1 Hbf Hst Hq Hq0 HnQ
            obtain ⟨j, I', R', hj, rfl, rfl, hg, hbf, hst, hq, hall⟩ := hrel
            have Hg1 := Lib.hid hg; have Hbf := Lib.hid hbf; have Hst := Lib.hid hst; have Hall := Lib.hid hall
            obtain ⟨b2, off2, cap2, K2, f2, rfl, hq⟩ := hq
            have Hq := Lib.hid hq
            clear hg hbf hall
            generalize hn2 : (x :: R').length = n2 at *
            have Hn2 := Lib.hid hn2
            clear hn2
            by_cases hlt : j < nu
            · obtain ⟨gu, cu', eu, hcu⟩ := (Hnb.out.below hst.hb).lookR hx (show j < (outA l x l.length).length by rw [HnX.out]; exact hlt)
              obtain ⟨rfl, rfl⟩ : au = some ⟨gu, 0, none⟩ ∧ cu = cu' := by
                have := Eu.out.symm.trans eu
                simp only [Value.slice.injEq] at this
                exact ⟨this.1, this.2.2⟩
              have hmem : (outA l x l.length).getD j 0 ∈ outA l x l.length := by
                have hj' : j < (outA l x l.length).length := by rw [HnX.out]; exact hlt
                rw [List.getD, List.getElem?_eq_getElem hj']
                exact List.getElem_mem hj'
              have hu := outA_lt Hg.out hmem
              have Hmem := Lib.hid hmem
              generalize hij : (outA l x l.length).getD j 0 = u at *
              have Hij := Lib.hid hij
              have cw := hst.row.cell hu
              simp only [rb] at cw
              have fw := hst.row.frozen u
              have hzi := hst.row.lt
              have hsz := hst.hb.size
              clear hij hmem eu hst
              cases hI : I' u with
              | true =>
                rw [hI] at cw
                have HI := Lib.hid hI
                clear hI hq
                go_wp2
                go_roundg (nu - (j + 1))
                case measure => go_light; omega
                case rel => exact ⟨j + 1, I', R', by omega, rfl, by go_num, by rw [Hn2.out]; exact Hg1.out, Hbf.out, Hst.out, ⟨b2, off2, cap2, K2, f2, by rw [Hn2.out], Hq.out⟩, fun j' hj' => by
                  by_cases e : j' = j
                  · subst e; rw [Hij.out]; exact HI.out
                  · exact Hall.out j' (by omega)⟩
              | false =>
                rw [hI] at cw
                have HI := Lib.hid hI
                have hroom := Hbf.out.room
                have hcn := cnt_le I' N
                rw [Hn2.out] at hroom
                have hn2s : n2 < 1000000 := by omega
                have hst5 := (Hst.out.set u true).below (below1 _ (.cells #[.int .i64 (u : Int)] 3))
                have hq5 : QIs ((wr.setCell ⟨wp.heap.size, u, none⟩ (.bool true)).alloc (.cells #[.int .i64 (u : Int)] 3)) (wp.heap.size + 1) (.slice (some ⟨b2, off2, none⟩) n2 cap2) (x :: R') :=
                  QIs.below (QIs.set (w := wr) ⟨b2, off2, cap2, K2, f2, by rw [Hn2.out], Hq.out⟩ (by omega) u _) ((Below.refl _ _).alloc (Nat.le_refl _) _)
                have Hst5 := Lib.hid hst5; have Hq5 := Lib.hid hq5
                clear hI hq hst5 hq5 hroom hcn
                go_wp2_with (at_builtin; refine wpList_append_q rfl (.tmp 67) (.tmp 69) 39 rfl Try.underlying39 info3 _ (x :: R') rfl Hq5.out _ _ u rfl (one_cellR _ _ _ _ _) (by rw [Hn2.out]; exact hn2s) (by rw [World.size_alloc, size_setCell]; omega) ?_; intro v6 w6 hq6 hb6; have Hq6 := Lib.hid hq6; have Hb6 := Lib.hid hb6; clear hq6 hb6)
                go_roundg (nu - (j + 1))
                case measure => go_light; omega
                case rel =>
                  have h1 := Hg1.out
                  have h2 := cnt_put1 (I := I') hu HI.out
                  have h3 := Hn2.out
                  refine ⟨j + 1, _, R' ++ [u], by omega, rfl, by go_num, ?_, Hbf.out.push Hmem.out hu HI.out, ⟨Hst5.out.hb.trans (Hb6.out.mono (by omega)), Nat.le_refl _, Hst5.out.row.of_block (Hb6.out.block _ (by omega))⟩, Hq6.out, fun j' hj' => ?_⟩
                  · rw [h2, ← List.cons_append, List.length_append, h3]
                    simp only [List.length_cons, List.length_nil]
                    omega
                  · by_cases e : (outA l x l.length).getD j' 0 = u
                    · rw [if_pos e]
                    · rw [if_neg e]
                      by_cases e2 : j' = j
                      · subst e2; exact absurd Hij.out e
                      · exact Hall.out j' (by omega)
            · obtain rfl : nu = j := by omega
              have hcap := Hq.out.len
              obtain ⟨i3, hi3, -, hsz3, -⟩ := info_parts info3
              have hsl : ∀ w, (Instr.slice 39 (.slice (some ⟨b2, off2, none⟩) n2 cap2) (some (.int .i64 1)) none none).run Try.prog w = .ok (.slice (cutAt b2 off2 (cap2 - 1)) R'.length (cap2 - 1)) w := by rw [← Hn2.out]; exact run_slice_one (P := Try.prog) Try.underlying39 hi3 hsz3 b2 off2 R'.length cap2 hcap
              have hcle := cnt_le I' N
              have Hcle := Lib.hid hcle
              clear hst hq hcap hi3 hsz3 hcle
              go_wp2
              go_roundg (gk - 1)
              case measure =>
                have h1 := Hg1.out
                have h2 := Hcle.out
                have h3 := Hn2.out
                simp only [List.length_cons] at h3
                go_light; omega
              case rel =>
                have h1 := Hg1.out
                have h2 := Hcle.out
                have h3 := Hn2.out
                simp only [List.length_cons] at h3
                refine ⟨I', R', by omega, Hbf.out.pop fun u hu => ?_, Hst.out, Hq.out.cut⟩
                obtain ⟨j', hj', rfl⟩ := List.mem_iff_getElem.1 hu
                have e : (outA l x l.length)[j'] = (outA l x l.length).getD j' 0 := by simp [List.getD, hj']
                rw [e]
                exact Hall.out j' (by rw [← HnX.out]; exact hj')

end Go.Proofs.Ytmhcnekbfngafaa
