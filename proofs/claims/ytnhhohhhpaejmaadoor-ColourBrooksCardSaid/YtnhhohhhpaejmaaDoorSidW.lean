/- parts.Sides: two sides, or an odd ring. -/
import Derived.Test.YtnhhohhhpaejmaaDoorPI
import Derived.Test.YtnhhohhhpaejmaaDoorGLists
import Derived.Test.YtnhhohhhpaejmaaDoorPF
import Derived.Test.YtnhhohhhpaejmaaDoorMake
import Derived.BigQuiet
namespace Go.Proofs.YtnhhohhhpaejmaaDoor
open Go.RowKit

/-- The argument's box, and the fault that comes back. -/
structure SdG (w wr : World) (n : Int) (s : Value) (l : List (Int × Int)) : Prop where
  hb : Below w.heap.size w wr
  cn : wr.cell? ⟨w.heap.size, 0, none⟩ = some (.int .i64 n)
  cs : wr.cell? ⟨w.heap.size, 1, none⟩ = some s
  he : IsEdges wr s l
  r : wr.rowIs (w.heap.size + 1) 27 2 (fun i => if i = 0 then .int .i64 0 else .int .i64 0)
theorem SdG.start {w : World} {n : Int} {s : Value} {l : List (Int × Int)} (h : IsEdges w s l) : SdG w ((w.alloc (Obj.cells #[.int .i64 n, s] 24)).alloc (Obj.cells #[.int .i64 0, .int .i64 0] 27)) n s l := by
  obtain ⟨c0, c1⟩ := two_cells w (.int .i64 n) s 24
  have hr := two_row (w.alloc (Obj.cells #[.int .i64 n, s] 24)) (.int .i64 0) (.int .i64 0) 27
  rw [World.size_alloc] at hr
  have hb := below2 w (Obj.cells #[.int .i64 n, s] 24) (Obj.cells #[.int .i64 0, .int .i64 0] 27)
  exact ⟨hb, below_cell (below1 _ _) c0, below_cell (below1 _ _) c1, h.below hb, hr⟩
theorem SdG.below {w wr w' : World} {n : Int} {s : Value} {l : List (Int × Int)} (h : SdG w wr n s l) (hb : Below wr.heap.size wr w') : SdG w w' n s l :=
  ⟨h.hb.trans (hb.mono h.hb.size), below_cell hb h.cn, below_cell hb h.cs, h.he.below hb, h.r.of_block (hb.block _ h.r.lt)⟩
/-- Two rows: sides, and whence. -/
structure SdM (w0 wr : World) (bS bF N : Nat) (S Fr : Nat → Int) : Prop where
  hb : Below w0.heap.size w0 wr
  ls : w0.heap.size ≤ bS
  lf : w0.heap.size ≤ bF
  ne : bS ≠ bF
  rs : wr.rowIs bS 3 N (ri S)
  rf : wr.rowIs bF 3 N (ri Fr)
section
variable {w0 wr w' : World} {bS bF N : Nat} {S Fr : Nat → Int}
theorem SdM.below (h : SdM w0 wr bS bF N S Fr) (hb : Below wr.heap.size wr w') : SdM w0 w' bS bF N S Fr :=
  ⟨h.hb.trans (hb.mono h.hb.size), h.ls, h.lf, h.ne, h.rs.of_block (hb.block _ h.rs.lt), h.rf.of_block (hb.block _ h.rf.lt)⟩
theorem SdM.setS (h : SdM w0 wr bS bF N S Fr) (k : Nat) (x : Int) : SdM w0 (wr.setCell ⟨bS, k, none⟩ (.int .i64 x)) bS bF N (putF S k x) Fr :=
  ⟨h.hb.setCell (p := ⟨bS, k, none⟩) h.ls _, h.ls, h.lf, h.ne, row_set_ri h.rs k x, h.rf.setOther (a := ⟨bS, k, none⟩) (fun e => h.ne e.symm) _⟩
theorem SdM.setF (h : SdM w0 wr bS bF N S Fr) (k : Nat) (x : Int) : SdM w0 (wr.setCell ⟨bF, k, none⟩ (.int .i64 x)) bS bF N S (putF Fr k x) :=
  ⟨h.hb.setCell (p := ⟨bF, k, none⟩) h.lf _, h.ls, h.lf, h.ne, h.rs.setOther (a := ⟨bF, k, none⟩) h.ne _, row_set_ri h.rf k x⟩
theorem SdM.drew (h : SdM w0 wr bS bF N S Fr) : SdM w0 wr.drew bS bF N S Fr := h.below (Below.refl _ _).drew
end
/-- Two makes, one behind the other. -/
theorem SdM.make (w : World) (N : Nat) : SdM w ((w.alloc (.cells (madeCells #[.int .i64 0] N) 3)).alloc (.cells (madeCells #[.int .i64 0] N) 3)) w.heap.size (w.heap.size + 1) N (fun _ => 0) (fun _ => 0) := by
  have h1 := World.rowIs_made w (.int .i64 0) N 3
  have h2 := World.rowIs_made (w.alloc (.cells (madeCells #[.int .i64 0] N) 3)) (.int .i64 0) N 3
  rw [World.size_alloc] at h2
  have hb := below1 (w.alloc (.cells (madeCells #[.int .i64 0] N) 3)) (.cells (madeCells #[.int .i64 0] N) 3)
  exact ⟨below2 _ _ _, Nat.le_refl _, Nat.le_succ _, by omega, (h1.of_block (hb.block _ h1.lt)).congr fun _ _ => rfl, h2.congr fun _ _ => rfl⟩
theorem SdM.swap {w0 wr : World} {bS bF N : Nat} {S Fr : Nat → Int} (h : SdM w0 wr bS bF N S Fr) : SdM w0 wr bF bS N Fr S := ⟨h.hb, h.lf, h.ls, fun e => h.ne e.symm, h.rf, h.rs⟩

/-- What parts.Sides answers of a good graph. -/
def SidesPost (N : Nat) (G : Nat → Nat → Bool) (w : World) (e : Ending) (w' : World) : Prop :=
  Below w.heap.size w w' ∧
    ((∃ b S Fr P D R, e = .returned (.tuple #[.slice (some ⟨b, 0, none⟩) N N, .slice none 0 0, .agg #[.int .i64 0, .int .i64 0]]) ∧ w.heap.size ≤ b ∧ w'.rowIs b 3 N (ri S) ∧ SidI N G N [] S Fr P D R) ∨
      ∃ v m, e = .returned (.tuple #[.slice none 0 0, v, .agg #[.int .i64 0, .int .i64 0]]) ∧ w'.ownsRow w.heap.size 3 1 v m.length (nvals m) ∧ RingOk N G m ∧ m.length % 2 = 1)

/-- One element of a row. -/
theorem NB.lookS {w : World} {B N : Nat} {V : Nat → Value} {X : Nat → List Nat} (h : NB w B N V X) {r j : Nat} (hr : r < N) (hj : j < (X r).length) :
    ∃ g c, V r = .slice (some ⟨g, 0, none⟩) (X r).length c ∧ w.cell? ⟨g, j, none⟩ = some (.int .i64 ((X r).getD j 0 : Nat)) := by
  have ho := h.owns hr
  have hx : (nvals (X r))[j]? = some (.int .i64 ((X r).getD j 0 : Nat)) := by
    simp [nvals, ints, List.getD, List.getElem?_eq_getElem hj]
  rcases ho.2 with ⟨e, h0⟩ | ⟨g, cap, cur, e, -⟩
  · omega
  · have c := ho.cells (g := g) (by rw [e]; rfl) _ _ hx
    rw [Addr.add_lit, Nat.zero_add] at c
    exact ⟨g, cap, e, c⟩
theorem one_cellS (w : World) (a a2 : Addr) (x x2 v : Value) (t : TypeId) : (((w.setCell a x).setCell a2 x2).alloc (.cells #[v] t)).cell? ((⟨w.heap.size, 0, none⟩ : Addr).add 0) = some v := by
  rw [Addr.add_lit, World.cell?_alloc_at _ _ _ _ (by rw [size_setCell, size_setCell])]; rfl
theorem adj_selfS {l : List (Int × Int)} {N : Nat} (hg : GoodGraph N l) (i : Nat) : adj l i i = false := by
  unfold adj
  refine hasE_no fun k hk hm => ?_
  have := (hg.fine k hk).2.1
  unfold Meets at hm
  omega
theorem nbrs_in {l : List (Int × Int)} {N x y : Nat} (h : y ∈ nbrs l N x) : y < N ∧ adj l x y = true := by
  unfold nbrs at h; exact ⟨List.mem_range.1 (List.mem_filter.1 h).1, (List.mem_filter.1 h).2⟩
theorem nbrs_has {l : List (Int × Int)} {N x y : Nat} (hy : y < N) (h : adj l x y = true) : y ∈ nbrs l N x := by
  unfold nbrs; exact List.mem_filter.2 ⟨List.mem_range.2 hy, h⟩

set_option maxHeartbeats 6400000 in
set_option maxRecDepth 100000 in
theorem psides_ok {l : List (Int × Int)} {N : Nat} (hgood : GoodGraph N l) (s : Value) (w : World) (h : IsEdges w s l) :
    Calls Tryd.prog 28 #[.agg #[.int .i64 (N : Int), s]] w (SidesPost N (adj l) w) := by
  obtain ⟨ad, cap, rfl⟩ := h.form
  have hN : N ≤ 100 := by have := hgood.hi; omega
  have Hg := Lib.hid hgood
  have St := Lib.hid (SdG.start (n := (N : Int)) h)
  clear hgood h
  go_enter Tryd.func28, Tryd.ntmps28
  go_upto_region 1 with fail
  generalize (w.alloc (Obj.cells #[.int .i64 (N : Int), .slice ad l.length cap] 24)).alloc (Obj.cells #[.int .i64 0, .int .i64 0] 27) = w1 at *
  have cn := St.out.cn
  have cs := St.out.cs
  have hl := St.out.r.lt
  go_upto_region 2 with (go_at_call 36; refine (gcheck_is Hg.out.spec _ _ St.out.he).mono ?_; rintro e w2 ⟨rfl, hb2⟩; have S2 := Lib.hid (St.out.below (hb2.trans ((below1 w2 (Obj.cells #[.int .i64 0, .int .i64 0] 27)).mono hb2.size))); have e01 := two_cells w2 (.int .i64 0) (.int .i64 0) 27; clear hb2)
  generalize w2.alloc (Obj.cells #[.int .i64 0, .int .i64 0] 27) = w3 at *
  obtain ⟨e0, e1⟩ := e01
  clear cn cs hl St
  have cn := S2.out.cn
  have cs := S2.out.cs
  go_upto_region 4 with fail
  clear e0 e1
  go_upto_region 5 with (go_at_call 19; refine (glists_any Hg.out _ _ S2.out.he).mono ?_; rintro e w5 ⟨B, V, rfl, hnb, hlo, hb5⟩; have S5 := Lib.hid (S2.out.below hb5); have Hnb := Lib.hid hnb; have Hlo := Lib.hid hlo; have lB := hnb.ro.lt; clear hnb hlo hb5)
  clear cn cs
  have cn := S5.out.cn
  have hmk := run_make_row' (P := Tryd.prog) 29 3 (.int .i64 0) 8 Tryd.underlying29 info3 rfl .i64 .i64 N (by omega) (by omega)
  go_cut [7, 8] from 23 to 28 (fun s7 s8 wx => ∃ bS bF : Nat, s7 = .slice (some ⟨bS, 0, none⟩) N N ∧ s8 = .slice (some ⟨bF, 0, none⟩) N N ∧ SdM w5 wx bS bF N (fun _ => 0) (fun _ => 0))
  case first =>
    have cn2 := below_cell (below1 w5 (.cells (madeCells #[.int .i64 0] N) 3)) cn
    go_region
    all_goals
      go_wp2
      go_meet
      first
        | exact ⟨_, _, rfl, rfl, (SdM.make w5 N).drew⟩
        | exact ⟨_, _, rfl, rfl, (SdM.make w5 N).drew.swap⟩
  case rest =>
  obtain ⟨bS, bF, rfl, rfl, hM⟩ := hcut
  have HM := Lib.hid hM
  clear hM hmk cn
  obtain ⟨w6, rfl⟩ : ∃ w6 : World, w6 = wc := ⟨_, rfl⟩
  have hz5 := S5.out.hb.size
  have hlz := S5.out.r.lt
  go_wp2
  go_loopg [31] N (fun g s31 wr => ∃ k : Nat, k ≤ N ∧ g = N - k ∧ s31 = .int .i64 k ∧ SdM w5 wr bS bF N (fun q => if q < k then -1 else 0) (fun _ => 0))
  case atStart => exact ⟨0, Nat.zero_le _, rfl, rfl, by simpa using HM.out⟩
  case round =>
    obtain ⟨k, hk, rfl, rfl, hm⟩ := hrel
    have Hm := Lib.hid hm
    by_cases hlt : k < N
    · have ck := hm.rs.cell hlt
      have fk := hm.rs.frozen k
      have lk := hm.rs.lt
      clear hm
      go_wp2
      go_roundg (N - (k + 1))
      case measure => go_light; omega
      case rel => exact ⟨k + 1, by omega, rfl, by go_num, by
        have h1 := Hm.out.setS k (-1)
        rwa [show putF (fun q => if q < k then (-1 : Int) else 0) k (-1) = fun q => if q < k + 1 then (-1 : Int) else 0 from by
          funext q
          unfold putF
          by_cases e : q = k
          · subst e; simp
          · rw [if_neg e]
            show (if q < k then (-1 : Int) else 0) = _
            by_cases e2 : q < k
            · rw [if_pos e2, if_pos (by omega)]
            · rw [if_neg e2, if_neg (by omega)]] at h1⟩
    · obtain rfl : k = N := by omega
      have HM2 := Lib.hid (show ∃ S : Nat → Int, SdM w5 wr bS bF k S (fun _ => 0) ∧ ∀ v, v < k → S v = -1 from ⟨_, hm, fun v hv => if_pos hv⟩)
      have HS6 := Lib.hid (S5.out.below (hm.hb))
      have cn6 := HS6.out.cn
      clear hm Hm HM
      obtain ⟨wq, rfl⟩ : ∃ wq : World, wq = wr := ⟨_, rfl⟩
      have HI0 := Lib.hid (show ∃ (S Fr : Nat → Int) (P D R : Nat → Nat), SdM w5 wq bS bF k S Fr ∧ SidI k (adj l) 0 [] S Fr P D R from by
        obtain ⟨S, h1, h2⟩ := HM2.out
        exact ⟨fun _ => -1, fun _ => 0, fun _ => 0, fun _ => 0, fun _ => 0, ⟨h1.hb, h1.ls, h1.lf, h1.ne, row_ri h1.rs h2, h1.rf⟩, SidI.start⟩)
      go_wp2
      go_loopg [40] k (fun g s40 wr => ∃ (c : Nat) (S Fr : Nat → Int) (P D R : Nat → Nat), c ≤ k ∧ g = k - c ∧ s40 = .int .i64 c ∧ SdM w5 wr bS bF k S Fr ∧ SidI k (adj l) c [] S Fr P D R)
      case atStart =>
        obtain ⟨S, Fr, P, D, R, h1, h2⟩ := HI0.out
        exact ⟨0, S, Fr, P, D, R, Nat.zero_le _, rfl, rfl, h1, h2⟩
      case round =>
        obtain ⟨c, S, Fr, P, D, R, hc, rfl, rfl, hm, hi⟩ := hrel
        have Hm := Lib.hid hm; have Hi := Lib.hid hi
        clear hi
        by_cases hlt : c < k
        · have cc := hm.rs.cell hlt
          have cf := hm.rf.cell hlt
          simp only [ri] at cc cf
          clear hm
          by_cases hs : 0 ≤ S c
          · have Hnx := Lib.hid (Hi.out.next hs)
            go_wp2
            go_roundg (k - (c + 1))
            case measure => go_light; omega
            case rel => exact ⟨c + 1, S, Fr, P, D, R, by omega, rfl, by go_num, Hm.out, Hnx.out⟩
          · obtain ⟨wp, rfl⟩ : ∃ wp : World, wp = wr := ⟨_, rfl⟩
            have hs0 : S c < 0 := by omega
            have hz57 := Hm.out.hb.size
            have Hop := Lib.hid (Hi.out.open' hlt hs0)
            have hcn := cnt_putS (N := k) (x := 0) hlt hs0 (Int.le_refl _)
            obtain ⟨c0, hc0⟩ : ∃ c0, c0 = cnt (hasS S) k := ⟨_, rfl⟩
            rw [← hc0] at hcn
            have Hcn := Lib.hid hcn
            have hc0k := cnt_le (hasS S) k
            rw [← hc0] at hc0k
            have Hcn2 := Lib.hid hc0k
            clear hc0 hc0k
            have fs := Hm.out.rs.frozen c
            have ff := Hm.out.rf.frozen c
            have ls := Hm.out.rs.lt
            have lf := Hm.out.rf.lt
            have cf2 := (Hm.out.setS c 0).rf.cell hlt
            simp only [ri] at cf2
            have M1 := Lib.hid (((Hm.out.setS c 0).setF c (-1)).below (below1 _ (.cells #[.int .i64 (c : Int)] 3)))
            have hzz : ((wp.setCell ⟨bS, c, none⟩ (.int .i64 0)).setCell ⟨bF, c, none⟩ (.int .i64 (-1))).heap.size = wp.heap.size := by rw [size_setCell, size_setCell]
            have hq4 := QIs.one ((wp.setCell ⟨bS, c, none⟩ (.int .i64 0)).setCell ⟨bF, c, none⟩ (.int .i64 (-1))) wp.heap.size c (by rw [hzz]; exact Nat.le_refl _)
            rw [hzz] at hq4
            have Hq4 := Lib.hid hq4
            clear hq4 hcn
            go_wp2
            generalize ((wp.setCell ⟨bS, c, none⟩ (.int .i64 0)).setCell ⟨bF, c, none⟩ (.int .i64 (-1))).alloc (.cells #[.int .i64 (c : Int)] 3) = w7 at *
            generalize Value.slice (some ⟨wp.heap.size, 0, none⟩) 1 1 = vq at *
            clear cc cf cf2 fs ff hzz
            go_loopg [11] k (fun g s11 wr => ∃ (S Fr : Nat → Int) (P D R : Nat → Nat) (Q : List Nat), g ≤ k ∧ g + cnt (hasS S) k = k + c0 + Q.length ∧ SdM w5 wr bS bF k S Fr ∧ SidI k (adj l) c Q S Fr P D R ∧ QIs wr wp.heap.size s11 Q ∧ 0 ≤ S c)
            case atStart => exact ⟨_, _, P, _, _, [c], Nat.le_refl _, by rw [Hcn.out]; simp only [List.length_cons, List.length_nil]; omega, M1.out, Hop.out, Hq4.out, by rw [putF_at]; exact Int.le_refl _⟩
            case round =>
              clear Hop Hcn Hi Hm M1 Hq4
              obtain ⟨S, Fr, P, D, R, Q, hgk, hg, hm, hi, hq, hsc⟩ := hrel
              have Hgk := Lib.hid hgk
              clear hgk
              have Hg1 := Lib.hid hg; have Hi := Lib.hid hi; have Hm := Lib.hid hm
              obtain ⟨b, off, cap2, K, f, rfl, hq⟩ := hq
              have Hq := Lib.hid hq
              clear hg hi
              rcases Q with _ | ⟨x, Rq⟩
              · have Hnx := Lib.hid (Hi.out.next hsc)
                clear hm hq
                go_wp2
                go_roundg (k - (c + 1))
                case measure => go_light; omega
                case rel => exact ⟨c + 1, S, Fr, P, D, R, by omega, rfl, by go_num, Hm.out, Hnx.out⟩
              · have hq0 := hq.cell (show 0 < (x :: Rq).length by simp)
                rw [Nat.add_zero] at hq0
                have hq0 : wr.cell? ⟨b, off, none⟩ = some (.int .i64 (x : Int)) := hq0
                obtain ⟨hx, hsx, -⟩ := Hi.out.qs x (by simp)
                have hnb5 := Hnb.out.below hm.hb
                obtain ⟨au, cu, eu⟩ := hnb5.form hx
                have Eu := Lib.hid eu
                have t1 := hnb5.ro.cell hx
                rw [eu] at t1
                have hlR : (0 : Int) < (((x :: Rq).length : Nat) : Int) := by simp only [List.length_cons]; omega
                have hlR' : 0 < (x :: Rq).length := by simp only [List.length_cons]; omega
                have hcap := hq.len
                have hnu : (nbrs l k x).length ≤ k := by rw [nbrs_length]; exact cntN_le _ _
                have Hsc := Lib.hid hsc; have Hsx := Lib.hid hsx
                clear hq hm hnb5 eu hsc hsx
                generalize hnQ : (x :: Rq).length = nQ at *
                have HnQ := Lib.hid hnQ
                clear hnQ
                generalize hnX : (nbrs l k x).length = nu at *
                have HnX := Lib.hid hnX
                clear hnX
                go_wp2
                have Hq0 := Lib.hid hq0
                clear hq0 t1 hcap hlR hlR'
                go_loopg [11, 69] nu (fun g s11 s69 wi => ∃ (j : Nat) (S Fr : Nat → Int) (P D R : Nat → Nat) (Q : List Nat), j ≤ nu ∧ g = nu - j ∧ s69 = .int .i64 (j : Int) ∧ gk + cnt (hasS S) k = k + c0 + (x :: Q).length ∧ SdM w5 wi bS bF k S Fr ∧ SidI k (adj l) c (x :: Q) S Fr P D R ∧ QIs wi wp.heap.size s11 (x :: Q) ∧ 0 ≤ S c ∧ ∀ j', j' < j → 0 ≤ S ((nbrs l k x).getD j' 0) ∧ S ((nbrs l k x).getD j' 0) = 1 - S x ∧ R ((nbrs l k x).getD j' 0) = R x)
                case atStart => exact ⟨0, S, Fr, P, D, R, Rq, Nat.zero_le _, rfl, rfl, by rw [Hg1.out, HnQ.out], Hm.out, Hi.out, ⟨b, off, cap2, K, f, by rw [HnQ.out], Hq.out⟩, Hsc.out, fun _ h => absurd h (Nat.not_lt_zero _)⟩
                case round =>
                  clear Hg1 Hi Hm Hq Hq0 HnQ Hsc Hsx
                  obtain ⟨j, S, Fr, P, D, R, Q, hj, rfl, rfl, hg, hm, hi, hq, hsc, hall⟩ := hrel
                  have Hg1 := Lib.hid hg; have Hi := Lib.hid hi; have Hm := Lib.hid hm; have Hall := Lib.hid hall; have Hsc := Lib.hid hsc
                  obtain ⟨b2, off2, cap2, K2, f2, rfl, hq⟩ := hq
                  have Hq := Lib.hid hq
                  clear hg hi hall hsc
                  generalize hn2 : (x :: Q).length = n2 at *
                  have Hn2 := Lib.hid hn2
                  clear hn2
                  by_cases hjl : j < nu
                  · obtain ⟨gu, cu', eu, hcu⟩ := (Hnb.out.below hm.hb).lookS hx (show j < (nbrs l k x).length by rw [HnX.out]; exact hjl)
                    obtain ⟨rfl, rfl⟩ : au = some ⟨gu, 0, none⟩ ∧ cu = cu' := by
                      have := Eu.out.symm.trans eu
                      simp only [Value.slice.injEq] at this
                      exact ⟨this.1, this.2.2⟩
                    have hmem : (nbrs l k x).getD j 0 ∈ nbrs l k x := by
                      have hj' : j < (nbrs l k x).length := by rw [HnX.out]; exact hjl
                      rw [List.getD, List.getElem?_eq_getElem hj']
                      exact List.getElem_mem hj'
                    obtain ⟨hy, hxy⟩ := nbrs_in hmem
                    generalize hij : (nbrs l k x).getD j 0 = y at *
                    have Hij := Lib.hid hij; have Hxy := Lib.hid hxy
                    have cy := hm.rs.cell hy
                    have cx := hm.rs.cell hx
                    have cfy := hm.rf.cell hy
                    simp only [ri] at cy cx cfy
                    have fS := hm.rs.frozen y
                    have fF := hm.rf.frozen y
                    have lS := hm.rs.lt
                    have lF := hm.rf.lt
                    have hsz := hm.hb.size
                    clear hij hxy hmem eu hm
                    have hrx := Hi.out.t.rng x hx
                    have hry := Hi.out.t.rng y hy
                    have hsx := (Hi.out.qs x (by simp)).2.1
                    have Hsx := Lib.hid hsx
                    by_cases hys : S y < 0
                    · have hx1 : 0 ≤ 1 - S x := by omega
                      have Hpu := Lib.hid (Hi.out.push hy hys Hxy.out)
                      have hcy := cnt_putS (N := k) (x := 1 - S x) hy hys hx1
                      have Hcy := Lib.hid hcy
                      have hne : x ≠ y := fun e => by rw [e] at hsx; omega
                      have Hall2 := Lib.hid (show ∀ j', j' < j + 1 → 0 ≤ putF S y (1 - S x) ((nbrs l k x).getD j' 0) ∧ putF S y (1 - S x) ((nbrs l k x).getD j' 0) = 1 - putF S y (1 - S x) x ∧ putF R y c ((nbrs l k x).getD j' 0) = putF R y c x from fun j' hj' => by
                        rw [putF_ne S _ hne, putF_ne R _ hne]
                        by_cases e : (nbrs l k x).getD j' 0 = y
                        · rw [e, putF_at, putF_at]; exact ⟨hx1, rfl, (Hi.out.qs x (by simp)).2.2.symm⟩
                        · have h1 : j' < j := by
                            by_cases e2 : j' = j
                            · subst e2; exact absurd Hij.out e
                            · omega
                          rw [putF_ne S _ e, putF_ne R _ e]; exact Hall.out j' h1)
                      have Hsc2 := Lib.hid (show 0 ≤ putF S y (1 - S x) c from by
                        by_cases e : c = y
                        · rw [e, putF_at]; exact hx1
                        · rw [putF_ne S _ e]; exact Hsc.out)
                      obtain ⟨sx, esx⟩ : ∃ sx, sx = S x := ⟨_, rfl⟩
                      obtain ⟨sy, esy⟩ : ∃ sy, sy = S y := ⟨_, rfl⟩
                      have cfy2 := (Hm.out.setS y (1 - S x)).rf.cell hy
                      simp only [ri] at cfy2
                      have M5 := Lib.hid (((Hm.out.setS y (1 - S x)).setF y (x : Int)).below (below1 _ (.cells #[.int .i64 (y : Int)] 3)))
                      have hzw : wp.heap.size ≤ wr.heap.size := by
                        have := Hq.out.ge
                        have := Hq.out.row.lt
                        omega
                      have Q5 := Lib.hid (show QIs (((wr.setCell ⟨bS, y, none⟩ (.int .i64 (1 - S x))).setCell ⟨bF, y, none⟩ (.int .i64 (x : Int))).alloc (.cells #[.int .i64 (y : Int)] 3)) wp.heap.size (.slice (some ⟨b2, off2, none⟩) n2 cap2) (x :: Q) from
                        QIs.below (QIs.set (QIs.set (w := wr) ⟨b2, off2, cap2, K2, f2, by rw [Hn2.out], Hq.out⟩ ls y _) lf y _) ((Below.refl _ _).alloc (Nat.le_refl _) _))
                      have hn2s : n2 < 1000000 := by
                        have h1 := Hg1.out
                        have h2 := cnt_le (hasS S) k
                        have h3 := Hgk.out
                        omega
                      rw [← esx] at cx cfy2 M5 Q5
                      rw [← esy] at cy hys
                      have hwr : IntKind.i64.wrap (1 - sx) = 1 - sx := IntWalk.i64_in _ (by omega)
                      have Esx := Lib.hid esx
                      clear esx esy hrx hry hsx hx1 hcy hne hq
                      go_wp2_with (at_builtin; refine wpList_append_q rfl (.tmp 90) (.tmp 92) 29 rfl Tryd.underlying29 info3 _ (x :: Q) rfl Q5.out _ _ y rfl (one_cellS _ _ _ _ _ _ _) (by rw [Hn2.out]; exact hn2s) (by rw [World.size_alloc, size_setCell, size_setCell]; omega) ?_; intro v6 w6 hq6 hb6; have Hq6 := Lib.hid hq6; have Hb6 := Lib.hid hb6; clear hq6 hb6)
                      go_roundg (nu - (j + 1))
                      case measure => go_light; omega
                      case rel =>
                        have h1 := Hg1.out
                        have h3 := Hn2.out
                        simp only [List.length_cons] at h3
                        refine ⟨j + 1, putF S y (1 - S x), putF Fr y (x : Int), putF P y x, putF D y (D x + 1), putF R y c, Q ++ [y], by omega, rfl, by go_num, ?_, ?_, Hpu.out, Hq6.out, Hsc2.out, Hall2.out⟩
                        · rw [Hcy.out]
                          simp only [List.length_cons, List.length_append, List.length_nil]
                          omega
                        · rw [← Esx.out]
                          exact ⟨M5.out.hb.trans (Hb6.out.mono hz57), M5.out.ls, M5.out.lf, M5.out.ne, M5.out.rs.of_block (Hb6.out.block _ ls), M5.out.rf.of_block (Hb6.out.block _ lf)⟩
                    · by_cases hyx : S y = S x
                      · have hsy : 0 ≤ S y := by omega
                        have hmt := Hi.out.meet (fun i j _ _ => adj_sy l i j) (by simp) hy hsy Hxy.out
                        obtain ⟨hux, hrx2⟩ := Hi.out.t.up hx hsx
                        obtain ⟨huy, hry2⟩ := Hi.out.t.up hy hsy
                        have hdx := Hi.out.t.few x hx hsx
                        have hdy := Hi.out.t.few y hy hsy
                        have hcl := cnt_le (hasS S) k
                        have hDx : D x < 1000 := by omega
                        have hDy : D y < 1000 := by omega
                        have hmm : anc P x (D x) = anc P y (D y) := by rw [hrx2, hry2, hmt]
                        have HUx := Lib.hid hux; have HUy := Lib.hid huy; have HUm := Lib.hid hmm
                        have Hring := Lib.hid (fun p q (h : MeetAt P x y (D x) (D y) p q) => Hi.out.t.ring hN (fun i j _ _ => adj_sy l i j) (fun i _ => adj_selfS Hg.out i) hx hy hsx hsy hyx.symm Hxy.out h)
                        have HR := Lib.hid (fun (n : Nat) => pring_any (wr.drewN n) hDx hDy hN (Hm.out.rf.of_block (w' := wr.drewN n) rfl) HUx.out HUy.out HUm.out)
                        have HS7 := Lib.hid (S5.out.below Hm.out.hb)
                        obtain ⟨z0, z1, f0, f1, l0⟩ := row_facts HS7.out.r
                        have hwz : w.heap.size + 1 < wr.heap.size := l0
                        obtain ⟨sx, esx⟩ : ∃ sx, sx = S x := ⟨_, rfl⟩
                        rw [hyx] at cy hys
                        rw [← esx] at cx cy hys
                        have qn : (sx == sx) = true := by simp
                        clear esx hrx hry hsx hsy hyx hq hmt hux huy hrx2 hry2 hdx hdy hcl hmm
                        go_wp2
                        go_quiet (fail)
                        go_wp2
                        go_region_with (go_at_call 45; refine (HR.out _).mono ?_; rintro e w8 ⟨v8, p8, q8, rfl, hm8, ho8, hb8⟩; have S8 := Lib.hid (HS7.out.below (show Below wr.heap.size wr w8 from (Below.drewN' (Below.refl wr.heap.size wr) _).trans hb8)); have hz8 : wr.heap.size ≤ w8.heap.size := hb8.size; obtain ⟨y0, y1, g0, g1, l8⟩ := row_facts S8.out.r; have Hm8 := Lib.hid hm8; have Ho8 := Lib.hid ho8; clear hm8 ho8 hb8)
                        all_goals
                          go_wp2
                          have d0 := (S8.out.r.set 0 (.int .i64 0)).cell (show 0 < 2 by omega)
                          simp only [if_true] at d0
                          have e := (S8.out.r.set 0 (.int .i64 0)).set 1 (.int .i64 0)
                          have e0 := e.cell (show 0 < 2 by omega)
                          have e1 := e.cell (show 1 < 2 by omega)
                          simp only [if_true, show ¬ (1 : Nat) = 0 by omega, show ¬ (0 : Nat) = 1 by omega, if_false] at e0 e1
                          have hfin := ((S8.out.hb).setCell (p := ⟨w.heap.size + 1, 0, none⟩) (by show w.heap.size ≤ w.heap.size + 1; omega) (.int .i64 0)).setCell (p := ⟨w.heap.size + 1, 1, none⟩) (by show w.heap.size ≤ w.heap.size + 1; omega) (.int .i64 0)
                          have o1 := Ho8.out.kept (grown_set w8 (w.heap.size + 1) 0 (.int .i64 0)) (own_side Ho8.out hwz)
                          have o2 := o1.kept (grown_set (w8.setCell ⟨w.heap.size + 1, 0, none⟩ (.int .i64 0)) (w.heap.size + 1) 1 (.int .i64 0)) (own_side o1 hwz)
                          have o3 := own_lower (b' := w.heap.size) o2 (show w.heap.size ≤ wr.heap.size by omega)
                          obtain ⟨r1, r2⟩ := Hring.out _ _ Hm8.out
                          exact bodyPost_ret (v := .tuple #[.slice none 0 0, v8, .agg #[.int .i64 0, .int .i64 0]]) (by simp [results, Tryd.results28, go_sem, d0, e0, e1]) rfl ⟨hfin, Or.inr ⟨v8, ringL P x y p8 q8, rfl, by rw [ringL_len]; exact o3, r1, by rw [ringL_len]; exact r2⟩⟩
                      · have Hnx := Lib.hid (show ∀ j', j' < j + 1 → 0 ≤ S ((nbrs l k x).getD j' 0) ∧ S ((nbrs l k x).getD j' 0) = 1 - S x ∧ R ((nbrs l k x).getD j' 0) = R x from fun j' hj' => by
                          by_cases e : j' = j
                          · subst e; rw [Hij.out]
                            exact ⟨by omega, by omega, (Hi.out.meet (fun i j _ _ => adj_sy l i j) (by simp) hy (by omega) Hxy.out).symm⟩
                          · exact Hall.out j' (by omega))
                        obtain ⟨sx, esx⟩ : ∃ sx, sx = S x := ⟨_, rfl⟩
                        obtain ⟨sy, esy⟩ : ∃ sy, sy = S y := ⟨_, rfl⟩
                        rw [← esx] at cx hyx
                        rw [← esy] at cy hys hyx
                        have qn : (sy == sx) = false := by simp [hyx]
                        clear esx esy hrx hry hsx hyx hq
                        go_wp2
                        go_quiet (fail)
                        go_wp2
                        go_roundg (nu - (j + 1))
                        case measure => go_light; omega
                        case rel => exact ⟨j + 1, S, Fr, P, D, R, Q, by omega, rfl, by go_num, by rw [Hn2.out]; exact Hg1.out, Hm.out.below (Below.drewN' (Below.refl _ _) _), Hi.out, QIs.below ⟨b2, off2, cap2, K2, f2, by rw [Hn2.out], Hq.out⟩ (Below.drewN' (Below.refl _ _) _), Hsc.out, Hnx.out⟩
                  · obtain rfl : nu = j := by omega
                    have hcap := Hq.out.len
                    obtain ⟨i3, hi3, -, hsz3, -⟩ := info_parts info3
                    have hsl : ∀ w, (Instr.slice 29 (.slice (some ⟨b2, off2, none⟩) n2 cap2) (some (.int .i64 1)) none none).run Tryd.prog w = .ok (.slice (cutAt b2 off2 (cap2 - 1)) Q.length (cap2 - 1)) w := by
                      rw [← Hn2.out]; exact run_slice_one (P := Tryd.prog) Tryd.underlying29 hi3 hsz3 b2 off2 Q.length cap2 (by have := Hq.out.len; simpa using this)
                    have hcle := cnt_le (hasS S) k
                    have Hcle := Lib.hid hcle
                    have Hpop := Lib.hid (Hi.out.pop (fun w hw hgw => by
                      obtain ⟨j', hj', ej⟩ := List.mem_iff_getElem.1 (nbrs_has hw hgw)
                      have e : w = (nbrs l k x).getD j' 0 := by rw [List.getD, List.getElem?_eq_getElem hj']; exact ej.symm
                      rw [e]
                      exact Hall.out j' (by rw [← HnX.out]; exact hj')))
                    clear hm hq hcap hi3 hsz3 hcle
                    go_wp2
                    go_roundg (gk - 1)
                    case measure =>
                      have h1 := Hg1.out
                      have h2 := Hcle.out
                      have h3 := Hn2.out
                      simp only [List.length_cons] at h3
                      go_light; omega
                    case rel =>
                      have h1 := Hg1.out
                      have h2 := Hcle.out
                      have h3 := Hn2.out
                      simp only [List.length_cons] at h3
                      have h4 := Hgk.out
                      exact ⟨S, Fr, P, D, R, Q, by omega, by omega, Hm.out, Hpop.out, Hq.out.cut, Hsc.out⟩
        · obtain rfl : c = k := by omega
          have HS7 := Lib.hid (S5.out.below hm.hb)
          obtain ⟨z0, z1, f0, f1, l0⟩ := row_facts HS7.out.r
          have hlS := hm.ls
          clear hm
          go_wp2
          go_region
          all_goals
            go_wp2
            have d0 := (HS7.out.r.set 0 (.int .i64 0)).cell (show 0 < 2 by omega)
            simp only [if_true] at d0
            have e := (HS7.out.r.set 0 (.int .i64 0)).set 1 (.int .i64 0)
            have e0 := e.cell (show 0 < 2 by omega)
            have e1 := e.cell (show 1 < 2 by omega)
            simp only [if_true, show ¬ (1 : Nat) = 0 by omega, show ¬ (0 : Nat) = 1 by omega, if_false] at e0 e1
            have hfin := ((HS7.out.hb).setCell (p := ⟨w.heap.size + 1, 0, none⟩) (by show w.heap.size ≤ w.heap.size + 1; omega) (.int .i64 0)).setCell (p := ⟨w.heap.size + 1, 1, none⟩) (by show w.heap.size ≤ w.heap.size + 1; omega) (.int .i64 0)
            have hrw := (Hm.out.rs.setOther (a := ⟨w.heap.size + 1, 0, none⟩) (by show bS ≠ w.heap.size + 1; omega) (.int .i64 0)).setOther (a := ⟨w.heap.size + 1, 1, none⟩) (by show bS ≠ w.heap.size + 1; omega) (.int .i64 0)
            exact bodyPost_ret (v := .tuple #[.slice (some ⟨bS, 0, none⟩) c c, .slice none 0 0, .agg #[.int .i64 0, .int .i64 0]]) (by simp [results, Tryd.results28, go_sem, d0, e0, e1]) rfl ⟨hfin.drew, Or.inl ⟨bS, S, Fr, P, D, R, rfl, by omega, hrw.of_block rfl, Hi.out⟩⟩

end Go.Proofs.YtnhhohhhpaejmaaDoor
