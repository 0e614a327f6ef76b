/- walks.Girth: the shortest ring, by searches in breadth. -/
import Derived.Test.YtnmljgjegodkaaaPA
import Derived.Test.YtnmljgjegodkaaaEulW
namespace Go.Proofs.Ytnmljgjegodkaaa
open Go.RowKit

/-- Two rows of numbers, under way. -/
structure Gi2 (w wr : World) (bd bf N : Nat) (F Fr : Nat → Int) : Prop where
  hb : Below w.heap.size w wr
  nd : w.heap.size ≤ bd
  nf : w.heap.size ≤ bf
  ne : bd ≠ bf
  rd : wr.rowIs bd 3 N (ri F)
  rf : wr.rowIs bf 3 N (ri Fr)
section
variable {w wr w' : World} {bd bf N : Nat} {F Fr : Nat → Int}
theorem Gi2.setD (h : Gi2 w wr bd bf N F Fr) (k : Nat) (x : Int) : Gi2 w (wr.setCell ⟨bd, k, none⟩ (.int .i64 x)) bd bf N (fun q => if q = k then x else F q) Fr :=
  ⟨h.hb.setCell h.nd _, h.nd, h.nf, h.ne, row_set_ri h.rd k x, h.rf.setOther (a := ⟨bd, k, none⟩) (by show bf ≠ bd; exact h.ne.symm) _⟩
theorem Gi2.setF (h : Gi2 w wr bd bf N F Fr) (k : Nat) (x : Int) : Gi2 w (wr.setCell ⟨bf, k, none⟩ (.int .i64 x)) bd bf N F (fun q => if q = k then x else Fr q) :=
  ⟨h.hb.setCell h.nf _, h.nd, h.nf, h.ne, h.rd.setOther (a := ⟨bf, k, none⟩) (by show bd ≠ bf; exact h.ne) _, row_set_ri h.rf k x⟩
theorem Gi2.below (h : Gi2 w wr bd bf N F Fr) (hb : Below wr.heap.size wr w') : Gi2 w w' bd bf N F Fr :=
  ⟨h.hb.trans (hb.mono h.hb.size), h.nd, h.nf, h.ne, h.rd.of_block (hb.block _ h.rd.lt), h.rf.of_block (hb.block _ h.rf.lt)⟩
theorem Gi2.congr {F' Fr' : Nat → Int} (h : Gi2 w wr bd bf N F Fr) (e : ∀ q, q < N → F q = F' q) (e2 : ∀ q, q < N → Fr q = Fr' q) : Gi2 w wr bd bf N F' Fr' := ⟨h.hb, h.nd, h.nf, h.ne, row_ri h.rd e, row_ri h.rf e2⟩
theorem two_madeG (W : World) (M : Nat) : ((W.alloc (.cells (madeCells #[.int .i64 0] M) 3)).alloc (.cells (madeCells #[.int .i64 0] M) 3)).rowIs W.heap.size 3 M (ri fun _ => 0) ∧
    ((W.alloc (.cells (madeCells #[.int .i64 0] M) 3)).alloc (.cells (madeCells #[.int .i64 0] M) 3)).rowIs (W.heap.size + 1) 3 M (ri fun _ => 0) ∧
    Below W.heap.size W ((W.alloc (.cells (madeCells #[.int .i64 0] M) 3)).alloc (.cells (madeCells #[.int .i64 0] M) 3)) := by
  have h1 := World.rowIs_made W (.int .i64 0) M 3
  have h2 := World.rowIs_made (W.alloc (.cells (madeCells #[.int .i64 0] M) 3)) (.int .i64 0) M 3
  rw [World.size_alloc] at h2
  have hb := below1 (W.alloc (.cells (madeCells #[.int .i64 0] M) 3)) (.cells (madeCells #[.int .i64 0] M) 3)
  exact ⟨(h1.of_block (hb.block _ h1.lt)).congr fun i _ => rfl, h2.congr fun i _ => rfl, below2 _ _ _⟩
end
theorem nbrs_take {l : List (Int × Int)} {N x j : Nat} (hj : j < (nbrs l N x).length) : (nbrs l N x).take (j + 1) = (nbrs l N x).take j ++ [(nbrs l N x).getD j 0] ∧ (nbrs l N x).getD j 0 ∉ (nbrs l N x).take j := by
  refine ⟨by rw [List.take_add_one, List.getD, List.getElem?_eq_getElem hj]; rfl, fun hm => ?_⟩
  obtain ⟨i, hi, e⟩ := List.getElem_of_mem hm
  rw [List.length_take] at hi
  rw [List.getElem_take] at e
  have e2 : (nbrs l N x).getD j 0 = (nbrs l N x)[j] := by rw [List.getD, List.getElem?_eq_getElem hj]; rfl
  rw [e2] at e
  have hn : (nbrs l N x).Nodup := by unfold nbrs; exact List.nodup_range.filter _
  have := (List.getElem_inj hn).1 e
  omega
theorem seen_start {i a : Nat} (ha : a < i) : cnt (seenF fun v => if v = a then (0 : Int) else -1) i = 1 := by
  have h0 : ∀ n, cnt (fun _ => false) n = 0 := fun n => by
    induction n with
    | zero => rfl
    | succ n ih => rw [cnt, ih]; simp
  have h1 := cnt_seen (I := fun _ => false) ha rfl
  rw [h0] at h1
  have e : (seenF fun v => if v = a then (0 : Int) else -1) = fun q => if q = a then true else (fun _ => false) q := by
    funext q; unfold seenF; by_cases e : q = a <;> simp [e]
  rw [e, h1]
theorem one_cellG (w : World) (a b : Addr) (x y v : Value) (t : TypeId) : (((w.setCell a x).setCell b y).alloc (.cells #[v] t)).cell? ((⟨w.heap.size, 0, none⟩ : Addr).add 0) = some v := by
  rw [Addr.add_lit, World.cell?_alloc_at _ _ _ _ (show w.heap.size = ((w.setCell a x).setCell b y).heap.size by rw [size_setCell, size_setCell])]; rfl
/-- What walks.Girth answers. -/
def GirthPost (n : Int) (l : List (Int × Int)) (w : World) (e : Ending) (w' : World) : Prop :=
  ∃ c0 a0 g, GraphSpec n l c0 a0 ∧ e = .returned (.tuple #[.int .i64 g, .agg #[.int .i64 c0, .int .i64 a0]]) ∧ Below w.heap.size w w' ∧ ((c0 ≠ 0 ∧ g = 0) ∨ (c0 = 0 ∧ ∃ N : Nat, n = N ∧ GoodGraph N l ∧ GirthIs N (adj l) g))

set_option maxHeartbeats 6400000 in
set_option maxRecDepth 100000 in
theorem girth_any (n : Int) (l : List (Int × Int)) (s : Value) (w : World) (h : IsEdges w s l) :
    Calls Try.prog 23 #[.agg #[.int .i64 n, s]] w (GirthPost n l w) := by
  obtain ⟨ad, cap, rfl⟩ := h.form
  have St := Lib.hid (WkG.start (n := n) h)
  clear h
  go_enter Try.func23, Try.ntmps23
  go_upto_region 1 with fail
  generalize (w.alloc (Obj.cells #[.int .i64 n, .slice ad l.length cap] 24)).alloc (Obj.cells #[.int .i64 0, .int .i64 0] 27) = w1 at *
  have cn := St.out.cn
  have cs := St.out.cs
  have hlS := St.out.r.lt
  go_upto_region 2 with (go_at_call 46; refine (wlook_any n l [] _ _ _ St.out.he (IsInts.nil _) (by simp)).mono ?_; rintro e w2 ⟨c, a, hR, rfl, hb2⟩; have hz2 := hb2.size; have hb3 := hb2.trans ((below1 w2 (Obj.cells #[.int .i64 c, .int .i64 a] 27)).mono hb2.size); have S2 := Lib.hid (St.out.below hb3); have HR := Lib.hid (look_nil hR); have e01 := two_cells w2 (.int .i64 c) (.int .i64 a) 27; clear hR hb2 hb3)
  generalize w2.alloc (Obj.cells #[.int .i64 c, .int .i64 a] 27) = w3 at *
  obtain ⟨e0, e1⟩ := e01
  clear cn cs St
  have n1 : w.heap.size + 1 ≠ w2.heap.size := by omega
  generalize w2.heap.size = E at *
  by_cases hc : c = 0
  · subst hc
    obtain ⟨hg, rfl⟩ := HR.out.good
    obtain ⟨N, rfl⟩ := Int.eq_ofNat_of_zero_le hg.lo
    have hN : N ≤ 100 := by have := hg.hi; omega
    have Hg := Lib.hid hg
    have HGr := Lib.hid (good_gr hg)
    clear hg
    have cn := S2.out.cn
    have cs := S2.out.cs
    go_upto_region 4 with fail
    clear e0 e1
    go_upto_region 7 with (go_at_call 50; refine (glists_any Hg.out _ _ S2.out.he).mono ?_; rintro e w5 ⟨BL, V, rfl, hnb, -, hb5⟩; have Hnb := Lib.hid hnb; have S5 := Lib.hid (S2.out.below hb5); have cn5 := S5.out.cn; clear hnb hb5)
    clear cn cs S2 cn5
    have hmk := run_make_row' (P := Try.prog) 29 3 (.int .i64 0) 8 Try.underlying29 info3 rfl .i64 .i64 N (by omega) (by omega)
    have Hmk := Lib.hid hmk
    clear hmk
    go_loopg [6, 26] N (fun g s6 s26 wr => ∃ (v : Nat) (best : Int), v ≤ N ∧ g = N - v ∧ s26 = .int .i64 (v : Int) ∧ s6 = .int .i64 best ∧ GiA N (adj l) best ∧ GiB N (adj l) v best ∧ Below w5.heap.size w5 wr)
    case atStart => exact ⟨0, 0, Nat.zero_le _, rfl, rfl, rfl, .inl rfl, fun a b L h => absurd h (Nat.not_lt_zero _), Below.refl _ _⟩
    case round =>
      obtain ⟨v, best, hv, rfl, rfl, rfl, hA, hB, hb⟩ := hrel
      have HA := Lib.hid hA; have HB := Lib.hid hB; have Hb := Lib.hid hb
      have Sr := Lib.hid (S5.out.below hb)
      clear hA hB hb
      by_cases hlt : v < N
      · obtain ⟨w8, rfl⟩ : ∃ w8 : World, w8 = wr := ⟨_, rfl⟩
        have cn := Sr.out.cn
        have hmk := Hmk.out
        have cn1 := below_cell (below1 w8 (.cells (madeCells #[.int .i64 0] N) 3)) cn
        go_upto_region 9 with fail
        go_cut [8, 9] from 29 to 34 (fun s8 s9 wx => ∃ bd bf, s8 = .slice (some ⟨bd, 0, none⟩) N N ∧ s9 = .slice (some ⟨bf, 0, none⟩) N N ∧ bd < w8.heap.size + 2 ∧ bf < w8.heap.size + 2 ∧ Gi2 w8 wx bd bf N (fun _ => 0) (fun _ => 0) ∧ wx.heap.size = w8.heap.size + 2)
        case first =>
          go_region
          all_goals
            obtain ⟨r1, r2, r3⟩ := two_madeG w8 N
            go_wp2_with fail
            go_meet
            first
              | exact ⟨w8.heap.size, w8.heap.size + 1, rfl, rfl, by omega, by omega, ⟨r3.drew, Nat.le_refl _, by omega, by omega, r1, r2⟩, by simp⟩
              | exact ⟨w8.heap.size + 1, w8.heap.size, rfl, rfl, by omega, by omega, ⟨r3.drew, by omega, Nat.le_refl _, by omega, r2, r1⟩, by simp⟩
        case rest =>
        obtain ⟨bd, bf, rfl, rfl, hbd, hbf, hg2, hzc⟩ := hcut
        have Hg2 := Lib.hid hg2
        have hne := hg2.ne
        clear cn cn1 hmk hg2
        go_upto_region 11 with fail
        go_loopg [37] N (fun g s37 wi => ∃ i : Nat, i ≤ N ∧ g = N - i ∧ s37 = .int .i64 (i : Int) ∧ Gi2 w8 wi bd bf N (fun q => if q < i then -1 else 0) (fun _ => 0) ∧ wi.heap.size = w8.heap.size + 2)
        case atStart => exact ⟨0, Nat.zero_le _, rfl, rfl, Hg2.out.congr (fun q _ => by simp) (fun _ _ => rfl), hzc⟩
        case round =>
          clear Hg2 hzc
          obtain ⟨i, hi, rfl, rfl, hst, hz⟩ := hrel
          by_cases hlt2 : i < N
          · have ci := hst.rd.cell hlt2
            have fi := hst.rd.frozen i
            have li := hst.rd.lt
            simp only [ri] at ci
            have Hst := Lib.hid ((hst.setD i (-1)).congr (F' := fun q => if q < i + 1 then -1 else 0) (fun q _ => by
              by_cases e : q = i
              · subst e; simp
              · rw [if_neg e]
                by_cases e2 : q < i
                · simp [e2, show q < i + 1 by omega]
                · simp [e2, show ¬ q < i + 1 by omega]) (fun _ _ => rfl))
            have Hz2 := Lib.hid (show (wr.setCell ⟨bd, i, none⟩ (.int .i64 (-1))).heap.size = w8.heap.size + 2 by rw [size_setCell, hz])
            clear hst hz
            go_wp2
            go_roundg (N - (i + 1))
            case measure => go_light; omega
            case rel => exact ⟨i + 1, by omega, rfl, by go_num, Hst.out, Hz2.out⟩
          · obtain rfl : N = i := by omega
            have t0 := hst.rd.cell hlt
            have f0 := hst.rd.frozen v
            have l0 := hst.rd.lt
            have t1 := hst.rf.cell hlt
            have f1 := hst.rf.frozen v
            have l1 := hst.rf.lt
            simp only [ri] at t0 t1
            have R2 := Lib.hid (((hst.setD v 0).setF v (-1)).congr (F' := fun q => if q = v then 0 else -1) (Fr' := fun q => if q = v then -1 else 0) (fun q hq => by
              by_cases e : q = v <;> simp [e, hq]) (fun q _ => rfl))
            have hz4 : ((wr.setCell ⟨bd, v, none⟩ (.int .i64 0)).setCell ⟨bf, v, none⟩ (.int .i64 (-1))).heap.size = w8.heap.size + 2 := by rw [size_setCell, size_setCell, hz]
            clear hst
            go_upto_region 16 with fail
            clear t0 f0 l0 t1 f1 l1 hz
            generalize (wr.setCell ⟨bd, v, none⟩ (.int .i64 0)).setCell ⟨bf, v, none⟩ (.int .i64 (-1)) = w10 at *
            have R3 := Lib.hid (R2.out.below (below1 w10 (.cells #[.int .i64 (v : Int)] 3)))
            have hq4 := QIs.one w10 (w8.heap.size + 2) v (by omega)
            rw [hz4] at hq4
            have Hq4 := Lib.hid hq4
            clear hq4 R2
            go_upto_region 17 with fail
            generalize w10.alloc (.cells #[.int .i64 (v : Int)] 3) = w11 at *
            clear hz4
            generalize Value.slice (some ⟨w8.heap.size + 2, 0, none⟩) 1 1 = vq at *
            go_loopg [6, 11] N (fun g s6 s11 wi => ∃ (F Fr : Nat → Int) (Q : List Nat) (best : Int), g + cnt (seenF F) N = N + Q.length ∧ s6 = .int .i64 best ∧ GiI N (adj l) v F Fr Q [] best ∧ GiA N (adj l) best ∧ GiB N (adj l) v best ∧ Gi2 w8 wi bd bf N F Fr ∧ QIs wi (w8.heap.size + 2) s11 Q)
            case atStart => exact ⟨_, _, [v], best, by rw [seen_start hlt]; rfl, rfl, GiI.start hlt (by simp), HA.out, HB.out, R3.out, Hq4.out⟩
            case round =>
              clear R3 Hq4 HA HB
              obtain ⟨F, Fr, Q, best, hg, rfl, hgi, hA, hB, hst, hq⟩ := hrel
              have Hg1 := Lib.hid hg; have Hgi := Lib.hid hgi; have Hst := Lib.hid hst; have HA := Lib.hid hA; have HB := Lib.hid hB
              obtain ⟨b, off, cap', K, f, rfl, hq⟩ := hq
              have Hq := Lib.hid hq
              clear hg hgi hA hB
              rcases Q with _ | ⟨x, R⟩
              · have HBn := Lib.hid (show GiB N (adj l) (v + 1) best from fun a b L ha hr => by
                  by_cases e : a = v
                  · subst e; exact Hgi.out.done HGr.out hr
                  · exact HB.out a b L (by omega) hr)
                have Hbn := Lib.hid (Hb.out.trans (hst.hb.mono Hb.out.size))
                clear hst hq
                go_wp2
                go_roundg (N - (v + 1))
                case measure => go_light; omega
                case rel => exact ⟨v + 1, best, by omega, rfl, by go_num, rfl, HA.out, HBn.out, Hbn.out⟩
              · have hq0 := hq.cell (show 0 < (x :: R).length by simp)
                rw [Nat.add_zero] at hq0
                have hq0 : wr.cell? ⟨b, off, none⟩ = some (.int .i64 (x : Int)) := hq0
                have hx := (Hgi.out.w.qs x (by simp)).1
                have hnb5 := Hnb.out.below (Hb.out.trans (hst.hb.mono Hb.out.size))
                obtain ⟨au, cu, eu⟩ := hnb5.form hx
                have Eu := Lib.hid eu
                have t1 := hnb5.ro.cell hx
                rw [eu] at t1
                have hlR : (0 : Int) < (((x :: R).length : Nat) : Int) := by simp only [List.length_cons]; omega
                have hlR' : 0 < (x :: R).length := by simp only [List.length_cons]; omega
                have hcap := hq.len
                have hnu := (nbrs_is Hg.out).2 x hx
                clear hq hst hnb5 eu
                generalize hnQ : (x :: R).length = nQ at *
                have HnQ := Lib.hid hnQ
                clear hnQ
                generalize hnX : (nbrs l N x).length = nu at *
                have HnX := Lib.hid hnX
                clear hnX
                go_upto_region 21 with fail
                have Hq0 := Lib.hid hq0
                clear hq0 t1 hcap hlR hlR'
                go_loopg [6, 11, 65] nu (fun g s6 s11 s65 wi => ∃ (j : Nat) (F' Fr' : Nat → Int) (R' : List Nat) (best' : Int), j ≤ nu ∧ g = nu - j ∧ s65 = .int .i64 (j : Int) ∧ s6 = .int .i64 best' ∧ gk + cnt (seenF F') N = N + (x :: R').length ∧ GiI N (adj l) v F' Fr' (x :: R') ((nbrs l N x).take j) best' ∧ GiA N (adj l) best' ∧ GiB N (adj l) v best' ∧ Gi2 w8 wi bd bf N F' Fr' ∧ QIs wi (w8.heap.size + 2) s11 (x :: R'))
                case atStart => exact ⟨0, F, Fr, R, best, Nat.zero_le _, rfl, rfl, rfl, by rw [Hg1.out, HnQ.out], Hgi.out, HA.out, HB.out, Hst.out, ⟨b, off, cap', K, f, by rw [HnQ.out], Hq.out⟩⟩
                case round =>
                  clear Hg1 Hgi Hst Hq Hq0 HnQ HA HB
                  obtain ⟨j, F', Fr', R', best', hj, rfl, rfl, rfl, hg, hgi, hA, hB, hst, hq⟩ := hrel
                  have Hg1 := Lib.hid hg; have Hgi := Lib.hid hgi; have Hst := Lib.hid hst; have HA := Lib.hid hA; have HB := Lib.hid hB
                  obtain ⟨b2, off2, cap2, K2, f2, rfl, hq⟩ := hq
                  have Hq := Lib.hid hq
                  have hq2 := hq.cell (show 0 < (x :: R').length by simp)
                  rw [Nat.add_zero] at hq2
                  have hq2 : wr.cell? ⟨b2, off2, none⟩ = some (.int .i64 (x : Int)) := hq2
                  have hcap2 := hq.len
                  have hlR2 : 0 < (x :: R').length := by simp only [List.length_cons]; omega
                  clear hg hgi hA hB
                  generalize hn2 : (x :: R').length = n2 at *
                  have Hn2 := Lib.hid hn2
                  clear hn2
                  by_cases hltj : j < nu
                  · have hjX : j < (nbrs l N x).length := by rw [HnX.out]; exact hltj
                    obtain ⟨gu, cu', eu, hcu⟩ := (Hnb.out.below (Hb.out.trans (hst.hb.mono Hb.out.size))).lookR hx hjX
                    obtain ⟨rfl, rfl⟩ : au = some ⟨gu, 0, none⟩ ∧ cu = cu' := by
                      have := Eu.out.symm.trans eu
                      simp only [Value.slice.injEq] at this
                      exact ⟨this.1, this.2.2⟩
                    have hmem : (nbrs l N x).getD j 0 ∈ nbrs l N x := by
                      rw [List.getD, List.getElem?_eq_getElem hjX]
                      exact List.getElem_mem hjX
                    have hu2 := ((nbrs_is Hg.out).1 x hx _).1 hmem
                    have hu := hu2.1
                    have Hgu := Lib.hid hu2.2
                    have Htk := Lib.hid (nbrs_take hjX)
                    generalize (nbrs l N x).getD j 0 = u at *
                    have cw := hst.rd.cell hu
                    have cx := hst.rd.cell hx
                    have cf := hst.rf.cell hx
                    have cg := hst.rf.cell hu
                    simp only [ri] at cw cx cf cg
                    have fw := hst.rd.frozen u
                    have fg := hst.rf.frozen u
                    have hzd := hst.rd.lt
                    have hzf := hst.rf.lt
                    have hsz := hst.hb.size
                    have hnd := hst.nd
                    have hFx := (Hgi.out.w.qs x (by simp)).2
                    have hFr := Hgi.out.w.rng x hx
                    have hFu := Hgi.out.w.rng u hu
                    have hcl := cnt_le (seenF F') N
                    clear hmem eu hst hu2
                    by_cases hI : 0 ≤ F' u
                    · have hI2 : ¬ F' u < 0 := by omega
                      have HI := Lib.hid hI
                      clear hI hq
                      by_cases hback : Fr' x = (u : Int)
                      · have qb : ((u : Int) != Fr' x) = false := by rw [hback]; simp
                        have Hback := Lib.hid hback
                        clear hback
                        go_wp2
                        go_roundg (nu - (j + 1))
                        case measure => go_light; omega
                        case rel => exact ⟨j + 1, F', Fr', R', best', by omega, rfl, by go_num, rfl, by rw [Hn2.out]; exact Hg1.out, by rw [Htk.out.1]; exact Hgi.out.back HI.out Hback.out, HA.out, HB.out, Hst.out, ⟨b2, off2, cap2, K2, f2, by rw [Hn2.out], Hq.out⟩⟩
                      · have qb : ((u : Int) != Fr' x) = true := by rw [bne_iff_ne]; exact fun e => hback e.symm
                        have Hback := Lib.hid hback
                        have Hring := Lib.hid (Hgi.out.ring HGr.out hu Hgu.out Htk.out.2 HI.out hback)
                        have HI0 := HI.out
                        have HDq := Lib.hid (fun m => Hst.out.below (Below.drewN' (Below.refl wr.heap.size wr) m))
                        have HQq := Lib.hid (fun m => Hq.out.below (Below.drewN' (Below.refl wr.heap.size wr) m))
                        clear hback
                        generalize hfx : F' x = fx at *
                        generalize hfu : F' u = fu at *
                        have Hfx := Lib.hid hfx; have Hfu := Lib.hid hfu
                        clear hfx hfu
                        have hw1 : IntKind.i64.wrap (fx + fu) = fx + fu := wrap_midF (by omega) (by omega)
                        have hw2 : IntKind.i64.wrap (fx + fu + 1) = fx + fu + 1 := wrap_midF (by omega) (by omega)
                        have hn2N : fx + fu + 1 ≤ 2 * N := by omega
                        have Hnn := Lib.hid (show 0 < fx + fu + 1 ∧ fx + fu + 1 ≤ 2 * (N : Int) from ⟨by omega, hn2N⟩)
                        have HA2 := Lib.hid (show GiA N (adj l) (fx + fu + 1) from by
                          obtain ⟨p, q, L, h1, h2⟩ := Hring.out
                          exact .inr ⟨Hnn.out.1, Hnn.out.2, p, q, L, h1, h2⟩)
                        by_cases hb0 : best' = 0
                        · have Hb0 := Lib.hid hb0
                          have qb0 : (best' == 0) = true := by rw [beq_iff_eq]; exact hb0
                          clear hb0
                          go_upto_region 27 with fail
                          go_big_quiet (fail)
                          clear cw cx cf cg hcu hq2
                          go_wp2
                          go_roundg (nu - (j + 1))
                          case measure => go_light; omega
                          case rel => exact ⟨j + 1, F', Fr', R', fx + fu + 1, by omega, rfl, by go_num, rfl, by rw [Hn2.out]; exact Hg1.out, by rw [Htk.out.1]; exact Hgi.out.hit (by rw [Hfu.out]; exact HI.out) Hnn.out.1 (by rw [Hfx.out, Hfu.out]; exact Int.le_refl _) (fun h => by have := Hb0.out; omega), HA2.out, HB.out.mono (fun h => by have := Hb0.out; omega), HDq.out nq, ⟨b2, off2, cap2, K2, f2, by rw [Hn2.out], HQq.out nq⟩⟩
                        · have Hb0 := Lib.hid hb0
                          have qb0 : (best' == 0) = false := by rw [beq_eq_false_iff_ne]; exact hb0
                          have Hbp := Lib.hid (show 0 < best' from by rcases HA.out with h | ⟨h, -⟩; exact absurd h hb0; exact h)
                          clear hb0
                          by_cases hless : fx + fu + 1 < best'
                          · have Hless := Lib.hid hless
                            go_upto_region 27 with fail
                            go_big_quiet (fail)
                            clear cw cx cf cg hcu hq2
                            go_wp2
                            go_roundg (nu - (j + 1))
                            case measure => go_light; omega
                            case rel => exact ⟨j + 1, F', Fr', R', fx + fu + 1, by omega, rfl, by go_num, rfl, by rw [Hn2.out]; exact Hg1.out, by rw [Htk.out.1]; exact Hgi.out.hit (by rw [Hfu.out]; exact HI.out) Hnn.out.1 (by rw [Hfx.out, Hfu.out]; exact Int.le_refl _) (fun h => by have := Hless.out; omega), HA2.out, HB.out.mono (fun h => by have := Hless.out; have := Hnn.out; omega), HDq.out nq, ⟨b2, off2, cap2, K2, f2, by rw [Hn2.out], HQq.out nq⟩⟩
                          · have Hless := Lib.hid hless
                            go_upto_region 27 with fail
                            go_big_quiet (fail)
                            clear cw cx cf cg hcu hq2
                            go_wp2
                            go_roundg (nu - (j + 1))
                            case measure => go_light; omega
                            case rel => exact ⟨j + 1, F', Fr', R', best', by omega, rfl, by go_num, rfl, by rw [Hn2.out]; exact Hg1.out, by rw [Htk.out.1]; exact Hgi.out.hit (by rw [Hfu.out]; exact HI.out) Hbp.out (by rw [Hfx.out, Hfu.out]; have := Hless.out; omega) (fun h => Int.le_refl _), HA.out, HB.out, HDq.out nq, ⟨b2, off2, cap2, K2, f2, by rw [Hn2.out], HQq.out nq⟩⟩
                    · have hI2 : F' u < 0 := by omega
                      have HI := Lib.hid hI2
                      have hroom := Hgi.out.w.room
                      rw [Hn2.out] at hroom
                      have hn2s : n2 < 1000000 := by omega
                      have hfx : IntKind.i64.wrap (F' x + 1) = F' x + 1 := wrap_midF (by omega) (by omega)
                      have hst5 := ((Hst.out.setD u (F' x + 1)).setF u (x : Int)).below (below1 _ (.cells #[.int .i64 (u : Int)] 3))
                      have hq5 : QIs (((wr.setCell ⟨bd, u, none⟩ (.int .i64 (F' x + 1))).setCell ⟨bf, u, none⟩ (.int .i64 (x : Int))).alloc (.cells #[.int .i64 (u : Int)] 3)) (w8.heap.size + 2) (.slice (some ⟨b2, off2, none⟩) n2 cap2) (x :: R') :=
                        QIs.below (QIs.set (QIs.set (w := wr) ⟨b2, off2, cap2, K2, f2, by rw [Hn2.out], Hq.out⟩ (by omega) u _) (by omega) u _) ((Below.refl _ _).alloc (Nat.le_refl _) _)
                      have Hst5 := Lib.hid hst5; have Hq5 := Lib.hid hq5; have Hpush := Lib.hid (Hgi.out.push hu HI.out Hgu.out)
                      have Hcs := Lib.hid (show cnt (seenF fun q => if q = u then F' x + 1 else F' q) N = cnt (seenF F') N + 1 from by
                        rw [seen_put (by omega)]
                        exact cnt_seen hu (by unfold seenF; simp; omega))
                      clear hI hq hst5 hq5 hroom hcl hFx hFr hFu
                      generalize F' x = fx at *
                      generalize F' u = fu at *
                      generalize Fr' x = gx at *
                      generalize Fr' u = gu' at *
                      go_wp2_with (at_builtin; refine wpList_append_q rfl (.tmp 87) (.tmp 89) 29 rfl Try.underlying29 info3 _ (x :: R') rfl Hq5.out _ _ u rfl (one_cellG _ _ _ _ _ _ _) (by rw [Hn2.out]; exact hn2s) (by rw [World.size_alloc, size_setCell, size_setCell]; omega) ?_; intro v6 w6 hq6 hb6; have Hq6 := Lib.hid hq6; have Hb6 := Lib.hid hb6; clear hq6 hb6)
                      go_roundg (nu - (j + 1))
                      case measure => go_light; omega
                      case rel =>
                        have h1 := Hg1.out
                        have h2 := Hcs.out
                        have h3 := Hn2.out
                        refine ⟨j + 1, _, _, R' ++ [u], best', by omega, rfl, by go_num, rfl, ?_, by rw [Htk.out.1]; exact Hpush.out, HA.out, HB.out, ⟨Hst5.out.hb.trans (Hb6.out.mono (by omega)), Hst5.out.nd, Hst5.out.nf, Hst5.out.ne, Hst5.out.rd.of_block (Hb6.out.block _ hbd), Hst5.out.rf.of_block (Hb6.out.block _ hbf)⟩, Hq6.out⟩
                        rw [h2, ← List.cons_append, List.length_append, h3]
                        simp only [List.length_cons, List.length_nil]
                        omega
                  · obtain rfl : nu = j := by omega
                    obtain ⟨i3, hi3, -, hsz3, -⟩ := info_parts info3
                    have hcapq := Hq.out.len
                    have hsl : ∀ w, (Instr.slice 29 (.slice (some ⟨b2, off2, none⟩) n2 cap2) (some (.int .i64 1)) none none).run Try.prog w = .ok (.slice (cutAt b2 off2 (cap2 - 1)) R'.length (cap2 - 1)) w := by rw [← Hn2.out]; exact run_slice_one (P := Try.prog) Try.underlying29 hi3 hsz3 b2 off2 R'.length cap2 hcapq
                    have hcle := cnt_le (seenF F') N
                    have Hcle := Lib.hid hcle
                    have Hpop := Lib.hid (Hgi.out.pop (R := R') fun y hy hgy => by
                      rw [List.take_of_length_le (by rw [HnX.out]; exact Nat.le_refl _)]
                      exact ((nbrs_is Hg.out).1 x hx y).2 ⟨hy, hgy⟩)
                    clear hst hq hcap2 hi3 hsz3 hcle hq2 hcapq
                    go_wp2
                    go_roundg (gk - 1)
                    case measure =>
                      have h1 := Hg1.out
                      have h2 := Hcle.out
                      have h3 := Hn2.out
                      simp only [List.length_cons] at h3
                      go_light; omega
                    case rel =>
                      have h1 := Hg1.out
                      have h2 := Hcle.out
                      have h3 := Hn2.out
                      simp only [List.length_cons] at h3
                      exact ⟨F', Fr', R', best', by omega, rfl, Hpop.out, HA.out, HB.out, Hst.out, Hq.out.cut⟩
      · obtain rfl : N = v := by omega
        have HGi := Lib.hid (girth_fin HA.out HB.out)
        obtain ⟨z0, z1, f0, f1, l0⟩ := row_facts Sr.out.r
        obtain ⟨p0, p1, p2⟩ := Sr.out.put (.int .i64 0) (.int .i64 0)
        go_wp2
        exact bodyPost_ret (v := .tuple #[.int .i64 best, .agg #[.int .i64 0, .int .i64 0]]) (by simp [results, Try.results23, go_sem, p0, p1]) rfl ⟨0, 0, best, HR.out, rfl, p2, .inr ⟨rfl, N, rfl, Hg.out, HGi.out⟩⟩
  · have q : (c != 0) = true := by simpa using hc
    obtain ⟨z0, z1, f0, f1, l0⟩ := row_facts S2.out.r
    obtain ⟨p0, p1, p2⟩ := S2.out.put (.int .i64 c) (.int .i64 a)
    have p3 : (w3.setCell ⟨w.heap.size + 1, 0, none⟩ (.int .i64 c)).cell? ⟨w.heap.size + 1, 0, none⟩ = some (.int .i64 c) := (S2.out.r.set 0 (.int .i64 c)).cell (show 0 < 2 by omega)
    have Hc := Lib.hid hc
    clear hc
    go_upto_region 3 with fail
    go_region
    all_goals
      go_wp2
      exact bodyPost_ret (v := .tuple #[.int .i64 0, .agg #[.int .i64 c, .int .i64 a]]) (by simp [results, Try.results23, go_sem, p0, p1, p3]) rfl ⟨c, a, 0, HR.out, rfl, p2.drew, .inl ⟨Hc.out, rfl⟩⟩

end Go.Proofs.Ytnmljgjegodkaaa
