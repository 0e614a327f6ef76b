/- arborref.Sides: sides by how far nodes are, or none. -/
import Derived.Test.YtmhcnekbfngafaaFarW
import Derived.Test.YtmhcnekbfngafaaRCompW
import Derived.Test.YtmhcnekbfngafaaPA
import Derived.Test.YtmhcnekbfngafaaGOwn
namespace Go.Proofs.Ytmhcnekbfngafaa
open Go.RowKit Go.Maps

/-- A node's side, by how far it is from the least one that it hangs together with. -/
def SideBy (N : Nat) (G : Nat → Nat → Bool) (O : Nat → Int) (q : Nat) : Prop := ∃ r F, r < N ∧ ldB (conB N G) r = true ∧ conB N G r q = true ∧ FarOk N G r F ∧ O q = (F q).tmod 2
/-- What arborref.Sides answers. -/
def RSidesPost (N : Nat) (G : Nat → Nat → Bool) (w : World) (e : Ending) (w' : World) : Prop :=
  ∃ O : Nat → Int, (∀ q, q < N → SideBy N G O q) ∧ Below w.heap.size w w' ∧
    ((∃ b, e = .returned (.tuple #[.slice (some ⟨b, 0, none⟩) N N, .bool true]) ∧ w'.rowIs b 3 N (ri O) ∧ ∀ i j, i < N → j < N → G i j = true → O i ≠ O j) ∨
      (e = .returned (.tuple #[.slice none 0 0, .bool false]) ∧ ∃ i j, i < N ∧ j < N ∧ G i j = true ∧ O i = O j))
theorem SideBy.put {N : Nat} {G : Nat → Nat → Bool} {O : Nat → Int} {q k : Nat} {x : Int} (h : SideBy N G O q) (hk : q = k → SideBy N G (fun z => if z = k then x else O z) q) : SideBy N G (fun z => if z = k then x else O z) q := by
  by_cases e : q = k
  · exact hk e
  · obtain ⟨r, F, h1, h2, h3, h4, h5⟩ := h
    exact ⟨r, F, h1, h2, h3, h4, by simp only [if_neg e]; exact h5⟩

set_option maxHeartbeats 6400000 in
set_option maxRecDepth 100000 in
theorem rsides_any (N : Nat) (G : Nat → Nat → Bool) (gv : Value) (w : World) (hN : N ≤ 100) (hg : HasGrid w gv N G) (hs : ∀ i j, i < N → j < N → G i j = G j i) :
    Calls Try.prog 41 #[gv] w (RSidesPost N G w) := by
  have HG := Lib.hid hg
  obtain ⟨Bg, ga, gc, gb, go', R0, rfl, hgc, hga, hgrid⟩ := hg
  have Hga := Lib.hid hga; have Hgr := Lib.hid hgrid
  have HP := Lib.hid (con_pre (N := N) (G := G))
  have Hs := Lib.hid hs
  have hmk2 := run_make_row' (P := Try.prog) 39 3 (.int .i64 0) 8 Try.underlying39 info3 rfl .i64 .i64 N (by omega) (by omega)
  have hr5 := World.rowIs_made w (.int .i64 0) N 3
  have hb5 := below1 w (.cells (madeCells #[.int .i64 0] N) 3)
  have hz5 : (w.alloc (.cells (madeCells #[.int .i64 0] N) 3)).heap.size = w.heap.size + 1 := World.size_alloc _ _
  have Hr5 := Lib.hid (hr5.congr (g := ri fun _ => 0) fun _ _ => rfl)
  have Hb5 := Lib.hid hb5
  clear hr5 hb5 hs hga hgrid
  go_enter Try.func41, Try.ntmps41
  go_upto_region 2 with fail
  clear hmk2
  generalize w.alloc (.cells (madeCells #[.int .i64 0] N) 3) = w5 at *
  go_upto_region 3 with (go_at_call 34; refine (rcomps_any N G _ w5 hN (HG.out.below Hb5.out) Hs.out).mono ?_; rintro e w6 ⟨v6, rfl, hp6, hb6⟩; have Hp6 := Lib.hid hp6; have Hr6 := Lib.hid (Hr5.out.of_block (hb6.block _ Hr5.out.lt)); have Hb6 := Lib.hid (Hb5.out.trans (hb6.mono Hb5.out.size)); have hz6 := hb6.size; clear hp6 hb6)
  obtain ⟨vals, k1, k2⟩ := Hp6.out
  obtain ⟨aO, cO, rfl⟩ := ownsRow_form k1
  have hcl : (compsL N G).length = (lds (conB N G) N).length := List.length_map _
  rw [hcl] at k1 ⊢
  have hll := lds_len (conB N G) N
  have K1 := Lib.hid k1; have K2 := Lib.hid k2; have Hcl := Lib.hid hcl
  clear k1 k2 Hp6 hcl
  obtain ⟨n, hn⟩ : ∃ n, n = (lds (conB N G) N).length := ⟨_, rfl⟩
  rw [← hn] at hll ⊢
  have Hn := Lib.hid hn
  clear hn
  go_wp2
  go_loopg [6] n (fun g s6 wr => ∃ (i : Nat) (O : Nat → Int), i ≤ n ∧ g = n - i ∧ s6 = .int .i64 i ∧ w6.grownBy wr (some w.heap.size) ∧ wr.rowIs w.heap.size 3 N (ri O) ∧ ∀ j, j < i → ∀ q, q < N → conB N G ((lds (conB N G) N).getD j 0) q = true → SideBy N G O q)
  case atStart => exact ⟨0, _, Nat.zero_le _, rfl, rfl, World.grownBy.refl _ _, Hr6.out, fun j hj => absurd hj (Nat.not_lt_zero _)⟩
  case round =>
    obtain ⟨i, O, hi, rfl, rfl, hgr, hrow, hsp⟩ := hrel
    obtain ⟨wq, rfl⟩ : ∃ wq : World, wq = wr := ⟨_, rfl⟩
    have Hg1 := Lib.hid hgr; have Hrow := Lib.hid hrow; have Hsp := Lib.hid hsp
    have hzq := hgr.size
    have hbwq : Below w.heap.size w wq := Hb6.out.grown hgr Hb6.out.size (fun q e => by have := Option.some.inj e; omega)
    have Hbwq := Lib.hid hbwq
    clear hgr hrow hsp hbwq
    by_cases hil : i < n
    · obtain ⟨r, er, hor⟩ := K2.out i (by rw [Hcl.out, ← Hn.out]; exact hil)
      have hpm : (lds (conB N G) N).getD i 0 ∈ lds (conB N G) N := by rw [List.getD, List.getElem?_eq_getElem (by rw [← Hn.out]; exact hil)]; exact List.getElem_mem _
      obtain ⟨hpN, hpl⟩ := lds_mem.1 hpm
      have ecl : (compsL N G).getD i [] = cls N (conB N G) ((lds (conB N G) N).getD i 0) := by simp [List.getD, List.getElem?_eq_getElem (show i < (lds (conB N G) N).length by rw [← Hn.out]; exact hil)]
      rw [ecl] at hor
      clear hpm ecl
      generalize hp : (lds (conB N G) N).getD i 0 = p at *
      have Hp := Lib.hid hp
      obtain ⟨rest, hhead⟩ := HP.out.head hpN hpl
      have hrow6 := hor.kept Hg1.out (own_side hor (by omega))
      generalize hm : cls N (conB N G) p = m at *
      have Hm := Lib.hid hm
      have hml : m.length ≤ 100 := by
        rw [← hm]; unfold cls
        have := List.length_filter_le (eqvB (conB N G) p) (List.range N)
        rw [List.length_range] at this; omega
      have hm0 : 0 < m.length := by rw [hhead]; simp
      obtain ⟨gm, cm, rfl⟩ : ∃ gm cm, r = .slice (some ⟨gm, 0, none⟩) m.length cm := by
        rcases hrow6.2 with ⟨_, h0⟩ | ⟨g, cap, cur, e, -⟩
        · omega
        · exact ⟨g, cap, e⟩
      have hgm := (hor.lt gm rfl)
      have cells : ∀ k, k < m.length → wq.cell? ⟨gm, k, none⟩ = some (.int .i64 (m.getD k 0 : Nat)) := fun k hk => by
        have hx : (nvals m)[k]? = some (.int .i64 (m.getD k 0 : Nat)) := by simp [nvals, ints, List.getD, List.getElem?_eq_getElem hk]
        have c := hrow6.cells (g := gm) rfl _ _ hx
        rwa [Addr.add_lit, Nat.zero_add] at c
      have hv0 := K1.out
      obtain ⟨gB, eB⟩ : ∃ gB, aO = some ⟨gB, 0, none⟩ := by
        rcases hv0.2 with ⟨e, e0⟩ | ⟨g, cap', cur, e, -⟩
        · rw [← Hn.out] at e0; omega
        · simp only [Value.slice.injEq] at e; exact ⟨g, e.1⟩
      subst eB
      have cr := hv0.cells (g := gB) rfl _ _ er
      rw [Addr.add_lit, Nat.zero_add] at cr
      have lB := hv0.lt gB rfl
      have cr2 : wq.cell? ⟨gB, i, none⟩ = some (.slice (some ⟨gm, 0, none⟩) m.length cm) := by
        rw [← cr]; exact World.cell?_of_block (a := ⟨gB, i, none⟩) (Hg1.out.block gB lB.2 (fun e => by cases e; omega))
      have c0 := cells 0 hm0
      have e0 : m.getD 0 0 = p := by rw [hhead]; rfl
      rw [e0] at c0
      have hmI : (0 : Int) < (m.length : Int) := by omega
      have hmem : ∀ k, k < m.length → m.getD k 0 < N ∧ conB N G p (m.getD k 0) = true := fun k hk => by
        have h1 : m.getD k 0 ∈ m := by rw [List.getD, List.getElem?_eq_getElem hk]; exact List.getElem_mem _
        rw [← hm] at h1
        unfold cls at h1
        have h2 := List.mem_filter.1 h1
        exact ⟨List.mem_range.1 (hm ▸ h2.1), (eqv_iff.1 (hm ▸ h2.2)).1⟩
      have hback : ∀ q, q < N → conB N G p q = true → ∃ k, k < m.length ∧ m.getD k 0 = q := fun q hq he => by
        have h1 : q ∈ cls N (conB N G) p := by
          unfold cls
          exact List.mem_filter.2 ⟨List.mem_range.2 hq, by rw [con_eqv Hs.out hpN]; exact he⟩
        rw [hm] at h1
        obtain ⟨k, hk, ek⟩ := List.mem_iff_getElem.1 h1
        exact ⟨k, hk, by rw [List.getD, List.getElem?_eq_getElem hk]; exact ek⟩
      have Hcells := Lib.hid cells; have Hmem := Lib.hid hmem; have Hback := Lib.hid hback
      clear hp hm cells hmem hback hrow6 hor er cr hv0 e0 hhead
      have hrowlt := Hrow.out.lt
      have hmlen : ((m.length : Nat) : Int) ≤ 100 := by omega
      go_upto_region 7 with (go_at_call 67; refine (rfar_any N p G _ wq hN hpN (HG.out.below Hbwq.out)).mono ?_; rintro e w7 ⟨bf, F, rfl, hbf, hrf, hF, hb7⟩; have Hrf := Lib.hid hrf; have HF := Lib.hid hF; have Hb7 := Lib.hid hb7; have Hbf := Lib.hid hbf; have hz7 := hb7.size; clear hrf hF hb7 hbf)
      have hrow7 := Hrow.out.of_block (Hb7.out.block _ hrowlt)
      have Hrow7 := Lib.hid hrow7
      have Hg17 := Lib.hid (Hg1.out.trans ((grown_of_below Hb7.out).but (some w.heap.size)))
      have Hc7 := Lib.hid (show ∀ k, k < m.length → w7.cell? ⟨gm, k, none⟩ = some (.int .i64 (m.getD k 0 : Nat)) from fun k hk => by rw [← Hcells.out k hk]; exact World.cell?_of_block (a := ⟨gm, k, none⟩) (Hb7.out.block gm (by omega)))
      have cr7 : w7.cell? ⟨gB, i, none⟩ = some (.slice (some ⟨gm, 0, none⟩) m.length cm) := by rw [← cr2]; exact World.cell?_of_block (a := ⟨gB, i, none⟩) (Hb7.out.block gB (by omega))
      clear hrow7 c0 cr2
      go_wp2
      go_loopg [8] m.length (fun g s8 wr => ∃ (k : Nat) (O2 : Nat → Int), k ≤ m.length ∧ g = m.length - k ∧ s8 = .int .i64 k ∧ w7.grownBy wr (some w.heap.size) ∧ wr.rowIs w.heap.size 3 N (ri O2) ∧ (∀ j, j < i → ∀ q, q < N → conB N G ((lds (conB N G) N).getD j 0) q = true → SideBy N G O2 q) ∧ ∀ k', k' < k → SideBy N G O2 (m.getD k' 0))
      case atStart => exact ⟨0, O, Nat.zero_le _, rfl, rfl, World.grownBy.refl _ _, Hrow7.out, Hsp.out, fun k' hk' => absurd hk' (Nat.not_lt_zero _)⟩
      case round =>
        obtain ⟨k, O2, hk, rfl, rfl, hg8, hrow8, hs1, hs2⟩ := hrel
        have Hg8 := Lib.hid hg8; have Hrow8 := Lib.hid hrow8; have Hs1 := Lib.hid hs1; have Hs2 := Lib.hid hs2
        have cr8 : wr.cell? ⟨gB, i, none⟩ = some (.slice (some ⟨gm, 0, none⟩) m.length cm) := by rw [← cr7]; exact World.cell?_of_block (a := ⟨gB, i, none⟩) (hg8.block gB (by omega) (fun e => by cases e; omega))
        clear hg8 hs1 hs2
        by_cases hkl : k < m.length
        · have cm8 : wr.cell? ⟨gm, k, none⟩ = some (.int .i64 (m.getD k 0 : Nat)) := by rw [← Hc7.out k hkl]; exact World.cell?_of_block (a := ⟨gm, k, none⟩) (Hg8.out.block gm (by omega) (fun e => by cases e; omega))
          obtain ⟨hxN, hcx⟩ := Hmem.out k hkl
          have Hx := Lib.hid (show m.getD k 0 = m.getD k 0 from rfl)
          generalize hxe : m.getD k 0 = x at *
          have Hxe := Lib.hid hxe; have Hcx := Lib.hid hcx
          have hfr := Hrf.out.of_block (Hg8.out.block bf Hrf.out.lt (fun e => by have := Option.some.inj e; have := Hbf.out; omega))
          have cf := hfr.cell hxN
          simp only [ri] at cf
          have cO8 := hrow8.cell hxN
          simp only [ri] at cO8
          have fO := hrow8.frozen x
          have lO := hrow8.lt
          obtain ⟨fv, hfv⟩ : ∃ fv, fv = F x := ⟨_, rfl⟩
          rw [← hfv] at cf
          have Hfv := Lib.hid hfv
          clear hxe hcx hfr hrow8 hfv
          go_wp2
          refine region_tail 19 (by kernel_rfl) (by kernel_rfl) ?_
          have cr8' : wr.drew.cell? _ = _ := cr8
          have cm8' : wr.drew.cell? _ = _ := cm8
          have cf' : wr.drew.cell? _ = _ := cf
          have cO8' : wr.drew.cell? _ = _ := cO8
          have HrA := Lib.hid (row_set_ri (Hrow8.out.of_block (w' := wr.drew) rfl) x (fv.tmod 2))
          have HgA := Lib.hid (Hg8.out.trans (((grown_of_below (Below.refl wr.heap.size wr).drew).but (some w.heap.size)).trans (grown_set wr.drew w.heap.size x (.int .i64 (fv.tmod 2)))))
          clear cr8 cm8 cf cO8
          generalize hw9 : wr.drew = w9 at *
          have fO' : w9.frozen? ⟨w.heap.size, x, none⟩ = false := by rw [← hw9]; exact fO
          have lO' : w.heap.size < w9.heap.size := by rw [← hw9]; exact lO
          clear fO lO
          have HB1 := Lib.hid (show ∀ j, j < i → ∀ q, q < N → conB N G ((lds (conB N G) N).getD j 0) q = true → SideBy N G (fun z => if z = x then fv.tmod 2 else O2 z) q from fun j hj q hq hc => (Hs1.out j hj q hq hc).put fun e => ⟨p, F, hpN, hpl, e ▸ Hcx.out, HF.out, by simp only [if_pos e]; rw [Hfv.out, e]⟩)
          have HB2 := Lib.hid (show ∀ k', k' < k + 1 → SideBy N G (fun z => if z = x then fv.tmod 2 else O2 z) (m.getD k' 0) from fun k' hk' => by
            have hx : SideBy N G (fun z => if z = x then fv.tmod 2 else O2 z) x := ⟨p, F, hpN, hpl, Hcx.out, HF.out, by simp only [if_true]; rw [Hfv.out]⟩
            by_cases e : k' < k
            · exact (Hs2.out k' e).put fun e2 => e2 ▸ hx
            · obtain rfl : k' = k := by omega
              rw [Hxe.out]; exact hx)
          simp only [List.take_succ_cons, List.take_zero, List.drop_succ_cons, List.drop_zero]
          repeat still_step
          refine wpStill_nil ?_
          go_wp2
          go_roundg (m.length - (k + 1))
          case measure => go_light; omega
          case rel => exact ⟨k + 1, _, by omega, rfl, by go_num, HgA.out, HrA.out, HB1.out, HB2.out⟩
        · obtain rfl : k = m.length := by omega
          have HN1 := Lib.hid (show ∀ j, j < i + 1 → ∀ q, q < N → conB N G ((lds (conB N G) N).getD j 0) q = true → SideBy N G O2 q from fun j hj q hq hc => by
            by_cases e : j < i
            · exact Hs1.out j e q hq hc
            · obtain rfl : j = i := by omega
              rw [Hp.out] at hc
              obtain ⟨k, hk, rfl⟩ := Hback.out q hq hc
              exact Hs2.out k hk)
          have HN2 := Lib.hid (Hg17.out.trans Hg8.out)
          clear hrow8
          go_wp2
          go_roundg (n - (i + 1))
          case measure => go_light; omega
          case rel => exact ⟨i + 1, O2, by omega, rfl, by go_num, HN2.out, Hrow8.out, HN1.out⟩
    · obtain rfl : i = n := by omega
      have HS := Lib.hid (show ∀ q, q < N → SideBy N G O q from fun q hq => by
        obtain ⟨r, hr1, hr2, hr3⟩ := HP.out.lead (q + 1) q (by omega) hq
        have hrN : r < N := by omega
        rw [con_eqv Hs.out hrN] at hr3
        obtain ⟨j, hj, ej⟩ := List.mem_iff_getElem.1 (lds_mem.2 ⟨hrN, hr2⟩)
        exact Hsp.out j (by rw [Hn.out]; exact hj) q hq (by rw [show (lds (conB N G) N).getD j 0 = r from by rw [List.getD, List.getElem?_eq_getElem hj]; exact ej]; exact hr3))
      clear Hsp Hg1 Hn Hcl K1 K2
      go_wp2
      go_loopg [9] N (fun g s9 wr => ∃ (x m1 : Nat), x ≤ N ∧ g = N - x ∧ s9 = .int .i64 x ∧ wr = wq.drewN m1 ∧ ∀ i j, i < x → j < N → G i j = true → O i ≠ O j)
      case atStart => exact ⟨0, 0, Nat.zero_le _, rfl, rfl, rfl, fun i j hi => absurd hi (Nat.not_lt_zero _)⟩
      case round =>
        obtain ⟨x, m1, hx, rfl, rfl, rfl, hok⟩ := hrel
        have Hok := Lib.hid hok
        clear hok
        by_cases hxl : x < N
        · go_wp2
          go_loopg [10] N (fun g s10 wr => ∃ (y m1 : Nat), y ≤ N ∧ g = N - y ∧ s10 = .int .i64 y ∧ wr = wq.drewN m1 ∧ ∀ j, j < y → G x j = true → O x ≠ O j)
          case atStart => exact ⟨0, m1, Nat.zero_le _, rfl, rfl, rfl, fun j hj => absurd hj (Nat.not_lt_zero _)⟩
          case round =>
            obtain ⟨y, m2, hy, rfl, rfl, rfl, hok2⟩ := hrel
            have Hok2 := Lib.hid hok2
            clear hok2
            by_cases hyl : y < N
            · obtain rfl := (Hga.out (by omega)).1
              obtain ⟨t1, t2⟩ := grid_cells Hgr.out Hbwq.out hxl hyl
              have cx := Hrow.out.cell hxl
              have cy := Hrow.out.cell hyl
              simp only [ri] at cx cy
              generalize hGe : G x y = gxy at *
              have HGe := Lib.hid hGe
              clear hGe
              cases gxy with
              | false =>
                have Hnx := Lib.hid (show ∀ j, j < y + 1 → G x j = true → O x ≠ O j from fun j hj h => by
                  by_cases e : j < y
                  · exact Hok2.out j e h
                  · obtain rfl : j = y := by omega
                    rw [HGe.out] at h; exact absurd h (by simp))
                go_wp2
                go_quiet (fail)
                go_wp2
                go_roundg (N - (y + 1))
                case measure => go_light; omega
                case rel => exact ⟨y + 1, m2 + nq, by omega, rfl, by go_num, rfl, Hnx.out⟩
              | true =>
                have HGp := Lib.hid (show G x y = true from HGe.out)
                by_cases he : O x = O y
                · have q : (O x == O y) = true := by simp [he]
                  have Hfin := Lib.hid (show ∃ i j, i < N ∧ j < N ∧ G i j = true ∧ O i = O j from ⟨x, y, hxl, hyl, HGp.out, he⟩)
                  clear he
                  go_wp2
                  go_quiet (fail)
                  go_wp2
                  go_ret2
                  exact ⟨O, HS.out, Below.drewN' (Below.drewN' Hbwq.out _) _, Or.inr ⟨rfl, Hfin.out⟩⟩
                · have q : (O x == O y) = false := by simp [he]
                  have Hnx := Lib.hid (show ∀ j, j < y + 1 → G x j = true → O x ≠ O j from fun j hj h => by
                    by_cases e : j < y
                    · exact Hok2.out j e h
                    · obtain rfl : j = y := by omega
                      exact he)
                  clear he
                  go_wp2
                  go_quiet (fail)
                  go_wp2
                  go_roundg (N - (y + 1))
                  case measure => go_light; omega
                  case rel => exact ⟨y + 1, m2 + nq, by omega, rfl, by go_num, rfl, Hnx.out⟩
            · obtain rfl : y = N := by omega
              have Hnx := Lib.hid (show ∀ i j, i < x + 1 → j < y → G i j = true → O i ≠ O j from fun i j hi hj h => by
                by_cases e : i < x
                · exact Hok.out i j e hj h
                · obtain rfl : i = x := by omega
                  exact Hok2.out j hj h)
              go_wp2
              go_roundg (y - (x + 1))
              case measure => go_light; omega
              case rel => exact ⟨x + 1, m2, by omega, rfl, by go_num, rfl, Hnx.out⟩
        · obtain rfl : x = N := by omega
          go_wp2
          go_ret2
          exact ⟨O, HS.out, Below.drewN' Hbwq.out _, Or.inl ⟨_, rfl, Hrow.out, Hok.out⟩⟩

end Go.Proofs.Ytmhcnekbfngafaa
