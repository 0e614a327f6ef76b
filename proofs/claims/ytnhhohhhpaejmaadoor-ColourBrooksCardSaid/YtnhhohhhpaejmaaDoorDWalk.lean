/- (*parts.deep).walk: it does what the model does. -/
import Derived.Test.YtnhhohhhpaejmaaDoorPU
import Derived.Deep.RegionHeld3
import Derived.BigQuiet
import Derived.StillTailTactics
namespace Go.Proofs.YtnhhohhhpaejmaaDoor
open Go.RowKit Go.Maps

/-- What a walk leaves. -/
def WalkPost (S0 S bD B bA bL N : Nat) (V : Nat → Value) (X : Nat → List Nat) (τ : Dp) (w : World) (e : Ending) (w' : World) : Prop :=
  ∃ vs vb, e = .returned (.int .i64 (τ.tm : Int)) ∧ DEnv w' S bD B bA bL N V X τ vs vb ∧ Below S0 w w'
/-- The graph of a walk. -/
structure DAsk (N : Nat) (X : Nat → List Nat) : Prop where
  hN : N ≤ 100
  len : ∀ v, v < N → (X v).length ≤ 100
  mem : ∀ v u, v < N → u ∈ X v → u < N
/-- One element of a row. -/
theorem NB.look {w : World} {B N : Nat} {V : Nat → Value} {X : Nat → List Nat} (h : NB w B N V X) {r j : Nat} (hr : r < N) (hj : j < (X r).length) :
    ∃ g c, V r = .slice (some ⟨g, 0, none⟩) (X r).length c ∧ w.cell? ⟨g, j, none⟩ = some (.int .i64 ((X r).getD j 0 : Nat)) := by
  have ho := h.owns hr
  have hx : (nvals (X r))[j]? = some (.int .i64 ((X r).getD j 0 : Nat)) := by
    simp [nvals, ints, List.getD, List.getElem?_eq_getElem hj]
  rcases ho.2 with ⟨e, h0⟩ | ⟨g, cap, cur, e, -⟩
  · omega
  · have c := ho.cells (g := g) (by rw [e]; rfl) _ _ hx
    rw [Addr.add_lit, Nat.zero_add] at c
    exact ⟨g, cap, e, c⟩
/-- The struct's cells, spelled out. -/
theorem dcells {w : World} {bD N B bA bL : Nat} {vs vb : Value} (h : w.rowIs bD 86 5 (dcell N B bA bL vs vb)) :
    w.cell? ⟨bD, 0, none⟩ = some (.slice (some ⟨B, 0, none⟩) N N) ∧ w.cell? ⟨bD, 1, none⟩ = some (.slice (some ⟨bA, 0, none⟩) N N) ∧ w.cell? ⟨bD, 2, none⟩ = some (.slice (some ⟨bL, 0, none⟩) N N) ∧ w.cell? ⟨bD, 3, none⟩ = some vs ∧ w.cell? ⟨bD, 4, none⟩ = some vb :=
  ⟨h.cell (show 0 < 5 by omega), h.cell (show 1 < 5 by omega), h.cell (show 2 < 5 by omega), h.cell (show 3 < 5 by omega), h.cell (show 4 < 5 by omega)⟩

set_option maxHeartbeats 6400000 in
set_option maxRecDepth 100000 in
theorem walk_any (S0 S bD B bA bL N : Nat) (V : Nat → Value) (X : Nat → List Nat) (hL : DLies S0 S bD B bA bL N V) (hA : DAsk N X) :
    ∀ (f v : Nat) (fr : Int) (σ : Dp) (vs vb : Value) (w : World), unv N σ ≤ f → v < N → σ.num v = 0 → DOk N σ → DEnv w S bD B bA bL N V X σ vs vb →
    Calls Tryd.prog 57 #[.pointer (some ⟨bD, 0, none⟩), .int .i64 (v : Int), .int .i64 fr, .int .i64 (σ.tm : Int)] w (WalkPost S0 S bD B bA bL N V X (walkD X f v fr σ) w) := by
  intro f
  induction f with
  | zero => intro v fr σ vs vb w hf hv h0; have := unv_pos hv h0; omega
  | succ f ih =>
    intro v fr σ vs vb w hf hv h0 hok h
    obtain ⟨hloop, hgrow, -⟩ := walkD_grow hA.hN hA.len hA.mem (f + 1) v fr σ hv h0 hf
    simp only [Nat.add_sub_cancel] at hloop
    have hup := unv_pos hv h0
    have htm : σ.tm + 1 ≤ 100 := by have := hok.tm; have := hA.hN; omega
    have hN := hA.hN
    obtain ⟨av, cv, ev⟩ := h.nb.form hv
    have hn1 := hA.len v hv
    have hall := loopD_all X f v fr σ
    generalize hnv : (X v).length = nv at *
    obtain ⟨d0, d1, d2, d3, d4⟩ := dcells h.ro
    have ca := h.num.cell hv
    have cl := h.low.cell hv
    simp only [rn] at ca cl
    have fa := h.num.frozen v
    have fl := h.low.frozen v
    have hDA := hL.DA; have hDL := hL.DL; have hAL := hL.AL; have hAD := Ne.symm hDA; have hLD := Ne.symm hDL; have hLA := Ne.symm hAL
    have HA := Lib.hid hA; have HL := Lib.hid hL; have H := Lib.hid h; have IH := Lib.hid ih; have Hok := Lib.hid hok; have Hloop := Lib.hid hloop; have Hnv := Lib.hid hnv; have Ev := Lib.hid ev; have H0 := Lib.hid h0; have Hall := Lib.hid hall; have Hf := Lib.hid hf
    clear hA hL h ih hok hloop hgrow hnv ev h0 hall hf hup
    go_enter Tryd.func57, Tryd.ntmps57
    go_upto_region 2 with fail
    go_cut [] from 14 to 28 (fun wx => DEnv wx S bD B bA bL N V X (markD v σ) vs vb ∧ Below S0 w wx)
    case first =>
      go_region_held3 (fun w' => w'.cell? ⟨bD, 1, none⟩ = some (.slice (some ⟨bA, 0, none⟩) N N) ∧ w'.cell? ⟨bD, 2, none⟩ = some (.slice (some ⟨bL, 0, none⟩) N N)) (go_keep) (fail)
      all_goals
        go_wp2
        go_meet
        first
          | exact ⟨H.out.mark HL.out v, (((Below.refl S0 w).setCell (p := ⟨bA, v, none⟩) HL.out.fA.1 _).setCell (p := ⟨bL, v, none⟩) HL.out.fL.1 _).drew⟩
          | exact ⟨H.out.mark' HL.out v, (((Below.refl S0 w).setCell (p := ⟨bL, v, none⟩) HL.out.fL.1 _).setCell (p := ⟨bA, v, none⟩) HL.out.fA.1 _).drew⟩
    case rest =>
      obtain ⟨hE, hB⟩ := hcut
      clear d0 d1 d2 d3 d4 ca cl fa fl
      obtain ⟨d0, -, -, -, -⟩ := dcells hE.ro
      have t1 := hE.nb.ro.cell hv
      rw [Ev.out] at t1
      have HE := Lib.hid hE; have HB := Lib.hid hB
      clear hE hB
      go_wp2
      go_loopg [3, 36] nv (fun g s3 s36 wr => ∃ (j : Nat) (vs vb : Value), j ≤ nv ∧ g = nv - j ∧ s3 = .int .i64 ((loopD X f v fr σ j).tm : Int) ∧ s36 = .int .i64 j ∧ DEnv wr S bD B bA bL N V X (loopD X f v fr σ j) vs vb ∧ Below S0 w wr)
      case atStart => exact ⟨0, vs, vb, Nat.zero_le _, rfl, rfl, rfl, HE.out, HB.out⟩
      case round =>
        obtain ⟨j, vs, vb, hj, rfl, rfl, rfl, h, hb⟩ := hrel
        clear d0 t1
        have hs := fun (hlt : j < nv) => loopD_succ (nb := X) (f := f) (v := v) (from_ := fr) (σ := σ) (j := j) (by rw [Hnv.out]; exact hlt)
        have hl := Hloop.out j hj
        by_cases hlt : j < nv
        · have hs := hs hlt
          obtain ⟨g, c, e, cj⟩ := h.nb.look hv (show j < (X v).length by rw [Hnv.out]; exact hlt)
          have hmem : (X v).getD j 0 ∈ X v := by
            have hj' : j < (X v).length := by rw [Hnv.out]; exact hlt
            rw [List.getD, List.getElem?_eq_getElem hj']
            exact List.getElem_mem hj'
          have hu := HA.out.mem v _ hv hmem
          generalize (X v).getD j 0 = u at *
          generalize hq : loopD X f v fr σ j = σ1 at *
          obtain ⟨rfl, rfl⟩ : av = some ⟨g, 0, none⟩ ∧ cv = c := by
            have := Ev.out.symm.trans e
            simp only [Value.slice.injEq] at this
            exact ⟨this.1, this.2.2⟩
          have H1 := Lib.hid h; have Hb := Lib.hid hb; have Hs := Lib.hid hs; have Hl := Lib.hid hl
          clear h hb hs hl e hmem hq
          by_cases hfr : (u : Int) = fr
          · have q : ((u : Int) == fr) = true := by simp [hfr]
            have Hfr := Lib.hid hfr
            clear hfr
            go_wp2
            go_roundg (nv - (j + 1))
            case measure => go_light; omega
            case rel => exact ⟨j + 1, vs, vb, by omega, rfl, by rw [Hs.out, stepD, if_pos Hfr.out], by go_num, by rw [Hs.out, stepD, if_pos Hfr.out]; exact H1.out, Hb.out⟩
          · have q : ((u : Int) == fr) = false := by simp [hfr]
            have Hfr := Lib.hid hfr
            clear hfr
            obtain ⟨d0, d1, d2, d3, d4⟩ := dcells H1.out.ro
            have ca := H1.out.num.cell hu
            have cv1 := H1.out.num.cell hv
            have cl := H1.out.low.cell hv
            simp only [rn] at ca cv1 cl
            have hok1 := (Hl.out.grow (by omega)).ok Hok.out
            have hs1 : σ1.stk.length ≤ 10000 := by have := hok1.stk; omega
            have hsz := H1.out.sz
            by_cases hn : 0 < σ1.num u
            · have hnI : (0 : Int) < (σ1.num u : Int) := by omega
              by_cases hlt2 : σ1.num u < σ1.num v
              · have hlI : (σ1.num u : Int) < (σ1.num v : Int) := by omega
                have Hst := Lib.hid (show loopD X f v fr σ (j + 1) = lowD v (σ1.num u) (pushD v u σ1) from by rw [Hs.out, stepD, if_neg Hfr.out, if_pos hn, if_pos hlt2])
                generalize hnu : σ1.num u = nu at *
                generalize hnw : σ1.num v = nw at *
                generalize hlo : σ1.low v = lo at *
                have Hnu := Lib.hid hnu; have Hnw := Lib.hid hnw; have Hlo := Lib.hid hlo; have Hok1 := Lib.hid hok1
                clear hnu hnw hlo hok1
                go_wp2
                go_quiet (fail)
                go_upto_region 10 with (at_builtin; refine wpList_append_edges_at rfl (.tmp 70) (.tmp 74) 22 rfl S Tryd.underlying22 info2 vs σ1.stk rfl ((H1.out.drewN _).below (below1 _ _)).stk _ [((v : Int), (u : Int))] rfl (edge_one _ _ _ _ (by simp)) (by simp) _ rfl (by simp; omega) (by simp; omega) ?_; intro a5 c5 w5 ho5 hg5 hat5; obtain ⟨E5, r5⟩ := ((H1.out.drewN _).below (below1 _ _)).push HL.out ho5 hg5 hat5; simp only [List.length_append, List.length_cons, List.length_nil, Nat.zero_add] at E5; have B5 := Lib.hid ((((Below.drewN' Hb.out _).trans ((below1 _ _).mono (Nat.le_trans HL.out.low hsz))).grown hg5 (by simp; have := HL.out.low; omega) (fun g e => Nat.le_trans HL.out.low (H1.out.stk.row g e))).setCell (p := ⟨bD, 3, none⟩) HL.out.fD.1 (.slice a5 (σ1.stk.length + 1) c5)); have q3 := r5.cell (show 3 < 5 by omega); have f3 := r5.frozen 3; have E5 := Lib.hid E5; clear ho5 hg5 hat5 r5)
                generalize w5.setCell ⟨bD, 3, none⟩ (Value.slice a5 (σ1.stk.length + 1) c5) = w6 at *
                clear d0 d1 d2 d3 d4 ca cv1 cl q3 f3 hsz
                refine region_tail 20 (by kernel_rfl) (by kernel_rfl) ?_
                have E6 := Lib.hid (E5.out.below (Below.refl _ w6).drew)
                have B6 := Lib.hid (B5.out.drew)
                clear E5 B5
                generalize w6.drew = w7 at *
                obtain ⟨d0, d1, d2, d3, d4⟩ := dcells E6.out.ro
                have ca := E6.out.num.cell hu
                have cl := E6.out.low.cell hv
                have fl := E6.out.low.frozen v
                simp only [rn] at ca cl
                rw [show (pushD v u σ1).num u = nu from Hnu.out] at ca
                rw [show (pushD v u σ1).low v = lo from Hlo.out] at cl
                simp only [List.take_succ_cons, List.take_zero, List.drop_succ_cons, List.drop_zero]
                repeat still_step
                refine wpStill_nil ?_
                by_cases hm : nu < lo
                · have hmI : (nu : Int) < (lo : Int) := by omega
                  go_wp2
                  go_roundg (nv - (j + 1))
                  case measure => go_light; omega
                  case rel => exact ⟨j + 1, _, vb, by omega, rfl, by rw [Hst.out]; rfl, by go_num, by rw [Hst.out]; exact E6.out.lowTo HL.out (by rw [show (pushD v u σ1).low v = lo from Hlo.out]; omega), B6.out.setCell (p := ⟨bL, v, none⟩) HL.out.fL.1 _⟩
                · have hmI : ¬ (nu : Int) < (lo : Int) := by omega
                  go_wp2
                  go_roundg (nv - (j + 1))
                  case measure => go_light; omega
                  case rel => exact ⟨j + 1, _, vb, by omega, rfl, by rw [Hst.out]; rfl, by go_num, by rw [Hst.out]; exact E6.out.lowTo HL.out (by rw [show (pushD v u σ1).low v = lo from Hlo.out]; omega), B6.out.setCell (p := ⟨bL, v, none⟩) HL.out.fL.1 _⟩
              · have hlI : ¬ (σ1.num u : Int) < (σ1.num v : Int) := by omega
                have Hst := Lib.hid (show loopD X f v fr σ (j + 1) = σ1 from by rw [Hs.out, stepD, if_neg Hfr.out, if_pos hn, if_neg hlt2])
                go_wp2
                go_quiet (fail)
                go_wp2
                go_roundg (nv - (j + 1))
                case measure => go_light; omega
                case rel => exact ⟨j + 1, vs, vb, by omega, rfl, by rw [Hst.out], by go_num, by rw [Hst.out]; exact H1.out.drewN _, Below.drewN' Hb.out _⟩
            · have hn0 : σ1.num u = 0 := by omega
              have hnI : ¬ (0 : Int) < (σ1.num u : Int) := by omega
              have hfew := Hl.out.fewer hv H0.out
              have hu1 : unv N (pushD v u σ1) ≤ f := by show unv N σ1 ≤ f; have := Hf.out; omega
              have hok2 : DOk N (pushD v u σ1) := ⟨hok1.tm, by have := Hl.out.stk; have := Hok.out.stk; show (σ1.stk ++ [_]).length + 100 * unv N σ1 ≤ 10000; simp only [List.length_append, List.length_cons, List.length_nil]; omega, hok1.blk⟩
              obtain ⟨-, hg2, hb2⟩ := walkD_grow HA.out.hN HA.out.len HA.out.mem f u v (pushD v u σ1) hu hn0 hu1
              obtain ⟨sA, sC, rfl⟩ := H1.out.stk.form
              have Hst := Lib.hid (show loopD X f v fr σ (j + 1) = backD v u σ1.stk.length (walkD X f u v (pushD v u σ1)) from by rw [Hs.out, stepD, if_neg Hfr.out, if_neg hn])
              have Hn0 := Lib.hid hn0; have Hu1 := Lib.hid hu1; have Hok2 := Lib.hid hok2; have Hg2 := Lib.hid hg2; have Hb2 := Lib.hid hb2
              clear hn0 hn hfew hu1 hok2 hok1 hg2 hb2
              go_upto_region 12 with fail
              go_upto_region 13 with (at_builtin; refine wpList_append_edges_at rfl (.tmp 108) (.tmp 112) 22 rfl S Tryd.underlying22 info2 (.slice sA σ1.stk.length sC) σ1.stk rfl (H1.out.below (below1 _ _)).stk _ [((v : Int), (u : Int))] rfl (edge_one _ _ _ _ (by simp)) (by simp) _ rfl (by simp; omega) (by simp; omega) ?_; intro a5 c5 w5 ho5 hg5 hat5; obtain ⟨E5, r5⟩ := (H1.out.below (below1 _ _)).push HL.out ho5 hg5 hat5; simp only [List.length_append, List.length_cons, List.length_nil, Nat.zero_add] at E5; have B5 := Lib.hid (((Hb.out.trans ((below1 _ _).mono (Nat.le_trans HL.out.low hsz))).grown hg5 (by simp; have := HL.out.low; omega) (fun g e => Nat.le_trans HL.out.low (H1.out.stk.row g e))).setCell (p := ⟨bD, 3, none⟩) HL.out.fD.1 (.slice a5 (σ1.stk.length + 1) c5)); have q3 := r5.cell (show 3 < 5 by omega); have f3 := r5.frozen 3; have E5 := Lib.hid E5; clear ho5 hg5 hat5 r5)
              generalize w5.setCell ⟨bD, 3, none⟩ (Value.slice a5 (σ1.stk.length + 1) c5) = w6 at *
              clear d0 d1 d2 d3 d4 ca cv1 cl q3 f3 hsz
              go_upto_region 14 with (go_at_call 57; refine (IH.out u (v : Int) (pushD v u σ1) (.slice a5 (σ1.stk.length + 1) c5) vb w6 Hu1.out hu Hn0.out Hok2.out E5.out).mono ?_; rintro e w7 ⟨vs7, vb7, rfl, h7, hb7⟩; have E7 := Lib.hid h7; have B7 := Lib.hid (B5.out.trans hb7); clear h7 hb7)
              clear E5 B5
              have hlen : (pushD v u σ1).stk.length = σ1.stk.length + 1 := by simp [pushD]
              have hk1 := Hg2.out.len
              have hk2 := Hg2.out.stk
              have hk3 := Hok2.out.stk
              have hk4 := Hg2.out.blk
              have hk5 := Hok2.out.blk
              rw [hlen] at hk1 hk2 hk3
              have hk6 : (walkD X f u v (pushD v u σ1)).stk.length ≤ 10000 := by omega
              have hk7 : (walkD X f u v (pushD v u σ1)).blk.length ≤ 100 := by omega
              clear hk2 hk3 hk4 hk5 hlen
              generalize σ1.stk.length = k at *
              generalize walkD X f u v (pushD v u σ1) = σ2 at *
              go_cut [] from 121 to 142 (fun wx => DEnv wx S bD B bA bL N V X (lowD v (σ2.low u) σ2) vs7 vb7 ∧ Below S0 w wx)
              case first =>
                refine region_tail 20 (by kernel_rfl) (by kernel_rfl) ?_
                have E8 := Lib.hid (E7.out.below (Below.refl _ w7).drew)
                have B8 := Lib.hid (B7.out.drew)
                clear E7 B7
                generalize w7.drew = w8 at *
                obtain ⟨d0, d1, d2, d3, d4⟩ := dcells E8.out.ro
                have cu := E8.out.low.cell hu
                have cl := E8.out.low.cell hv
                have fl := E8.out.low.frozen v
                simp only [rn] at cu cl
                generalize σ2.low u = lu at *
                generalize hlo : σ2.low v = lo at *
                have Hlo := Lib.hid hlo
                clear hlo
                simp only [List.take_succ_cons, List.take_zero, List.drop_succ_cons, List.drop_zero]
                repeat still_step
                refine wpStill_nil ?_
                by_cases hm : lu < lo
                · have hmI : (lu : Int) < (lo : Int) := by omega
                  go_wp2
                  go_meet
                  exact ⟨E8.out.lowTo HL.out (by rw [Hlo.out]; omega), B8.out.setCell (p := ⟨bL, v, none⟩) HL.out.fL.1 _⟩
                · have hmI : ¬ (lu : Int) < (lo : Int) := by omega
                  go_wp2
                  go_meet
                  exact ⟨E8.out.lowTo HL.out (by rw [Hlo.out]; omega), B8.out.setCell (p := ⟨bL, v, none⟩) HL.out.fL.1 _⟩
              case rest =>
              obtain ⟨h9, hb9⟩ := hcut
              clear E7 B7
              have E9 := Lib.hid h9; have B9 := Lib.hid hb9
              clear h9 hb9
              have Hst2 := Lib.hid (show loopD X f v fr σ (j + 1) = if (lowD v (σ2.low u) σ2).num v ≤ (lowD v (σ2.low u) σ2).low u then cutD k (lowD v (σ2.low u) σ2) else lowD v (σ2.low u) σ2 from Hst.out)
              have hk8 : k + 1 ≤ (lowD v (σ2.low u) σ2).stk.length := hk1
              have hk9 : (lowD v (σ2.low u) σ2).stk.length ≤ 10000 := hk6
              have hk10 : (lowD v (σ2.low u) σ2).blk.length ≤ 100 := hk7
              have Htm := Lib.hid (show (lowD v (σ2.low u) σ2).tm = σ2.tm from rfl)
              clear hk1 hk6 hk7 Hst
              generalize lowD v (σ2.low u) σ2 = σ3 at *
              obtain ⟨wd, rfl⟩ : ∃ wd : World, wd = wc := ⟨_, rfl⟩
              obtain ⟨d0, d1, d2, d3, d4⟩ := dcells E9.out.ro
              have cu := E9.out.low.cell hu
              have ca := E9.out.num.cell hv
              simp only [rn] at cu ca
              by_cases hc : σ3.num v ≤ σ3.low u
              · have hcI : (σ3.num v : Int) ≤ (σ3.low u : Int) := by omega
                have Hst3 := Lib.hid (Hst2.out.trans (if_pos hc))
                clear hc
                go_wp2
                go_quiet (fail)
                go_upto_region 16 with fail
                clear d0 d1 d2 d3 d4 cu ca hcI
                have E10 := Lib.hid (E9.out.drewN nq)
                have B10 := Lib.hid (Below.drewN' B9.out nq)
                clear E9 B9 Hst2
                generalize wd.drewN nq = w10 at *
                obtain ⟨g7, c7, rfl, hgc⟩ := E10.out.stk.block (by omega)
                obtain ⟨vals, k1, k2⟩ := E10.out.blks
                obtain ⟨aB, cB, rfl⟩ := ownsRow_form k1
                obtain ⟨d0, d1, d2, d3, d4⟩ := dcells E10.out.ro
                obtain ⟨i3, hi3, -, hsz3, -⟩ := info_parts info2
                have hsl := run_slice_from (P := Tryd.prog) Tryd.underlying22 hi3 hsz3 g7 0 σ3.stk.length c7 k (by omega) (by omega)
                have hdr := (E10.out.stk.edges.drop (show k < σ3.stk.length by omega)).below (Below.refl _ w10).drew
                simp only [Nat.zero_add] at hsl hdr
                have hdl : (σ3.stk.drop k).length = σ3.stk.length - k := List.length_drop
                have E11 := Lib.hid (E10.out.below (Below.refl _ w10).drew)
                have B11 := Lib.hid (B10.out.drew)
                have k1' := ownsRow_below k1 (Below.refl _ w10).drew (Nat.le_refl _)
                have k2' : ∀ j, j < σ3.blk.length → ∃ r, vals[j]? = some r ∧ OwnE w10.drew S r (σ3.blk.getD j []) ∧ ∀ g, r.ownBlock = some g → (Value.slice (some ⟨g7, 0, none⟩) σ3.stk.length c7).ownBlock ≠ some g := fun j hj => by
                  obtain ⟨r, e1, e2, e3⟩ := k2 j hj
                  exact ⟨r, e1, e2.below (Below.refl _ w10).drew, e3⟩
                have K1 := Lib.hid k1'; have K2 := Lib.hid k2'; have Hdr := Lib.hid hdr
                have hsz := E10.out.sz
                clear k1 k2 k1' k2' hdr hi3 hsz3
                go_cut [] from 157 to 173 (fun wx => ∃ vb9, DEnv wx S bD B bA bL N V X { σ3 with blk := σ3.blk ++ [σ3.stk.drop k] } (.slice (some ⟨g7, 0, none⟩) σ3.stk.length c7) vb9 ∧ Below S0 w wx)
                case first =>
                  have hz10 : S0 ≤ w10.drew.heap.size := Nat.le_trans HL.out.low hsz
                  go_region_law (first | (refine step_append_edges_at rfl _ _ 22 rfl S Tryd.underlying22 info2 (.slice none 0 0) [] rfl (OwnE.nil _ _) _ (σ3.stk.drop k) rfl Hdr.out (by rw [hdl]; omega) _ (List.nil_append _) (by rw [hdl]; simp; omega) hsz ?_; intro a12 c12 w12 ho12 hg12 hat12; have hrn := ho12.fresh (by rw [hdl]; omega) hat12; rw [hdl] at ho12 hrn; have q4 : w12.cell? ⟨bD, 4, none⟩ = some (.slice aB σ3.blk.length cB) := below_cell (below_grown0 hg12) d4; have q6 := below_cell (below1 w12 (Obj.cells #[.slice a12 (σ3.stk.length - k) c12] 22)) q4; have hs12 := hg12.size; have hz12 : S ≤ w12.heap.size := Nat.le_trans hsz hs12; have R12 := Lib.hid ho12; have G12 := Lib.hid (show w10.drew.grownBy w12 none from hg12); have N12 := Lib.hid hrn; clear ho12 hg12 hat12 hrn hs12) | (refine step_append_at rfl _ _ 74 rfl S 22 (.slice none 0 0) 24 Tryd.underlying74 infoE rfl (.slice aB σ3.blk.length cB) σ3.blk.length vals rfl ((K1.out.kept G12.out (by cases (Value.slice aB σ3.blk.length cB).ownBlock <;> simp)).alloc _) _ 1 [.slice a12 (σ3.stk.length - k) c12] rfl (HasCells.one _ _ _ rfl) (by omega) (by omega) (by omega) (by simp; omega) ?_; intro a13 c13 w13 ho13 hg13 hat13; obtain ⟨E13, r13⟩ := E11.out.block HL.out K1.out K2.out G12.out R12.out N12.out ho13 hg13; have q5 := r13.cell (show 4 < 5 by omega); have f5 := r13.frozen 4; have E13 := Lib.hid E13; have B13 := Lib.hid ((((B11.out.grown G12.out hz10 (by simp)).alloc (Nat.le_trans HL.out.low hz12) (Obj.cells #[.slice a12 (σ3.stk.length - k) c12] 22)).grown hg13 (by simp; have := HL.out.low; omega) (fun g e => Nat.le_trans HL.out.low (K1.out.lt g e).1)).setCell (p := ⟨bD, 4, none⟩) HL.out.fD.1 (.slice a13 (σ3.blk.length + 1) c13)); clear ho13 hg13 hat13 r13))
                  all_goals
                    go_wp2
                    go_meet
                    exact ⟨_, E13.out, B13.out⟩
                case rest =>
                obtain ⟨vb9, h12, hb12⟩ := hcut
                clear E10 B10 E11 B11 K1 K2 Hdr d0 d1 d2 d3 d4 hsl hsz
                have E12 := Lib.hid h12; have B12 := Lib.hid hb12
                clear h12 hb12
                obtain ⟨we, rfl⟩ : ∃ we : World, we = wc := ⟨_, rfl⟩
                obtain ⟨d0, d1, d2, d3, d4⟩ := dcells E12.out.ro
                have f3 := E12.out.ro.frozen 3
                obtain ⟨i3, hi3, -⟩ := info_parts info2
                have hsl := run_slice_hi (P := Tryd.prog) Tryd.underlying22 hi3 (some ⟨g7, 0, none⟩) σ3.stk.length c7 k (by omega)
                go_wp2
                go_roundg (nv - (j + 1))
                case measure => go_light; omega
                case rel => exact ⟨j + 1, _, vb9, by omega, rfl, by rw [Hst3.out]; exact congrArg (fun t : Nat => Value.int .i64 (t : Int)) Htm.out.symm, by go_num, by rw [Hst3.out]; exact E12.out.pop HL.out (by show k ≤ σ3.stk.length; omega) (by simp), B12.out.setCell (p := ⟨bD, 3, none⟩) HL.out.fD.1 _⟩
              · have hcI : ¬ (σ3.num v : Int) ≤ (σ3.low u : Int) := by omega
                have Hst3 := Lib.hid (Hst2.out.trans (if_neg hc))
                go_wp2
                go_quiet (fail)
                go_wp2
                go_roundg (nv - (j + 1))
                case measure => go_light; omega
                case rel => exact ⟨j + 1, vs7, vb7, by omega, rfl, by rw [Hst3.out, Htm.out], by go_num, by rw [Hst3.out]; exact E9.out.drewN _, Below.drewN' B9.out _⟩
        · obtain rfl : nv = j := by omega
          clear hs
          have H1 := Lib.hid h; have Hb := Lib.hid hb
          clear h hb
          go_wp2
          exact bodyPost_ret (v := .int .i64 ((loopD X f v fr σ nv).tm : Int)) (by simp [results, Tryd.results57, go_sem]) rfl ⟨vs, vb, by rw [← Hall.out], by rw [← Hall.out]; exact H1.out, Hb.out⟩

end Go.Proofs.YtnhhohhhpaejmaaDoor
