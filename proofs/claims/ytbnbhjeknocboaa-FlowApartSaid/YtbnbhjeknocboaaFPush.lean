/- (*flow.pipes).push. -/
import Derived.Test.YtbnbhjeknocboaaPushMem
namespace Go.Proofs.Ytbnbhjeknocboaa
open Go.RowKit

/-- What a push asks. -/
structure PuAsk (base bP bA N M S bV bX gL : Nat) (V : Nat → Value) (X : Nat → List Nat) (lev : Nat → Int) (t : Nat) : Prop where
  lies : Lies base bP bA N V S bV bX gL
  ok : NetOk N M X
  rng : ∀ v, v < N → lev v = -1 ∨ (0 ≤ lev v ∧ lev v < N)
  few : ∀ i, i < M → leftX X i + leftX X (i ^^^ 1) ≤ 1000000000
  ht : t < N

set_option maxHeartbeats 6400000 in
set_option maxRecDepth 100000 in
theorem fpush_any (base bP bA N M S bV bX gL : Nat) (V : Nat → Value) (X : Nat → List Nat) (lev : Nat → Int) (t : Nat) (hA : PuAsk base bP bA N M S bV bX gL V X lev t) :
    ∀ (d v most : Nat) (nx : Nat → Nat) (w : World), (N : Int) ≤ d + lev v → v < N → 0 ≤ lev v → 0 < most → most ≤ 4611686018427387904 → (∀ u, u < N → nx u ≤ (X (u + 2)).length) → PuEnv w base bP bA N V bV bX X lev nx →
    Calls Try.prog 55 #[.pointer (some ⟨bP, 0, none⟩), .int .i64 (v : Int), .int .i64 (t : Int), .int .i64 (most : Int), .slice (some ⟨bV, 0, none⟩) N N, .slice (some ⟨bX, 0, none⟩) N N] w (PushPost base bP bA N M V bV bX gL X lev nx t v most w) := by
  intro d
  induction d with
  | zero =>
    intro v most nx w hd hv h0
    have := hA.rng v hv
    omega
  | succ d ih =>
    intro v most nx w hd hv h0 hm hm2 hnx h
    have HA := Lib.hid hA; have H := Lib.hid h; have Hnx := Lib.hid hnx; have IH := Lib.hid ih
    have hN := hA.ok.small.1
    have hM := hA.ok.small.2
    have htN := hA.ht
    have Hd := Lib.hid hd; have H0 := Lib.hid h0
    clear hA h hnx ih hd h0
    by_cases hvt : v = t
    · subst hvt
      have q : ((v : Int) == (v : Int)) = true := by simp
      go_enter Try.func55, Try.ntmps55
      go_wp2
      exact bodyPost_ret (v := .int .i64 (most : Int)) (by simp [results, Try.results55, go_sem]) rfl ⟨most, X, nx, rfl, H.out, Chg.refl _ _, Hnx.out, fun _ _ _ => rfl, Or.inr ⟨hm, Nat.le_refl _, Aug.refl HA.out.ok⟩⟩
    · have q : ((v : Int) == (t : Int)) = false := by simp; omega
      have Hvt := Lib.hid hvt
      clear hvt
      generalize hnv : (X (v + 2)).length = nv at *
      have Hnv := Lib.hid hnv
      have hnvM : nv ≤ 10000 := by have := HA.out.ok.at_len v hv; omega
      obtain ⟨av, cv, ev⟩ := H.out.pb.form (show v + 2 < N + 2 by omega)
      rw [hnv] at ev
      have Ev := Lib.hid ev
      clear hnv ev
      go_enter Try.func55, Try.ntmps55
      go_wp2
      go_loopg [13] (nv - nx v) (fun g s13 wr => ∃ nx1 : Nat → Nat, g = nv - nx1 v ∧ s13 = s13 ∧ PuEnv wr base bP bA N V bV bX X lev nx1 ∧ Chg (PuTurns gL bX) w wr ∧ (∀ u, u < N → nx1 u ≤ (X (u + 2)).length) ∧ (∀ u, u < N → lev u < lev v → nx1 u = nx u) ∧ (Dead N X lev t nx → Dead N X lev t nx1))
      case atStart => exact ⟨nx, rfl, rfl, H.out, Chg.refl _ _, Hnx.out, fun _ _ _ => rfl, id⟩
      case round =>
        obtain ⟨nx1, rfl, -, h, hc, hle, hlow, hdead⟩ := hrel
        have H1 := Lib.hid h; have Hc := Lib.hid hc; have Hle := Lib.hid hle; have Hlow := Lib.hid hlow; have Hdead := Lib.hid hdead
        have p2 := h.pb.rP.cell (show 2 < 3 by omega)
        simp only [show ¬ (2 : Nat) = 0 by omega, show ¬ (2 : Nat) = 1 by omega, if_false] at p2
        have t1 := h.pb.rA.cell hv
        rw [Ev.out] at t1
        have cx := h.nxt.cell hv
        simp only [rn] at cx
        have fx := h.nxt.frozen v
        have hjn := hle v hv
        rw [Hnv.out] at hjn
        generalize hj : nx1 v = j at *
        have Hj := Lib.hid hj
        clear h hc hle hlow hdead hj
        by_cases hlt : j < nv
        · obtain ⟨gv, cv', ev, -, -, hcv⟩ := H1.out.pb.look (show v + 2 < N + 2 by omega) (by rw [Hnv.out]; omega)
          obtain ⟨rfl, rfl⟩ : av = some ⟨gv, 0, none⟩ ∧ cv = cv' := by
            have := Ev.out.symm.trans ev
            simp only [Value.slice.injEq] at this
            exact ⟨this.1, this.2.2⟩
          have c1 := (hcv j (by rw [Hnv.out]; exact hlt)).1
          have hmem : (X (v + 2)).getD j 0 ∈ X (v + 2) := by
            have hj' : j < (X (v + 2)).length := by rw [Hnv.out]; exact hlt
            rw [List.getD, List.getElem?_eq_getElem hj']
            exact List.getElem_mem hj'
          obtain ⟨him, hti⟩ := HA.out.ok.at_lt v hv _ hmem
          generalize hij : (X (v + 2)).getD j 0 = i at *
          have Hij := Lib.hid hij; have Hti := Lib.hid hti
          obtain ⟨gT, cT, eT, -, -, hcT⟩ := H1.out.pb.look (show 0 < N + 2 by omega) (by rw [HA.out.ok.toL]; omega)
          obtain ⟨gL', cL, eL, -, -, hcL⟩ := H1.out.pb.look (show 1 < N + 2 by omega) (by rw [HA.out.ok.leftL]; omega)
          obtain rfl : gL' = gL := by have := HA.out.lies.left; rw [eL] at this; simpa [Value.ownBlock] using this
          have p0 := H1.out.pb.rP.cell (show 0 < 3 by omega)
          have p1 := H1.out.pb.rP.cell (show 1 < 3 by omega)
          simp only [show ¬ (1 : Nat) = 0 by omega, if_true, if_false] at p0 p1
          rw [eT, HA.out.ok.toL] at p0
          rw [eL, HA.out.ok.leftL] at p1
          have EL := Lib.hid eL
          have c2 := (hcT i (by rw [HA.out.ok.toL]; exact him)).1
          have c3 := (hcL i (by rw [HA.out.ok.leftL]; exact him)).1
          have htw : (X 0).getD i 0 < N := HA.out.ok.to_lt i him
          generalize hto : (X 0).getD i 0 = tw at *
          generalize hlf : (X 1).getD i 0 = le at *
          have Hto := Lib.hid (show toX X i = tw from hto); have Hlf := Lib.hid (show leftX X i = le from hlf)
          have cw := H1.out.lev.cell htw
          have cv1 := H1.out.lev.cell hv
          simp only [ri] at cw cv1
          have hrv := HA.out.rng v hv
          have hrw := HA.out.rng tw htw
          have hwr : IntKind.i64.wrap (lev v + 1) = lev v + 1 := IntWalk.i64_in _ (by omega)
          clear hto hlf hij hti hmem hcv hcT hcL eT eL ev
          by_cases hl0 : le = 0
          · subst hl0
            clear cw cv1 hrv hrw hwr
            go_wp2
            go_quiet (fail)
            go_wp2
            go_quiet (fail)
            go_wp2
            go_quiet (fail)
            go_wp2
            obtain ⟨nx5, f1, f2, f3, f4, f5, f6⟩ := pu_next HA.out.lies hv (H1.out.drewN _) (Hc.out.drewN _) Hle.out Hlow.out Hdead.out Hj.out (by rw [Hnv.out]; exact hlt) (fun _ => Or.inl (by rw [Hij.out]; exact Hlf.out))
            go_roundg (nv - (j + 1))
            case measure => go_light; omega
            case rel => exact ⟨nx5, by rw [f1], trivial, f2, f3, f4, f5, f6⟩
          · have q0 : ((le : Int) == 0) = false := by simp; omega
            by_cases hlv : lev tw = lev v + 1
            · have q1 : (lev tw != lev v + 1) = false := by simp [hlv]
              obtain ⟨m1, hmin, hm1, hm1a, hm1b⟩ : ∃ m1 : Nat, (if le < most then (le : Int) else (most : Int)) = (m1 : Int) ∧ 0 < m1 ∧ m1 ≤ most ∧ m1 ≤ le := by
                by_cases c : le < most
                · exact ⟨le, by rw [if_pos c], by omega, by omega, by omega⟩
                · exact ⟨most, by rw [if_neg c], by omega, by omega, by omega⟩
              have Hmin := Lib.hid hmin
              clear hmin
              have Hlv := Lib.hid hlv
              clear hlv
              go_wp2
              go_quiet (fail)
              go_wp2
              go_quiet (fail)
              go_wp2
              go_quiet (fail)
              go_upto_region 9 with (go_at_call 55; rw [Hmin.out]; refine (IH.out tw m1 nx1 _ (by rw [Hlv.out]; have := Hd.out; omega) htw (by rw [Hlv.out]; have := H0.out; omega) hm1 (by omega) Hle.out (H1.out.drewN _)).mono ?_; rintro e w5 ⟨n1, X5, nx5, rfl, h5, hc5, hle5, hlow5, hr5⟩; have H5 := Lib.hid h5; have Hc5 := Lib.hid (((Hc.out.drewN _).trans hc5)); have Hle5 := Lib.hid hle5; have Hlow5 := Lib.hid hlow5; have Hr5 := Lib.hid hr5; clear h5 hc5 hle5 hlow5 hr5)
              by_cases hn : n1 = 0
              · subst hn
                obtain ⟨rfl, htt, hdd⟩ : X5 = X ∧ tw ≠ t ∧ (Dead N X lev t nx1 → Dead N X lev t nx5 ∧ nx5 tw = (X (tw + 2)).length) := by
                  rcases Hr5.out with ⟨-, h1, h2, h3⟩ | ⟨h1, -⟩
                  · exact ⟨h1, h2, h3⟩
                  · omega
                have hnv5 : nx5 v = j := (Hlow5.out v hv (by rw [Hlv.out]; omega)).trans Hj.out
                have cx5 := H5.out.nxt.cell hv
                simp only [rn] at cx5
                rw [hnv5] at cx5
                have fx5 := H5.out.nxt.frozen v
                have Hnv5 := Lib.hid hnv5; have Htt := Lib.hid htt; have Hdd := Lib.hid hdd
                clear cx fx p0 p1 p2 t1 c1 c2 c3 cw cv1 hnv5 htt hdd hwr
                go_wp2
                obtain ⟨nx6, f1, f2, f3, f4, f5, f6⟩ := pu_next HA.out.lies hv H5.out Hc5.out Hle5.out (fun u hu hl => (Hlow5.out u hu (by rw [Hlv.out]; omega)).trans (Hlow.out u hu hl)) (fun hd => (Hdd.out (Hdead.out hd)).1) Hnv5.out (by rw [Hnv.out]; exact hlt) (fun hd => Or.inr (Or.inr ⟨by rw [Hij.out, Hto.out]; exact Htt.out, by rw [Hij.out, Hto.out]; exact (Hdd.out (Hdead.out hd)).2⟩))
                go_roundg (nv - (j + 1))
                case measure => go_light; omega
                case rel => exact ⟨nx6, by rw [f1], trivial, f2, f3, f4, f5, f6⟩
              · obtain ⟨hn1m, ha⟩ : n1 ≤ m1 ∧ Aug N M lev t tw n1 X X5 := by
                  rcases Hr5.out with ⟨h1, -⟩ | ⟨-, h2, h3⟩
                  · exact absurd h1 hn
                  · exact ⟨h2, h3⟩
                obtain ⟨ha2, hl5⟩ := ha.step HA.out.ok him Hti.out Hto.out Hlv.out (by rw [Hlf.out]; omega)
                rw [Hlf.out] at hl5
                have hx := HA.out.ok.xor_lt i him
                have hfew := HA.out.few i him
                rw [← ha.sum i him] at hfew
                obtain ⟨g6, c6, e6, -, -, hc6⟩ := H5.out.pb.look (show 1 < N + 2 by omega) (by rw [ha.ok.leftL]; omega)
                obtain ⟨rfl, rfl⟩ : gL' = g6 ∧ cL = c6 := by
                  have := EL.out.symm.trans e6
                  simp only [Value.slice.injEq, Option.some.injEq, Addr.mk.injEq] at this
                  exact ⟨this.1.1, this.2.2⟩
                have k1 := hc6 i (by rw [ha.ok.leftL]; exact him)
                have k2 := hc6 (i ^^^ 1) (by rw [ha.ok.leftL]; exact hx)
                have k1a := k1.1
                rw [show (X5 1).getD i 0 = le from hl5] at k1a
                have k1b := k1.2
                have k2a := k2.1
                have k2b := k2.2
                generalize hlx : (X5 1).getD (i ^^^ 1) 0 = lx at *
                have Hlx := Lib.hid (show leftX X5 (i ^^^ 1) = lx from hlx)
                have p1' := H5.out.pb.rP.cell (show 1 < 3 by omega)
                simp only [show ¬ (1 : Nat) = 0 by omega, if_true, if_false] at p1'
                rw [e6, ha.ok.leftL] at p1'
                have hw1 : IntKind.i64.wrap ((le : Int) - (n1 : Int)) = ((le - n1 : Nat) : Int) := by
                  rw [show (le : Int) - (n1 : Int) = ((le - n1 : Nat) : Int) by omega]
                  exact wrap_nat (by omega)
                have hnp : 0 < n1 := by omega
                have hnp' : (0 : Int) < (n1 : Int) := by omega
                clear cx fx p0 p1 p2 t1 c1 c2 c3 cw cv1 hwr hlx k2 hc6
                have H6 := Lib.hid (H5.out.setLeft HA.out.lies e6 i (le - n1))
                have C6 := Lib.hid (Hc5.out.setCell (p := ⟨gL', i, none⟩) (fun _ => Or.inl rfl) (.int .i64 ((le - n1 : Nat) : Int)))
                clear k1a k1b k2a k2b hw1
                have k1a := k1.1
                rw [show (X5 1).getD i 0 = le from hl5] at k1a
                have k1b := k1.2
                have hw1 : IntKind.i64.wrap ((le : Int) - (n1 : Int)) = ((le - n1 : Nat) : Int) := by
                  rw [show (le : Int) - (n1 : Int) = ((le - n1 : Nat) : Int) by omega]
                  exact wrap_nat (by omega)
                clear k1
                go_upto_region 11 with fail
                generalize w5.setCell ⟨gL', i, none⟩ (.int .i64 ((le - n1 : Nat) : Int)) = w6 at *
                clear k1a k1b hw1 p1'
                have p1' := H6.out.pb.rP.cell (show 1 < 3 by omega)
                simp only [show ¬ (1 : Nat) = 0 by omega, if_true, if_false] at p1'
                rw [e6, ha.ok.leftL] at p1'
                obtain ⟨g7, c7, e7, -, -, hc7⟩ := H6.out.pb.look (show 1 < N + 2 by omega) (by simp only [if_true, List.length_set]; rw [ha.ok.leftL]; omega)
                obtain rfl : gL' = g7 := by
                  have := e6.symm.trans e7
                  simp only [Value.slice.injEq, Option.some.injEq, Addr.mk.injEq] at this
                  exact this.1.1
                have k2 := hc7 (i ^^^ 1) (by simp only [if_true, List.length_set]; rw [ha.ok.leftL]; exact hx)
                simp only [if_true] at k2
                rw [getD_set _ _ _ _ (by rw [ha.ok.leftL]; exact him), if_neg (xor_one_ne i), show (X5 1).getD (i ^^^ 1) 0 = lx from Hlx.out] at k2
                have k2a := k2.1
                have k2b := k2.2
                have hxor := op_xor (i := i) (by omega) (by omega)
                have hlxs : lx ≤ 1000000000 := by have := Hlx.out; omega
                have hw2 : IntKind.i64.wrap ((lx : Int) + (n1 : Int)) = ((lx + n1 : Nat) : Int) := wrap_nat (n := lx + n1) (by omega)
                have H7 := Lib.hid (H6.out.setLeft HA.out.lies e7 (i ^^^ 1) (lx + n1))
                have C7 := Lib.hid (C6.out.setCell (p := ⟨gL', i ^^^ 1, none⟩) (fun _ => Or.inl rfl) (.int .i64 ((lx + n1 : Nat) : Int)))
                have E6 := Lib.hid e6; have Ha2 := Lib.hid ha2; have Hl5 := Lib.hid hl5
                have hxM : i ^^^ 1 < M := hx
                clear k2 hc7 e7 e6 ha2 hl5 hx hfew ha
                generalize hix : i ^^^ 1 = ix at *
                have Hix := Lib.hid hix
                clear hix
                go_wp2
                have hX7 : (fun q => if q = 1 then ((fun q => if q = 1 then (X5 1).set i (le - n1) else X5 q) 1).set ix (lx + n1) else (fun q => if q = 1 then (X5 1).set i (le - n1) else X5 q) q) = putL X5 i n1 := by
                  funext q
                  unfold putL
                  rw [Hl5.out, Hix.out, show leftX X5 ix = lx from by rw [← Hix.out]; have := Hlx.out; rw [← Hix.out] at this; exact this]
                  by_cases e : q = 1
                  · simp only [if_pos e, if_true]
                  · simp only [if_neg e]
                have H8 : PuEnv (w6.setCell ⟨gL', ix, none⟩ (.int .i64 ((lx + n1 : Nat) : Int))) base bP bA N V bV bX (putL X5 i n1) lev nx5 := by
                  rw [← hX7]; exact H7.out
                exact bodyPost_ret (v := .int .i64 (n1 : Int)) (by simp [results, Try.results55, go_sem]) rfl ⟨n1, putL X5 i n1, nx5, rfl, H8, C7.out, Hle5.out, fun u hu hl => (Hlow5.out u hu (by rw [Hlv.out]; omega)).trans (Hlow.out u hu hl), Or.inr ⟨hnp, by omega, Ha2.out⟩⟩
            · have q1 : (lev tw != lev v + 1) = true := by simp [hlv]
              have Hlv := Lib.hid hlv
              clear hlv
              go_wp2
              go_quiet (fail)
              go_wp2
              go_quiet (fail)
              go_wp2
              go_quiet (fail)
              go_wp2
              obtain ⟨nx5, f1, f2, f3, f4, f5, f6⟩ := pu_next HA.out.lies hv (H1.out.drewN _) (Hc.out.drewN _) Hle.out Hlow.out Hdead.out Hj.out (by rw [Hnv.out]; exact hlt) (fun _ => Or.inr (Or.inl (by rw [Hij.out, Hto.out]; exact Hlv.out)))
              go_roundg (nv - (j + 1))
              case measure => go_light; omega
              case rel => exact ⟨nx5, by rw [f1], trivial, f2, f3, f4, f5, f6⟩
        · obtain rfl : nv = j := by omega
          clear fx hjn
          go_wp2
          go_quiet (fail)
          go_wp2
          exact bodyPost_ret (v := .int .i64 0) (by simp [results, Try.results55, go_sem]) rfl ⟨0, X, nx1, rfl, H1.out.drewN _, Hc.out.drewN _, Hle.out, Hlow.out, Or.inl ⟨rfl, rfl, Hvt.out, fun hd => ⟨Hdead.out hd, by rw [Hj.out, Hnv.out]⟩⟩⟩

end Go.Proofs.Ytbnbhjeknocboaa
