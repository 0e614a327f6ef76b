/- flow.Most: the walk. -/
import Derived.Test.YtbnbhjeknocboaaPD
namespace Go.Proofs.Ytbnbhjeknocboaa
open Go.RowKit

theorem NRes.s01 {w wr : World} {A B : Nat} {n : Int} {v : Value} {c a : Int} (h : NRes w wr A B n v c a) : wr.cell? ⟨B, 0, none⟩ = some (.int .i64 c) ∧ wr.cell? ⟨B, 1, none⟩ = some (.int .i64 a) := ⟨h.f0, h.f1⟩

set_option maxHeartbeats 6400000 in
set_option maxRecDepth 100000 in
theorem fflow_any (l : List (Int × Int × Int)) (n s t : Int) (v : Value) (w : World) (h : IsArcs w v l) :
    Calls Try.prog 48 #[.agg #[.int .i64 n, v], .int .i64 s, .int .i64 t] w (FlowPost n l s t w) := by
  have hs := h
  obtain ⟨ad, cap, bb, o, rfl, hcap, hmax, hadr, -, hcell⟩ := h
  have hg := netStart w n (.slice ad l.length cap)
  have cn := hg.cn
  have cs := hg.cs
  have cz0 := hg.hz.cell (show 0 < 2 by omega)
  have cz1 := hg.hz.cell (show 1 < 2 by omega)
  have zz0 := hg.hz.frozen 0
  have zz1 := hg.hz.frozen 1
  have hBl := hg.hz.lt
  have Hg := Lib.hid hg; have Hs := Lib.hid hs
  clear hg hs hcell hadr
  go_enter Try.func48, Try.ntmps48
  go_upto_region 1 with fail
  generalize (w.alloc (Obj.cells #[.int .i64 n, .slice ad l.length cap] 75)).alloc (Obj.cells #[Value.int IntKind.i64 0, Value.int IntKind.i64 0] 28) = w1 at *
  go_upto_region 2 with (go_at_call 56; refine (fcheck_any l n _ w1 (Hs.out.below Hg.out.hb)).mono ?_; rintro e w2 ⟨c, a, hsp, rfl, hb2⟩; have Hsp := Lib.hid hsp; have g2 := Hg.out.below hb2; have G2 := Lib.hid g2; have cz0 := g2.hz.cell (show 0 < 2 by omega); have cz1 := g2.hz.cell (show 1 < 2 by omega); have zz0 := g2.hz.frozen 0; have zz1 := g2.hz.frozen 1; have hBl := g2.hz.lt; clear hsp hb2 g2)
  have hN2 := G2.out.toN c a
  generalize (w2.setCell ⟨w.heap.size + 1, 0, none⟩ (.int .i64 c)).setCell ⟨w.heap.size + 1, 1, none⟩ (.int .i64 a) = w3 at *
  clear cz0 cz1 zz0 zz1 hBl cn cs G2
  have f0 := hN2.f0
  have f1 := hN2.f1
  have cn := hN2.cn
  have cs := hN2.cs
  have z0 := hN2.hf.frozen 0
  have z1 := hN2.hf.frozen 1
  have hBl := hN2.hf.lt
  have HN2 := Lib.hid hN2
  clear hN2
  by_cases hc : c = 0
  · subst hc
    obtain ⟨rfl, hbig, hok⟩ := Hsp.out.zero
    have Hbig := Lib.hid hbig; have Hok := Lib.hid hok
    clear hbig hok
    go_upto_region 4 with (go_at_call 52; refine (fends_any n s t _).mono ?_; rintro e w4 ⟨c, a, hsp2, rfl, hb4⟩; have Hsp2 := Lib.hid hsp2; have h4 := HN2.out.below hb4; have H4 := Lib.hid h4; have f0 := h4.f0; have f1 := h4.f1; have z0 := h4.hf.frozen 0; have z1 := h4.hf.frozen 1; have hBl := h4.hf.lt; clear hsp2 hb4 h4)
    have h5 := H4.out.put c a
    generalize (w4.setCell ⟨w.heap.size + 1, 0, none⟩ (.int .i64 c)).setCell ⟨w.heap.size + 1, 1, none⟩ (.int .i64 a) = w5 at *
    clear f0 f1 z0 z1 hBl cn cs H4
    have f0 := h5.f0
    have f1 := h5.f1
    have cn := h5.cn
    have cs := h5.cs
    have z0 := h5.hf.frozen 0
    have z1 := h5.hf.frozen 1
    have hBl := h5.hf.lt
    have H5 := Lib.hid h5
    clear h5
    by_cases hc : c = 0
    · subst hc
      obtain ⟨rfl, hs0, hsn, ht0, htn, hne⟩ : a = 0 ∧ 0 ≤ s ∧ s < n ∧ 0 ≤ t ∧ t < n ∧ s ≠ t := by
        have := Hsp2.out
        unfold EndsSpec at this
        omega
      have hbig := Hbig.out
      unfold NetBig at hbig
      obtain ⟨N, rfl⟩ : ∃ N : Nat, n = N := ⟨n.toNat, by omega⟩
      obtain ⟨s, rfl⟩ : ∃ q : Nat, s = q := ⟨s.toNat, by omega⟩
      obtain ⟨t, rfl⟩ : ∃ q : Nat, t = q := ⟨t.toNat, by omega⟩
      have hN : N ≤ 100 := by omega
      have hl : l.length ≤ 1000 := by omega
      have hs : s < N := by omega
      have ht : t < N := by omega
      have hst : s ≠ t := by omega
      have hNO := netOk (l := l) (N := N) (by omega) (by omega) Hok.out
      have HNO := Lib.hid hNO; have Hst := Lib.hid hst
      clear hs0 hsn ht0 htn hne hbig hNO hst
      go_upto_region 7 with (go_at_call 57; refine (fbuild_any l N _ w5 (Hs.out.below H5.out.hb) hN hl Hok.out).mono ?_; rintro e w6 ⟨base, bP, bA, V, rfl, hp, hbP, hbA, hb6⟩; have Hp := Lib.hid hp; have Hb6 := Lib.hid hb6; clear hp hb6)
      go_upto_region 8 with (go_at_call 44; refine (fmost_any base bP bA N (2 * l.length) s t V (netX l) w6 hs ht Hst.out HNO.out (net_few Hok.out) Hp.out).mono ?_; rintro e w7 ⟨sum, X, lev, rfl, hp7, hsent, hlev, hlt, hch⟩; have Hp7 := Lib.hid hp7; have Hsent := Lib.hid hsent; have Hlev := Lib.hid hlev; have Hlt := Lib.hid hlt; have Hch := Lib.hid hch; clear hp7 hsent hlev hlt hch)
      have h57 : Below w5.heap.size w5 w7 := Hb6.out.trans (Hch.out.toBelow (B := w5.heap.size) Hb6.out.size (fun k hk hS => by
        have h1 := Hp.out.ge (show 1 < N + 2 by omega) hS
        have h2 := Hp.out.lt
        omega))
      have h7 := H5.out.below h57
      have H7 := Lib.hid h7
      clear cn cs f0 f1 z0 z1 hBl
      have cn := h7.cn
      have cs := h7.cs
      clear h7 h57
      go_wp2
      go_loopg [7, 35] l.length (fun g s7 s35 wr => ∃ k : Nat, k ≤ l.length ∧ g = l.length - k ∧ s35 = .int .i64 (k : Int) ∧ wr.ownsRow w7.heap.size 3 1 s7 (flowsL X k).length ((ints (flowsL X k)).map (Value.int .i64)) ∧ Below w7.heap.size w7 wr)
      case atStart => exact ⟨0, Nat.zero_le _, rfl, rfl, World.ownsRow_nil _ _ _ _, Below.refl _ _⟩
      case round =>
        obtain ⟨k, hk, rfl, rfl, hown, hb2⟩ := hrel
        have Hown := Lib.hid hown; have Hb2 := Lib.hid hb2
        have hsz2 := hb2.size
        obtain ⟨a0, c0, rfl⟩ := ownsRow_form hown
        have hpr := Hp7.out.below hb2
        have hll := flowsL_length X k
        have hXl : (X 1).length = 2 * l.length := Hsent.out.ok.leftL
        by_cases hlt : k < l.length
        · obtain ⟨gL, cL, eL, -, -, hlook⟩ := hpr.look (show 1 < N + 2 by omega) (by rw [hXl]; omega)
          have p1 := hpr.rP.cell (show 1 < 3 by omega)
          simp only [show ¬ (1 : Nat) = 0 by omega, if_false, if_true] at p1
          have lP := hpr.rP.lt
          obtain ⟨c1, -⟩ := hlook (2 * k + 1) (by rw [hXl]; omega)
          rw [eL, hXl] at p1
          have hw1 : IntKind.i64.wrap (2 * (k : Int)) = ((2 * k : Nat) : Int) := wrap_nat (n := 2 * k) (by omega)
          have hw2 : IntKind.i64.wrap (((2 * k : Nat) : Int) + 1) = ((2 * k + 1 : Nat) : Int) := wrap_nat (n := 2 * k + 1) (by omega)
          have Hll := Lib.hid hll; have Hlook := Lib.hid hlook
          have hflen : (flowsL X k).length ≤ 1000 := by omega
          generalize hxx : (X 1).getD (2 * k + 1) 0 = xx at c1
          have Hxx := Lib.hid hxx
          clear hown hb2 hpr hlook eL hll hxx cn cs
          go_wp2_with (at_builtin; refine wpList_append_has rfl (.tmp 38) (.tmp 48) 25 rfl w7.heap.size 3 (.int .i64 0) 8 Try.underlying25 info3 rfl _ (flowsL X k).length ((ints (flowsL X k)).map (Value.int .i64)) rfl (Hown.out.alloc _) _ 1 [.int .i64 (xx : Int)] rfl (HasCells.one _ _ _ rfl) (by omega) (by omega) (by simp; omega) ?_; intro a2 c2 w8 hown2 hg2; have Hown2 := Lib.hid hown2; have Hg2 := Lib.hid ((Hb2.out.alloc hsz2 (Obj.cells #[Value.int .i64 (xx : Int)] 3)).grown hg2 (by rw [World.size_alloc]; omega) (fun g e => (Hown.out.lt g e).1)); clear hown2 hg2)
          go_roundg (l.length - (k + 1))
          case measure => go_light; omega
          case rel => exact ⟨k + 1, by omega, rfl, by go_num, by
            rw [flowsL_succ, show leftX X (2 * k + 1) = xx from Hxx.out, List.length_append, ints_snoc, List.map_append]
            exact Hown2.out, Hg2.out⟩
        · obtain rfl : l.length = k := by omega
          have h9 := H7.out.below (hb2.mono (Nat.le_refl _))
          have f0 := h9.f0
          have f1 := h9.f1
          have z0 := h9.hf.frozen 0
          have z1 := h9.hf.frozen 1
          have hBl := h9.hf.lt
          have H9 := Lib.hid h9; have Hpr := Lib.hid hpr; have Hll := Lib.hid hll
          clear h9 hpr hown hb2 hll
          go_upto_region 13 with fail
          have hb0 : Below wr.heap.size wr wr.drew := (Below.refl _ _).drew
          go_region_held3 (fun w' => w'.cell? ⟨w.heap.size + 1, 0, none⟩ = some (.int .i64 0) ∧ w'.cell? ⟨w.heap.size + 1, 1, none⟩ = some (.int .i64 0))
            (first | exact ⟨f0, f1⟩ | exact ⟨g0, g1⟩ | exact q2)
            (first | (go_at_call 47; refine (fside_any base bP bA N (2 * l.length) s V X _ hs Hsent.out.ok (Hpr.out.below hb0)).mono ?_; rintro e w8 ⟨lev', v8, rfl, hlev', hown8, hb8⟩; have hbw := hb0.trans (hb8.mono hb0.size); have g0 := below_cell hbw f0; have g1 := below_cell hbw f1; have y0 := (H9.out.below hbw).hf.frozen 0; have y1 := (H9.out.below hbw).hf.frozen 1; have hBl8 := (H9.out.below hbw).hf.lt; have q2 := ((H9.out.below hbw).put 0 0).s01))
          all_goals
            have hm := Hsent.out
            have hB7 := H7.out.hf.lt
            have hB9 := H9.out.hf.lt
            have hfl := ownsRow_low (ownsRow_setCell_below (ownsRow_setCell_below (ownsRow_below Hown.out hbw (Nat.le_refl _)) (a := ⟨w.heap.size + 1, 0, none⟩) hB7 (.int .i64 0)) (a := ⟨w.heap.size + 1, 1, none⟩) hB7 (.int .i64 0)) (show w.heap.size ≤ w7.heap.size by omega)
            have hsd := ownsRow_low (ownsRow_setCell_below (ownsRow_setCell_below hown8 (a := ⟨w.heap.size + 1, 0, none⟩) hB9 (.int .i64 0)) (a := ⟨w.heap.size + 1, 1, none⟩) hB9 (.int .i64 0)) (show w.heap.size ≤ wr.heap.size by omega)
            have h10 := (H9.out.below hbw).put 0 0
            have e0 : (w8.setCell ⟨w.heap.size + 1, 0, none⟩ (.int .i64 0)).cell? ⟨w.heap.size + 1, 0, none⟩ = some (.int .i64 0) := ((H9.out.below hbw).hf.set 0 (.int .i64 0)).cell (show 0 < 2 by omega)
            have e1 := h10.f1
            go_wp2
            exact bodyPost_ret (v := .tuple #[.int .i64 (sum : Int), .slice a0 (flowsL X l.length).length c0, v8, .agg #[.int .i64 0, .int .i64 0]]) (by simp [results, Try.results48, go_sem, e0, e1]) rfl
              ⟨0, 0, _, _, _, rfl, Or.inr ⟨Hsp.out, Hsp2.out⟩, h10.hb, Or.inr ⟨rfl, rfl, N, s, t, sum, X, lev', rfl, rfl, rfl, rfl, ⟨hm, hlev', Hlev.out.shut hlev' ht Hlt.out⟩, by rw [flowsL_length] at hfl ⊢; exact hfl, hsd⟩⟩
    · have q2 : (c != 0) = true := by simp [hc]
      have Hc := Lib.hid hc
      clear hc
      go_wp2
      go_region
      all_goals
        have h9 := (H5.out.put c a).drew
        have e0 : (w5.setCell ⟨w.heap.size + 1, 0, none⟩ (.int .i64 c)).cell? ⟨w.heap.size + 1, 0, none⟩ = some (.int .i64 c) := (H5.out.hf.set 0 (.int .i64 c)).cell (show 0 < 2 by omega)
        have e1 := (H5.out.put c a).f1
        go_wp2
        exact bodyPost_ret (v := .tuple #[.int .i64 0, .slice none 0 0, .slice none 0 0, .agg #[.int .i64 c, .int .i64 a]]) (by simp [results, Try.results48, go_sem, e0, e1]) rfl ⟨c, a, _, _, _, rfl, Or.inr ⟨Hsp.out, Hsp2.out⟩, h9.hb, Or.inl ⟨Hc.out, rfl, rfl, rfl⟩⟩
  · have q : (c == 0) = false := by simp [hc]
    have q2 : (c != 0) = true := by simp [hc]
    have Hc := Lib.hid hc
    clear hc
    go_wp2
    go_region
    all_goals
      have h9 := (HN2.out.put c a).drew
      have e0 : (w3.setCell ⟨w.heap.size + 1, 0, none⟩ (.int .i64 c)).cell? ⟨w.heap.size + 1, 0, none⟩ = some (.int .i64 c) := (HN2.out.hf.set 0 (.int .i64 c)).cell (show 0 < 2 by omega)
      have e1 := (HN2.out.put c a).f1
      go_wp2
      exact bodyPost_ret (v := .tuple #[.int .i64 0, .slice none 0 0, .slice none 0 0, .agg #[.int .i64 c, .int .i64 a]]) (by simp [results, Try.results48, go_sem, e0, e1]) rfl ⟨c, a, _, _, _, rfl, Or.inl ⟨Hsp.out, Hc.out⟩, h9.hb, Or.inl ⟨Hc.out, rfl, rfl, rfl⟩⟩

end Go.Proofs.Ytbnbhjeknocboaa
