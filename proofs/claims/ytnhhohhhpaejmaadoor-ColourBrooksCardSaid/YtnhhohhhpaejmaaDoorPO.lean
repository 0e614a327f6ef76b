/- arborref.Ints: are two lists the same? arborlaw.five. colour.Poly: the walk. arborlaw.colourBegun answers true. -/
import Derived.Test.YtnhhohhhpaejmaaDoorBase0
import Derived.Test.YtnhhohhhpaejmaaDoorPR
import Derived.Test.YtnhhohhhpaejmaaDoorSmallC
import Derived.Test.YtnhhohhhpaejmaaDoorPL
namespace Go.Proofs.YtnhhohhhpaejmaaDoor
open Go.RowKit

/-- Are two lists the same, in the form of a test. -/
theorem ints_any (l m : List Int) (s t : Value) (w : World) (h : IsInts w s l) (h' : IsInts w t m) :
    Calls Tryd.prog 23 #[s, t] w fun e w' => e = .returned (.bool (decide (l = m))) ∧ Drew w w' := by
  obtain ⟨a, cap, b, o, rfl, hcap, hmax, hadr, -, hcell⟩ := h
  obtain ⟨a', cap', b', o', rfl, hcap', hmax', hadr', -, hcell'⟩ := h'
  by_cases hlen : l.length = m.length
  · have hl : ((l.length : Int) != (m.length : Int)) = false := by rw [hlen]; simp
    have hl2 : ((l.length : Int) == (m.length : Int)) = true := by rw [hlen]; simp
    have Hlen := Lib.hid hlen; clear hlen
    go_enter Tryd.func23, Tryd.ntmps23
    go_wp2
    clear hl hl2
    go_loopw [5] (fun i wr => Drew w wr ∧ ∃ k : Nat, k ≤ l.length ∧ i = .int .i64 k ∧ ∀ j, j < k → l.getD j 0 = m.getD j 0) (fun i _ => l.length - (intOf i).toNat)
    case atStart => exact ⟨⟨0, rfl⟩, 0, Nat.zero_le _, rfl, fun _ h => absurd h (Nat.not_lt_zero _)⟩
    case round =>
      obtain ⟨⟨n, rfl⟩, k, hk, rfl, hne⟩ := hrel
      have Hne := Lib.hid hne; clear hne
      by_cases hlt : k < l.length
      · obtain rfl := hadr (by omega)
        have hlt' : k < m.length := by have := Hlen.out; omega
        obtain rfl := hadr' (by omega)
        have hc := hcell k hlt
        have hc' := hcell' k hlt'
        clear hcell hadr hcell' hadr'
        by_cases hv : l.getD k 0 = m.getD k 0
        · have hb : (l[k] != m[k]) = false := by simpa [List.getD, hlt, hlt'] using hv
          have hb' : (l[k] == m[k]) = true := by simpa [List.getD, hlt, hlt'] using hv
          have Hv := Lib.hid hv; clear hv
          go_wp2
          go_quiet (fail)
          go_wp2
          go_roundw
          case rel => exact ⟨⟨_, rfl⟩, k + 1, by omega, by go_num, fun j hj => by
            by_cases e : j = k
            · rw [e]; exact Hv.out
            · exact Hne.out j (by omega)⟩
          case measure => simp [intOf]; omega
        · have hb : (l[k] != m[k]) = true := by simpa [List.getD, hlt, hlt'] using hv
          have hb' : (l[k] == m[k]) = false := by simpa [List.getD, hlt, hlt'] using hv
          have Hv := Lib.hid hv; clear hv
          go_wp2
          go_quiet (fail)
          go_wp2
          go_ret
          exact ⟨ret_bool (decide_eq_false (fun e => Hv.out (by rw [e]))).symm, ((Drew.refl w).add _).add _⟩
      · clear hcell hadr hcell' hadr'
        go_wp2
        go_ret
        obtain rfl : k = l.length := by omega
        refine ⟨ret_bool (decide_eq_true ?_).symm, ⟨_, rfl⟩⟩
        refine List.ext_getElem Hlen.out fun j h1 h2 => ?_
        have := Hne.out j h1
        simpa [List.getD, h1, h2] using this
  · have hl : ((l.length : Int) != (m.length : Int)) = true := by simp; omega
    have hl2 : ((l.length : Int) == (m.length : Int)) = false := by simp; omega
    go_enter Tryd.func23, Tryd.ntmps23
    go_wp2
    go_ret
    exact ⟨ret_bool (decide_eq_false (fun e => hlen (by rw [e]))).symm, ⟨0, rfl⟩⟩

theorem ints_is {c : Bool} (l m : List Int) (s t : Value) (w : World) (h : IsInts w s l) (h' : IsInts w t m) (e : decide (l = m) = c) :
    Calls Tryd.prog 23 #[s, t] w fun e w' => e = .returned (.bool c) ∧ Drew w w' := by
  subst e; exact ints_any l m s t w h h'

end Go.Proofs.YtnhhohhhpaejmaaDoor
namespace Go.Proofs.YtnhhohhhpaejmaaDoor
open Go Go.RowKit

set_option maxHeartbeats 800000 in
set_option maxRecDepth 100000 in
theorem five_any (w : World) : Calls Tryd.prog 22 #[] w fun e w' => ∃ v, e = .returned (.agg #[.int .i64 5, v]) ∧ IsEdges w' v fiveL ∧ Below w.heap.size w w' := by
  go_enter Tryd.func22, Tryd.ntmps22
  go_wp2
  have c0 := two_cells w (.int .i64 5) (.slice (some ⟨w.heap.size + 1, 0, none⟩) 5 5) 24
  have hs := World.size_alloc w (Obj.cells #[.int .i64 5, .slice (some ⟨w.heap.size + 1, 0, none⟩) 5 5] 24)
  have hb := below1 w (Obj.cells #[.int .i64 5, .slice (some ⟨w.heap.size + 1, 0, none⟩) 5 5] 24)
  generalize w.alloc (Obj.cells #[.int .i64 5, .slice (some ⟨w.heap.size + 1, 0, none⟩) 5 5] 24) = w1 at *
  have hb2 := below1 w1 (Obj.cells #[.int .i64 0, .int .i64 1, .int .i64 1, .int .i64 2, .int .i64 2, .int .i64 3, .int .i64 3, .int .i64 4, .int .i64 0, .int .i64 4] 39)
  have e0 := below_cell hb2 c0.1
  have e1 := below_cell hb2 c0.2
  have hE : IsEdges (w1.alloc (Obj.cells #[.int .i64 0, .int .i64 1, .int .i64 1, .int .i64 2, .int .i64 2, .int .i64 3, .int .i64 3, .int .i64 4, .int .i64 0, .int .i64 4] 39)) (.slice (some ⟨w.heap.size + 1, 0, none⟩) 5 5) fiveL := by
    rw [← hs]
    refine ⟨_, 5, w1.heap.size, 0, rfl, Nat.le_refl _, by omega, fun _ => rfl, by simp, fun j hj => ?_⟩
    have hj5 : j < 5 := hj
    match j, hj5 with
    | 0, _ => exact ⟨by rw [World.cell?_alloc_at _ _ _ _ rfl]; rfl, by rw [World.cell?_alloc_at _ _ _ _ rfl]; rfl⟩
    | 1, _ => exact ⟨by rw [World.cell?_alloc_at _ _ _ _ rfl]; rfl, by rw [World.cell?_alloc_at _ _ _ _ rfl]; rfl⟩
    | 2, _ => exact ⟨by rw [World.cell?_alloc_at _ _ _ _ rfl]; rfl, by rw [World.cell?_alloc_at _ _ _ _ rfl]; rfl⟩
    | 3, _ => exact ⟨by rw [World.cell?_alloc_at _ _ _ _ rfl]; rfl, by rw [World.cell?_alloc_at _ _ _ _ rfl]; rfl⟩
    | 4, _ => exact ⟨by rw [World.cell?_alloc_at _ _ _ _ rfl]; rfl, by rw [World.cell?_alloc_at _ _ _ _ rfl]; rfl⟩
  exact bodyPost_ret (v := .agg #[.int .i64 5, .slice (some ⟨w.heap.size + 1, 0, none⟩) 5 5]) (by simp [results, Tryd.results22, go_sem, e0, e1]) rfl ⟨_, rfl, hE, hb.trans (hb2.mono hb.size)⟩

end Go.Proofs.YtnhhohhhpaejmaaDoor
namespace Go.Proofs.YtnhhohhhpaejmaaDoor
open Go Go.RowKit

theorem ri_made (W : World) (M : Nat) : (W.alloc (.cells (madeCells #[.int .i64 0] M) 3)).rowIs W.heap.size 3 M (ri fun _ => 0) := (World.rowIs_made W (.int .i64 0) M 3).congr fun i _ => rfl
/-- colour.Poly comes back. -/
def PolPost (n : Int) (l : List (Int × Int)) (w : World) (e : Ending) (w' : World) : Prop :=
  ∃ c a v, e = .returned (.tuple #[v, .agg #[.int .i64 c, .int .i64 a]]) ∧ SmallSpec n l 12 c a ∧ Below w.heap.size w w' ∧
    ((c ≠ 0 ∧ v = .slice none 0 0) ∨ (c = 0 ∧ a = 0 ∧ ∃ N : Nat, n = N ∧ IsInts w' v ((List.range (N + 1)).map fun i => wI (polO (freeB l N) (pow2 N) (N + 1) i))))

set_option maxHeartbeats 6400000 in
set_option maxRecDepth 100000 in
theorem poly_any (n : Int) (l : List (Int × Int)) (sv : Value) (w : World) (h : IsEdges w sv l) (hT : TabAt 1 Lib.deBruijn64tab w) :
    Calls Tryd.prog 21 #[.agg #[.int .i64 n, sv]] w (PolPost n l w) := by
  obtain ⟨ad, cap, rfl⟩ : ∃ ad cap, sv = .slice ad l.length cap := by
    obtain ⟨a, c, _, _, rfl, _⟩ := h
    exact ⟨a, c, rfl⟩
  have hg := GRes.start w n (.slice ad l.length cap)
  have He := Lib.hid h; have Hg := Lib.hid hg; have HT := Lib.hid hT
  have cn := hg.cn
  have cs := hg.cs
  clear h hg hT
  go_enter Tryd.func21, Tryd.ntmps21
  go_upto_region 1 with fail
  generalize (w.alloc (Obj.cells #[.int .i64 n, .slice ad l.length cap] 24)).alloc (Obj.cells #[Value.int IntKind.i64 0, Value.int IntKind.i64 0] 27) = w1 at *
  go_upto_region 2 with (go_at_call 43; refine (small_c n l _ w1 (He.out.below Hg.out.hb)).mono ?_; rintro e w2 ⟨c, a, hsp, rfl, hb2⟩; have Hsp := Lib.hid hsp; have H3 := Lib.hid (Hg.out.below (upc hb2 (below1 w2 (Obj.cells #[.int .i64 c, .int .i64 a] 27)))); have F3 := Lib.hid (FV.new w2 c a); clear hsp hb2)
  generalize w2.alloc (Obj.cells #[.int .i64 c, .int .i64 a] 27) = w3 at *
  generalize w2.heap.size = F at *
  clear cn cs Hg
  have cn := H3.out.cn
  have cs := H3.out.cs
  have hAB := H3.out.hA
  obtain ⟨f0, f1, -, -, -⟩ := F3.out.facts
  by_cases hc : c = 0
  · subst hc
    obtain ⟨rfl, hn0, hn1, hl, hok⟩ := small_good Hsp.out
    obtain ⟨N, rfl⟩ := Int.eq_ofNat_of_zero_le hn0
    have hN : N ≤ 12 := by omega
    have Hok := Lib.hid hok
    clear hok hn0 hn1
    go_upto_region 4 with fail
    clear f0 f1 F3
    go_upto_region 5 with (go_at_call 44; refine (loose_any l N _ w3 (He.out.below H3.out.hb) hN Hok.out (TabAt.below (g := 1) HT.out H3.out.hb)).mono ?_; rintro e w4 ⟨bf, rfl, hbf, hrf, hb4⟩; have Hrf := Lib.hid hrf; have H4 := Lib.hid (H3.out.below hb4); clear hrf hb4 hbf)
    clear cn cs
    have hP : pow2 N ≤ 4096 := by unfold pow2; exact Nat.pow_le_pow_right (by decide) hN
    have hP0 : 0 < pow2 N := Nat.two_pow_pos N
    have HPe := Lib.hid (show pow2 N = 2 ^ N from rfl)
    obtain ⟨M, hM⟩ : ∃ M, M = pow2 N := ⟨_, rfl⟩
    rw [← hM] at hP hP0 HPe Hrf ⊢
    have HM := Lib.hid hM
    clear hM
    have hmk := run_make_row' (P := Tryd.prog) 29 3 (.int .i64 0) 8 Tryd.underlying29 info3 rfl .i64 .i64 M (by omega) (by omega)
    have hwM : IntKind.i64.wrap ((M : Int) - 1) = ((M - 1 : Nat) : Int) := by rw [show (M : Int) - 1 = ((M - 1 : Nat) : Int) by omega]; exact wrap_nat (by omega)
    go_upto_region 7 with fail
    have HW := Lib.hid (ri_made w4 M)
    have Hb5 := Lib.hid (below1 w4 (.cells (madeCells #[Value.int .i64 0] M) 3))
    have hbf4 := Hrf.out.lt
    generalize w4.alloc (.cells (madeCells #[.int .i64 0] M) 3) = w5 at *
    have t0 := HW.out.cell hP0
    have f0 := HW.out.frozen 0
    have m0 := HW.out.lt
    have hW1 := row_ri (row_set_ri HW.out 0 1) (g' := fun x => wI (polW (freeB l N) M 0 x)) (fun x _ => by
      by_cases e : x = 0
      · subst e; rfl
      · simp only [polW, if_neg e]; rfl)
    have HW1 := Lib.hid hW1
    have Hb6 := Lib.hid (Hb5.out.setCell (p := ⟨w4.heap.size, 0, none⟩) (Nat.le_refl _) (.int .i64 1))
    clear hW1 hmk hwM
    go_upto_region 8 with fail
    clear t0 f0 m0
    generalize w5.setCell ⟨w4.heap.size, 0, none⟩ (.int .i64 1) = w6 at *
    have cn := (H4.out.below Hb6.out).cn
    have lcn := World.block_lt_of_cell? _ _ cn
    simp only at lcn
    obtain ⟨N1, hN1⟩ : ∃ N1, N1 = N + 1 := ⟨_, rfl⟩
    have hwN : IntKind.i64.wrap ((N : Int) + 1) = (N1 : Int) := by rw [hN1]; exact wrap_nat (n := N + 1) (by omega)
    have HN1 := Lib.hid hN1
    have hNa : N1 ≤ N + 1 := by omega
    have hNb : N + 1 ≤ N1 := by omega
    clear hN1
    have hmk2 := run_make_row' (P := Tryd.prog) 29 3 (.int .i64 0) 8 Tryd.underlying29 info3 rfl .i64 .i64 N1 (by omega) (by omega)
    go_upto_region 9 with fail
    have HO := Lib.hid (row_ri (ri_made w6 N1) (g' := fun i => wI (polO (freeB l N) M 0 i)) (fun i _ => rfl))
    have Hb7 := Lib.hid (Hb6.out.alloc Hb6.out.size (.cells (madeCells #[Value.int .i64 0] N1) 3))
    have hw64 : w4.heap.size < w6.heap.size := Nat.lt_of_lt_of_le HW1.out.lt (Nat.le_refl _)
    have HW2 := Lib.hid (HW1.out.of_block ((below1 w6 (.cells (madeCells #[Value.int .i64 0] N1) 3)).block _ HW1.out.lt))
    clear hmk2 hwN cn lcn
    generalize w6.alloc (.cells (madeCells #[.int .i64 0] N1) 3) = w7 at *
    go_upto_region 10 with fail
    have HF := Lib.hid (World.rowIs_alloc w7 #[.int .i64 1] 3 (ri fun i => wI (polF 0 i)) (fun i hi => by
      match i, hi with
      | 0, _ => rfl))
    have HO3 := Lib.hid (HO.out.of_block ((below1 w7 (Obj.cells #[Value.int .i64 1] 3)).block _ HO.out.lt))
    have HW3 := Lib.hid (HW2.out.of_block ((below1 w7 (Obj.cells #[Value.int .i64 1] 3)).block _ HW2.out.lt))
    have Hb8 := Lib.hid (Hb7.out.alloc Hb7.out.size (Obj.cells #[Value.int .i64 1] 3))
    have hw76 : w6.heap.size < w7.heap.size := HO.out.lt
    generalize w7.alloc (Obj.cells #[.int .i64 1] 3) = w8 at *
    generalize hbo : w6.heap.size = bo at *
    generalize hfree : freeB l N = free at *
    have Hfree := Lib.hid hfree
    clear hfree
    go_wp2
    go_loopg [7, 9, 10] N (fun g s7 s9 s10 wr => ∃ k bw bl : Nat, k ≤ N ∧ g = N - k ∧ s10 = .int .i64 (k : Int) ∧ s7 = .slice (some ⟨bw, 0, none⟩) M M ∧ s9 = .slice (some ⟨bl, 0, none⟩) (k + 1) (k + 1) ∧
      wr.rowIs bw 3 M (ri fun x => wI (polW free M k x)) ∧ wr.rowIs bl 3 (k + 1) (ri fun i => wI (polF k i)) ∧ wr.rowIs bo 3 N1 (ri fun i => wI (polO free M k i)) ∧
      bw ≠ bl ∧ bw ≠ bo ∧ bl ≠ bo ∧ w4.heap.size ≤ bw ∧ w4.heap.size ≤ bl ∧ w4.heap.size ≤ bo ∧ Below w4.heap.size w4 wr)
    case atStart => exact ⟨0, w4.heap.size, w7.heap.size, Nat.zero_le _, rfl, rfl, rfl, rfl, HW3.out, HF.out, HO3.out, by omega, by omega, by omega, Nat.le_refl _, by omega, by omega, Hb8.out⟩
    case round =>
      obtain ⟨k, bw, bl, hk, rfl, rfl, rfl, rfl, hrw, hrl, hro, n1, n2, n3, l1, l2, l3, hb⟩ := hrel
      have Hrw := Lib.hid hrw; have Hrl := Lib.hid hrl; have Hro := Lib.hid hro; have Hb := Lib.hid hb
      obtain ⟨w9, rfl⟩ : ∃ w9 : World, w9 = wr := ⟨_, rfl⟩
      clear hrw hrl hro hb
      go_wp2
      go_loopg [46] (k + 1) (fun g s46 wx => ∃ i : Nat, i ≤ k + 1 ∧ g = k + 1 - i ∧ s46 = .int .i64 (i : Int) ∧ wx.rowIs bo 3 N1 (ri fun q => wI (polO free M k q + if q < i then polW free M k (M - 1) * polF k q else 0)) ∧ Chg (fun q => q = bo) w9 wx)
      case atStart => exact ⟨0, Nat.zero_le _, rfl, rfl, row_ri Hro.out (fun q _ => by simp), Chg.refl _ _⟩
      case round =>
        obtain ⟨i, hi, rfl, rfl, hro, hch⟩ := hrel
        have Hro2 := Lib.hid hro; have Hch := Lib.hid hch
        by_cases hik : i < k + 1
        · have tf := (Chg.rowIs hch Hrl.out (show ¬ bl = bo from n3)).cell hik
          clear hro hch
          simp only [ri] at tf
          have Hsum := Lib.hid (wI_add (polO free M k i) (polW free M k (M - 1) * polF k i))
          have Hmul := Lib.hid (wI_mul (polW free M k (M - 1)) (polF k i))
          generalize hvc : wI (polF k i) = vc at *
          have hiN : i < N1 := by omega
          have hMM : M - 1 < M := by omega
          go_upto_region 15 with fail
          refine region_tail 12 (by kernel_rfl) (by kernel_rfl) ?_
          have HchD := Lib.hid (Hch.out.drew)
          have HroD := Lib.hid (Hro2.out.of_block ((Below.refl wr.heap.size wr).drew.block _ Hro2.out.lt))
          clear tf
          generalize wr.drew = w10 at *
          have tO := HroD.out.cell (show i < N1 by omega)
          have fO := HroD.out.frozen i
          have mO := HroD.out.lt
          have tW := (Chg.rowIs HchD.out Hrw.out (show ¬ bw = bo from n2)).cell (show M - 1 < M by omega)
          simp only [ri, if_neg (Nat.lt_irrefl i), Int.add_zero] at tO
          simp only [ri] at tW
          generalize hvO : wI (polO free M k i) = vO at *
          generalize hvW : wI (polW free M k (M - 1)) = vW at *
          have Hvc := Lib.hid hvc; have HvO := Lib.hid hvO; have HvW := Lib.hid hvW
          clear hvc hvO hvW
          simp only [List.take_succ_cons, List.take_zero, List.drop_succ_cons, List.drop_zero]
          repeat still_step
          refine wpStill_nil ?_
          go_wp2
          go_roundg (k + 1 - (i + 1))
          case measure => go_light; omega
          case rel => exact ⟨i + 1, by omega, rfl, by go_num, row_ri (row_set_ri HroD.out i _) (fun q _ => by
            by_cases e : q = i
            · subst e
              rw [if_pos rfl, if_pos (show q < q + 1 by omega)]
              have h1 := Hsum.out
              have h2 := Hmul.out
              rw [← h1, ← h2, wI_64, wI_64]
            · rw [if_neg e]
              have : (q < i + 1) ↔ q < i := by omega
              simp only [this]), HchD.out.setCell (fun _ => rfl) _⟩
        · obtain rfl : i = k + 1 := by omega
          have hro2 : wr.rowIs bo 3 N1 (ri fun q => wI (polO free M (k + 1) q)) := row_ri hro (fun q _ => by
            have : (q < k + 1) ↔ q ≤ k := by omega
            simp only [polO, this])
          have HroE := Lib.hid hro2
          have hbx := Hb.out.trans (hch.toBelow (B := w4.heap.size) Hb.out.size (fun q hq hs => by omega))
          have Hbx := Lib.hid hbx
          have Hrwx := Lib.hid (Chg.rowIs hch Hrw.out (show ¬ bw = bo from n2))
          have Hrlx := Lib.hid (Chg.rowIs hch Hrl.out (show ¬ bl = bo from n3))
          have cn := (H4.out.below hbx).cn
          have H9 := Lib.hid (H4.out.below hbx)
          have b0 := H9.out.hz.cell (show 0 < 2 by omega)
          have b1 := H9.out.hz.cell (show 1 < 2 by omega)
          have d0 := H9.out.hz.frozen 0
          have d1 := H9.out.hz.frozen 1
          have hBl := H9.out.hz.lt
          have h14 : w.heap.size + 1 < w4.heap.size := H4.out.hz.lt
          obtain ⟨w11, rfl⟩ : ∃ w11 : World, w11 = wr := ⟨_, rfl⟩
          clear hro hch hro2 hbx Hrw Hrl Hro Hb
          by_cases hkN : k = N
          · have q1 : ((k : Int) == (N : Int)) = true := by simp [hkN]
            have HkN := Lib.hid hkN
            clear hkN
            go_wp2
            obtain ⟨e0, e1, e2⟩ := H9.out.put (.int .i64 0) (.int .i64 0)
            have hi := IsInts.ofRow (f := fun i => wI (polO free M (k + 1) i)) ((HroE.out.setOther (a := ⟨w.heap.size + 1, 0, none⟩) (show bo ≠ w.heap.size + 1 by omega) (.int .i64 0)).setOther (a := ⟨w.heap.size + 1, 1, none⟩) (show bo ≠ w.heap.size + 1 by omega) (.int .i64 0)) (show N1 ≤ 9223372036854775807 by omega)
            have Hi := Lib.hid hi
            clear hi
            exact bodyPost_ret (v := .tuple #[.slice (some ⟨bo, 0, none⟩) N1 N1, .agg #[.int .i64 0, .int .i64 0]]) (by simp [results, Tryd.results21, go_sem, e0, e1]) rfl ⟨0, 0, _, rfl, Hsp.out, e2, Or.inr ⟨rfl, rfl, N, rfl, by
              have h1 := Hi.out
              rw [HkN.out, HM.out, ← Hfree.out, ← HN1.out] at h1
              rw [← HN1.out]
              exact h1⟩⟩
          · have q1 : ((k : Int) == (N : Int)) = false := by simp only [beq_eq_false_iff_ne, ne_eq]; omega
            have hkN2 : k < N := by omega
            have hmk3 := run_make_row' (P := Tryd.prog) 29 3 (.int .i64 0) 8 Tryd.underlying29 info3 rfl .i64 .i64 M (by omega) (by omega)
            clear hkN b0 b1 d0 d1
            go_upto_region 20 with fail
            have HN0 := Lib.hid (row_ri (ri_made w11 M) (g' := fun x => wI (sumI (fun s => polC free (M - 1) (polW free M k) s x) 0)) (fun x _ => rfl))
            have bx := below1 w11 (.cells (madeCells #[Value.int .i64 0] M) 3)
            have HroF := Lib.hid (HroE.out.of_block (bx.block _ HroE.out.lt))
            have HrwF := Lib.hid (Hrwx.out.of_block (bx.block _ Hrwx.out.lt))
            have HrlF := Lib.hid (Hrlx.out.of_block (bx.block _ Hrlx.out.lt))
            have HbF := Lib.hid (Hbx.out.alloc Hbx.out.size (.cells (madeCells #[Value.int .i64 0] M) 3))
            have m1 : bo ≠ w11.heap.size := fun e => by have := HroE.out.lt; omega
            have m2 : bw ≠ w11.heap.size := fun e => by have := Hrwx.out.lt; omega
            have m3 : bl ≠ w11.heap.size := fun e => by have := Hrlx.out.lt; omega
            have m4 : bf ≠ w11.heap.size := fun e => by have := Hbx.out.size; omega
            have hbnl : w4.heap.size ≤ w11.heap.size := Hbx.out.size
            clear bx hmk3 cn
            generalize w11.alloc (.cells (madeCells #[.int .i64 0] M) 3) = w12 at *
            generalize hbn : w11.heap.size = bn at *
            have HrfF := Lib.hid (Hrf.out.of_block (HbF.out.block _ hbf4))
            go_wp2
            go_loopg [75] M (fun g s75 wx => ∃ s : Nat, s ≤ M ∧ g = M - s ∧ s75 = .int .i64 (s : Int) ∧ wx.rowIs bn 3 M (ri fun x => wI (sumI (fun s => polC free (M - 1) (polW free M k) s x) s)) ∧ Chg (fun q => q = bn) w12 wx)
            case atStart => exact ⟨0, Nat.zero_le _, rfl, rfl, HN0.out, Chg.refl _ _⟩
            case round =>
              obtain ⟨s, hs, rfl, rfl, hrn, hch⟩ := hrel
              have Hrn := Lib.hid hrn; have Hch3 := Lib.hid hch
              by_cases hsM : s < M
              · have tw := (Chg.rowIs hch HrwF.out (show ¬ bw = bn from m2)).cell hsM
                simp only [ri] at tw
                have hfs : Few s := by show s < 4611686018427387904; omega
                have hfa : Few (M - 1) := by show M - 1 < 4611686018427387904; omega
                clear hrn hch
                by_cases hz : wI (polW free M k s) = 0
                · rw [hz] at tw
                  have Hnone := Lib.hid (fun x => polC_none (free := free) (all := M - 1) (base := fun x => sumI (fun s => polC free (M - 1) (polW free M k) s x) s) (x := x) (Or.inl hz))
                  clear hz
                  go_wp2
                  go_roundg (M - (s + 1))
                  case measure => go_light; omega
                  case rel => exact ⟨s + 1, by omega, rfl, by go_num, row_ri Hrn.out (fun x _ => by
                    show wI _ = wI (sumI _ s + _)
                    exact (Hnone.out x).symm), Hch3.out⟩
                · by_cases hsa : s = M - 1
                  · have q2 : ((s : Int) == ((M - 1 : Nat) : Int)) = true := by simp only [beq_iff_eq]; omega
                    have Hnone := Lib.hid (fun x => polC_none (free := free) (all := M - 1) (W := polW free M k) (base := fun x => sumI (fun s => polC free (M - 1) (polW free M k) s x) s) (x := x) (Or.inr hsa))
                    have q3 : (wI (polW free M k s) == 0) = false := by simp only [beq_eq_false_iff_ne, ne_eq]; exact hz
                    generalize wI (polW free M k s) = vw at *
                    clear hz hsa
                    go_wp2
                    go_roundg (M - (s + 1))
                    case measure => go_light; omega
                    case rel => exact ⟨s + 1, by omega, rfl, by go_num, row_ri Hrn.out (fun x _ => by
                      show wI _ = wI (sumI _ s + _)
                      exact (Hnone.out x).symm), Hch3.out⟩
                  · have q2 : ((s : Int) == ((M - 1 : Nat) : Int)) = false := by simp only [beq_eq_false_iff_ne, ne_eq]; omega
                    have q3 : (wI (polW free M k s) == 0) = false := by simp only [beq_eq_false_iff_ne, ne_eq]; exact hz
                    have hfull : ∀ i, i < N → (M - 1).testBit i = true := fun i hi => by rw [HPe.out, Nat.testBit_two_pow_sub_one]; exact decide_eq_true hi
                    have Hfull := Lib.hid hfull
                    have e1 := op_andNot hfa hfs
                    have hr0 : less (M - 1) s ≠ 0 := fun e => by
                      have : M - 1 ≤ s := Within.le fun i hi => by
                        have h2 := less_bit (M - 1) s i
                        rw [e, hi] at h2
                        simpa using h2
                      omega
                    have hrl : less (M - 1) s ≤ M - 1 := Within.le fun i hi => by rw [less_bit] at hi; simp at hi; exact hi.1
                    have hfr : Few (less (M - 1) s) := by show less (M - 1) s < 4611686018427387904; omega
                    have e2 := op_lowB hfr hr0
                    have hfl : Few (lowB (less (M - 1) s)) := less_few hfr
                    have Hall := Lib.hid (show ∀ x, x < M → Within x (M - 1) from fun x hx i hi => hfull i (bit_lt (by rw [← HPe.out]; exact hx) hi))
                    have Hwi := Lib.hid (fun (t x : Nat) (h : t ≠ 0) (h2 : Within t (less (M - 1) s)) (hx : x < M) => polT_next (free := free) (all := M - 1) (W := polW free M k) (base := fun x => sumI (fun s => polC free (M - 1) (polW free M k) s x) s) (s := s) (t := t) (x := x) (Hall.out x hx) h h2 hsa)
                    have Hst := Lib.hid (fun (x : Nat) (hx : x < M) => polT_start (free := free) (all := M - 1) (W := polW free M k) (base := fun x => sumI (fun s => polC free (M - 1) (polW free M k) s x) s) (s := s) (Hall.out x hx))
                    have Hlr := Lib.hid (show ∀ t, Within t (less (M - 1) s) → lor s t ≤ M - 1 from fun t ht => Within.le fun i hi => by
                      rw [lor_bit] at hi
                      have hsN2 : s < 2 ^ N := by rw [← HPe.out]; exact hsM
                      cases e7 : s.testBit i with
                      | true => exact hfull i (bit_lt hsN2 e7)
                      | false =>
                        rw [e7] at hi
                        have h8 := ht i (by simpa using hi)
                        rw [less_bit] at h8
                        simp at h8
                        exact h8.1)
                    clear hz hsa hfull
                    generalize less (M - 1) s = r at *
                    go_wp2
                    go_loopg [17] r (fun g s17 wx => ∃ t : Nat, t = g ∧ s17 = .int .i64 (t : Int) ∧ Within t r ∧ wx.rowIs bn 3 M (ri fun x => wI (polT free (M - 1) (polW free M k) (fun x => sumI (fun s => polC free (M - 1) (polW free M k) s x) s) s t x)) ∧ Chg (fun q => q = bn) w12 wx)
                    case atStart => exact ⟨r, rfl, rfl, Within.refl r, row_ri Hrn.out (fun x hx => by rw [Hst.out x hx]), Hch3.out⟩
                    case round =>
                      obtain ⟨t, rfl, rfl, htw, hrn, hch⟩ := hrel
                      have Hrn4 := Lib.hid hrn; have Hch4 := Lib.hid hch
                      by_cases ht0 : 0 < t
                      · have htr : t ≤ r := Within.le htw
                        have hft : Few t := by show t < 4611686018427387904; omega
                        have e3 := op_and hft hfl
                        have e4 : IntKind.i64.wrap ((t : Int) - 1) = ((t - 1 : Nat) : Int) := by rw [show (t : Int) - 1 = ((t - 1 : Nat) : Int) by omega]; exact wrap_nat (by omega)
                        have e5 := op_and (show Few (t - 1) by show t - 1 < 4611686018427387904; omega) hfr
                        have tf := (Chg.rowIs hch HrfF.out (show ¬ bf = bn from m4)).cell (show t < M by omega)
                        have e6 := op_or hfs hft
                        have hlor : lor s t < M := by
                          have h1 := Hlr.out t htw
                          omega
                        have Hstep := Lib.hid (fun x hx => Hwi.out t x (by omega) htw hx)
                        have Ht2w := Lib.hid (land_within (t - 1) r)
                        have ht2 : land (t - 1) r < t := by
                          have : land (t - 1) r ≤ t - 1 := Nat.and_le_left
                          omega
                        have htM : t < M := by omega
                        simp only [rb] at tf
                        clear hrn hch htw
                        generalize land t (lowB r) = m at *
                        generalize land (t - 1) r = t2 at *
                        by_cases hm0 : 0 < m
                        · generalize hft2 : free t = ff at *
                          cases ff with
                          | false =>
                            have Hno := Lib.hid (show ¬ (m ≠ 0 ∧ false = true) from fun h => by cases h.2)
                            clear hft2
                            go_wp2
                            go_roundg t2
                            case measure => go_light; omega
                            case rel => exact ⟨t2, rfl, rfl, Ht2w.out, row_ri Hrn4.out (fun x hx => by
                              rw [Hstep.out x hx, if_neg (fun h => Hno.out h.2), Int.add_zero]), Hch4.out⟩
                          | true =>
                            have Hyes := Lib.hid (show m ≠ 0 ∧ true = true from ⟨by omega, rfl⟩)
                            have tw : True := trivial
                            clear hft2
                            go_upto_region 30 with fail
                            refine region_tail 12 (by kernel_rfl) (by kernel_rfl) ?_
                            have HchD := Lib.hid (Hch4.out.drew)
                            have HrnD := Lib.hid (Hrn4.out.of_block ((Below.refl wr.heap.size wr).drew.block _ Hrn4.out.lt))
                            clear tf tw
                            generalize wr.drew = w20 at *
                            have tN := HrnD.out.cell hlor
                            have fN := HrnD.out.frozen (lor s t)
                            have mN := HrnD.out.lt
                            have tw := (Chg.rowIs HchD.out HrwF.out (show ¬ bw = bn from m2)).cell hsM
                            simp only [ri] at tN tw
                            have Hs1 := Lib.hid (Hstep.out (lor s t) hlor)
                            have Hs2 := Lib.hid (wI_add (polT free (M - 1) (polW free M k) (fun x => sumI (fun s => polC free (M - 1) (polW free M k) s x) s) s t (lor s t)) (polW free M k s))
                            generalize hvN : wI (polT free (M - 1) (polW free M k) (fun x => sumI (fun s => polC free (M - 1) (polW free M k) s x) s) s t (lor s t)) = vN at *
                            generalize hvw : wI (polW free M k s) = vw at *
                            generalize hlo : lor s t = x0 at *
                            have Hlo := Lib.hid hlo; have HvN := Lib.hid hvN; have Hvw := Lib.hid hvw
                            clear hlo hvN hvw
                            simp only [List.take_succ_cons, List.take_zero, List.drop_succ_cons, List.drop_zero]
                            repeat still_step
                            refine wpStill_nil ?_
                            go_wp2
                            go_roundg t2
                            case measure => go_light; omega
                            case rel => exact ⟨t2, rfl, rfl, Ht2w.out, row_ri (row_set_ri HrnD.out x0 _) (fun x hx => by
                              by_cases e : x = x0
                              · rw [e, if_pos rfl, Hs1.out, if_pos (by have h9 := Hyes.out; first | exact ⟨rfl, h9⟩ | exact ⟨trivial, h9⟩ | simpa using h9), ← Hs2.out, wI_64]
                              · rw [if_neg e, Hstep.out x hx, if_neg (fun h => e h.1), Int.add_zero]), HchD.out.setCell (fun _ => rfl) _⟩
                        · have Hno := Lib.hid (show ¬ (m ≠ 0 ∧ free t = true) from fun h => by omega)
                          have hm1 : m < 1 := by omega
                          clear hm0
                          go_wp2
                          go_roundg t2
                          case measure => go_light; omega
                          case rel => exact ⟨t2, rfl, rfl, Ht2w.out, row_ri Hrn4.out (fun x hx => by
                            rw [Hstep.out x hx, if_neg (fun h => Hno.out h.2), Int.add_zero]), Hch4.out⟩
                      · obtain rfl : t = 0 := by omega
                        clear hrn hch htw
                        go_wp2
                        go_roundg (M - (s + 1))
                        case measure => go_light; omega
                        case rel => exact ⟨s + 1, by omega, rfl, by go_num, row_ri Hrn4.out (fun x _ => by rw [polT_end]; rfl), Hch4.out⟩
              · obtain rfl : M = s := by omega
                have HrnE := Lib.hid (show wr.rowIs bn 3 M (ri fun x => wI (polW free M (k + 1) x)) from row_ri hrn (fun x _ => rfl))
                have hbz := HbF.out.trans (hch.toBelow (B := w4.heap.size) HbF.out.size (fun q hq hs => by omega))
                have Hbz := Lib.hid hbz
                have HroG := Lib.hid (Chg.rowIs hch HroF.out (show ¬ bo = bn from m1))
                have HrlG := Lib.hid (Chg.rowIs hch HrlF.out (show ¬ bl = bn from m3))
                obtain ⟨w13, rfl⟩ : ∃ w13 : World, w13 = wr := ⟨_, rfl⟩
                obtain ⟨K2, hK2⟩ : ∃ K2, K2 = k + 1 + 1 := ⟨_, rfl⟩
                have HK2 := Lib.hid hK2
                have hKa : K2 ≤ k + 1 + 1 := by omega
                have hKb : k + 1 + 1 ≤ K2 := by omega
                have hwK : IntKind.i64.wrap ((k : Int) + 1 + 1) = (K2 : Int) := by rw [hK2]; exact wrap_nat (n := k + 1 + 1) (by omega)
                have hmk4 := run_make_row' (P := Tryd.prog) 29 3 (.int .i64 0) 8 Tryd.underlying29 info3 rfl .i64 .i64 K2 (by omega) (by omega)
                clear hrn hch hbz hK2
                go_upto_region 34 with fail
                have HM0 := Lib.hid (row_ri (ri_made w13 K2) (g' := fun q => wI (polG k 0 q)) (fun q _ => by rw [polG_zero]; rfl))
                have bx := below1 w13 (.cells (madeCells #[Value.int .i64 0] K2) 3)
                have HrnH := Lib.hid (HrnE.out.of_block (bx.block _ HrnE.out.lt))
                have HroH := Lib.hid (HroG.out.of_block (bx.block _ HroG.out.lt))
                have HrlH := Lib.hid (HrlG.out.of_block (bx.block _ HrlG.out.lt))
                have HbH := Lib.hid (Hbz.out.alloc Hbz.out.size (.cells (madeCells #[Value.int .i64 0] K2) 3))
                have p1 : bn ≠ w13.heap.size := fun e => by have := HrnE.out.lt; omega
                have p2 : bo ≠ w13.heap.size := fun e => by have := HroG.out.lt; omega
                have p3 : bl ≠ w13.heap.size := fun e => by have := HrlG.out.lt; omega
                have p4 : w4.heap.size ≤ w13.heap.size := Hbz.out.size
                clear bx hmk4 hwK
                generalize w13.alloc (.cells (madeCells #[.int .i64 0] K2) 3) = w14 at *
                generalize hbm : w13.heap.size = bm at *
                go_wp2
                go_loopg [132] (k + 1) (fun g s132 wx => ∃ i : Nat, i ≤ k + 1 ∧ g = k + 1 - i ∧ s132 = .int .i64 (i : Int) ∧ wx.rowIs bm 3 K2 (ri fun q => wI (polG k i q)) ∧ Chg (fun q => q = bm) w14 wx)
                case atStart => exact ⟨0, Nat.zero_le _, rfl, rfl, HM0.out, Chg.refl _ _⟩
                case round =>
                  obtain ⟨i, hi, rfl, rfl, hrm, hch⟩ := hrel
                  have Hrm := Lib.hid hrm; have Hch5 := Lib.hid hch
                  by_cases hik : i < k + 1
                  · have tc := (Chg.rowIs hch HrlH.out (show ¬ bl = bm from p3)).cell hik
                    have t0 := hrm.cell (show i < K2 by omega)
                    have t1 := hrm.cell (show i + 1 < K2 by omega)
                    have f0 := hrm.frozen i
                    have f1 := hrm.frozen (i + 1)
                    have mm := hrm.lt
                    have hiK : i < K2 := by omega
                    have hiK1 : i + 1 < K2 := by omega
                    simp only [ri] at tc t0 t1
                    have S0 := Lib.hid (wI_subm (polG k i i) k (polF k i))
                    have S1 := Lib.hid (wI_add (polG k i (i + 1)) (polF k i))
                    generalize hv0 : wI (polG k i i) = v0 at *
                    generalize hv1 : wI (polG k i (i + 1)) = v1 at *
                    generalize hvc : wI (polF k i) = vc at *
                    have Hv0 := Lib.hid hv0; have Hv1 := Lib.hid hv1; have Hvc := Lib.hid hvc
                    clear hrm hch hv0 hv1 hvc
                    go_wp2
                    go_roundg (k + 1 - (i + 1))
                    case measure => go_light; omega
                    case rel => exact ⟨i + 1, by omega, rfl, by go_num, row_ri (row_set_ri (row_set_ri Hrm.out i _) (i + 1) _) (fun q _ => by
                      rw [polG_next]
                      by_cases e1 : q = i + 1
                      · rw [if_pos e1, if_neg (show ¬ q = i by omega), if_pos e1, e1, Int.add_zero, ← S1.out, wI_64]
                      · rw [if_neg e1, if_neg e1, Int.add_zero]
                        by_cases e2 : q = i
                        · rw [if_pos e2, if_pos e2, e2]
                          have h1 := S0.out
                          rw [← show wI (polG k i i - (k : Int) * polF k i) = wI (polG k i i + -((k : Int) * polF k i)) from by rw [Int.sub_eq_add_neg], ← h1, wI_64, wI_64]
                        · rw [if_neg e2, if_neg e2, Int.add_zero]), (Hch5.out.setCell (p := ⟨bm, i, none⟩) (fun _ => rfl) _).setCell (p := ⟨bm, i + 1, none⟩) (fun _ => rfl) _⟩
                  · obtain rfl : i = k + 1 := by omega
                    have hrm2 : wr.rowIs bm 3 (k + 1 + 1) (ri fun q => wI (polF (k + 1) q)) := by
                      rw [← HK2.out]
                      exact row_ri hrm (fun q hq => by rw [polG_end (by omega)])
                    have HrmE := Lib.hid hrm2
                    have HrnZ := Lib.hid (Chg.rowIs hch HrnH.out (show ¬ bn = bm from p1))
                    have HroZ := Lib.hid (Chg.rowIs hch HroH.out (show ¬ bo = bm from p2))
                    have HbZ := Lib.hid (HbH.out.trans (hch.toBelow (B := w4.heap.size) HbH.out.size (fun q hq hs => by omega)))
                    clear hrm hch hrm2
                    go_wp2
                    go_roundg (N - (k + 1))
                    case measure => go_light; omega
                    case rel => exact ⟨k + 1, bn, bm, by omega, rfl, by go_num, rfl, by rw [HK2.out], HrnZ.out, HrmE.out, HroZ.out, p1, fun e => m1 e.symm, fun e => p2 e.symm, hbnl, p4, l3, HbZ.out⟩
  · have q : (c != 0) = true := by simp [hc]
    have Hc := Lib.hid hc
    clear hc
    have b0 := H3.out.hz.cell (show 0 < 2 by omega)
    have b1 := H3.out.hz.cell (show 1 < 2 by omega)
    have d0 := H3.out.hz.frozen 0
    have d1 := H3.out.hz.frozen 1
    have hBl := H3.out.hz.lt
    go_wp2
    go_region
    all_goals
      obtain ⟨e0, e1, e2⟩ := H3.out.put (.int .i64 c) (.int .i64 a)
      go_wp2
      exact bodyPost_ret (v := .tuple #[.slice none 0 0, .agg #[.int .i64 c, .int .i64 a]]) (by simp [results, Tryd.results21, go_sem, e0, e1]) rfl ⟨c, a, _, rfl, Hsp.out, e2.drew, Or.inl ⟨Hc.out, rfl⟩⟩

end Go.Proofs.YtnhhohhhpaejmaaDoor
namespace Go.Proofs.YtnhhohhhpaejmaaDoor
open Go Go.RowKit

theorem five_spec : SmallSpec 5 fiveL 12 0 0 := Or.inr ⟨Or.inr ⟨by unfold TooBig; simp [fiveL], Or.inr ⟨fun j hj => by
  have hj5 : j < 5 := hj
  match j, hj5 with
  | 0, _ => exact ⟨by unfold EndsOk; simp [List.getD, fiveL], by simp [List.getD, fiveL], by decide⟩
  | 1, _ => exact ⟨by unfold EndsOk; simp [List.getD, fiveL], by simp [List.getD, fiveL], by decide⟩
  | 2, _ => exact ⟨by unfold EndsOk; simp [List.getD, fiveL], by simp [List.getD, fiveL], by decide⟩
  | 3, _ => exact ⟨by unfold EndsOk; simp [List.getD, fiveL], by simp [List.getD, fiveL], by decide⟩
  | 4, _ => exact ⟨by unfold EndsOk; simp [List.getD, fiveL], by simp [List.getD, fiveL], by decide⟩, rfl, rfl⟩⟩, Or.inr ⟨by omega, rfl, rfl⟩⟩

set_option maxHeartbeats 1600000 in
set_option maxRecDepth 100000 in
theorem colourBegun_any (w : World) (hT : TabAt 1 Lib.deBruijn64tab w) : Calls Tryd.prog 8 #[] w fun e w' => e = .returned (.bool true) ∧ Below w.heap.size w w' := by
  have HT := Lib.hid hT
  clear hT
  go_enter Tryd.func8, Tryd.ntmps8
  go_wp2_with fail
  refine (five_any _).mono ?_
  rintro e w1 ⟨v, rfl, hE, hb1⟩
  have HE := Lib.hid hE; have Hb1 := Lib.hid hb1
  clear hE hb1
  go_wp2_with fail
  refine (poly_any 5 fiveL v w1 HE.out (TabAt.below (g := 1) HT.out Hb1.out)).mono ?_
  rintro e w2 ⟨c, a, v2, rfl, hsp, hb2, hres⟩
  obtain ⟨h1, h2⟩ := SmallSpec.uniq hsp five_spec
  subst h1
  subst h2
  have hi : IsInts w2 v2 [0, 4, -10, 10, -5, 1] := by
    rcases hres with ⟨h, _⟩ | ⟨_, _, N, hN, hi⟩
    · exact absurd rfl h
    · obtain rfl : N = 5 := by omega
      have e := five_poly
      rw [← show pow2 5 = 32 from rfl] at e
      rw [← e]
      exact hi
  have hb3 := below1 w2 (Obj.cells #[.int .i64 0, .int .i64 0] 27)
  have e3 := two_cells w2 (.int .i64 0) (.int .i64 0) 27
  have f0 := e3.1
  have Hi := Lib.hid (hi.below hb3)
  have Hb3 := Lib.hid (upc Hb1.out (upc hb2 hb3))
  clear hsp hres hi hb2 hb3 e3
  go_upto_region 2 with fail
  generalize w2.alloc (Obj.cells #[.int .i64 0, .int .i64 0] 27) = w3 at *
  go_wp2_with fail
  have hb4 := below1 w3 (Obj.cells #[.int .i64 0, .int .i64 4, .int .i64 (-10), .int .i64 10, .int .i64 (-5), .int .i64 1] 3)
  have hl : IsInts (w3.alloc (Obj.cells #[.int .i64 0, .int .i64 4, .int .i64 (-10), .int .i64 10, .int .i64 (-5), .int .i64 1] 3)) (.slice (some ⟨w3.heap.size, 0, none⟩) 6 6) [0, 4, -10, 10, -5, 1] := by
    refine ⟨_, 6, w3.heap.size, 0, rfl, Nat.le_refl _, by omega, fun _ => rfl, by simp, fun j hj => ?_⟩
    have hj6 : j < 6 := hj
    match j, hj6 with
    | 0, _ => rw [World.cell?_alloc_at _ _ _ _ rfl]; rfl
    | 1, _ => rw [World.cell?_alloc_at _ _ _ _ rfl]; rfl
    | 2, _ => rw [World.cell?_alloc_at _ _ _ _ rfl]; rfl
    | 3, _ => rw [World.cell?_alloc_at _ _ _ _ rfl]; rfl
    | 4, _ => rw [World.cell?_alloc_at _ _ _ _ rfl]; rfl
    | 5, _ => rw [World.cell?_alloc_at _ _ _ _ rfl]; rfl
  refine (ints_any _ _ _ _ _ (Hi.out.below hb4) hl).mono ?_
  rintro e w5 ⟨rfl, hd⟩
  rw [decide_eq_true rfl]
  have Hb5 := Lib.hid (upc Hb3.out (upc hb4 hd.below))
  clear hb4 hl hd
  go_wp2
  go_ret
  exact ⟨rfl, Hb5.out⟩

end Go.Proofs.YtnhhohhhpaejmaaDoor
