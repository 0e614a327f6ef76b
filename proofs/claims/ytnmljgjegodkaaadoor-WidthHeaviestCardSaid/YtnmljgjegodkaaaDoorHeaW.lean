/- width.Heaviest: the walk. -/
import Derived.Test.YtnmljgjegodkaaaDoorPU
import Derived.Test.YtnmljgjegodkaaaDoorPV
import Derived.Test.YtnmljgjegodkaaaDoorTable
import Derived.BigRegion
import Derived.Deep.RegionLaw
namespace Go.Proofs.YtnmljgjegodkaaaDoor
open Go Go.RowKit Go.Maps

theorem infoSt : (Tryd.prog.info? 77).map (fun i => (i.zero, i.size, i.bytes)) = some (some (.map none), 1, 8) := by kernel_rfl
abbrev Own2 (A : Nat) (n : Int) (s : Value) (w : World) : Prop := w.cell? ⟨A, 0, none⟩ = some (.int .i64 n) ∧ w.cell? ⟨A, 1, none⟩ = some s
theorem Own2.b1 {A : Nat} {n : Int} {s : Value} {w : World} (h : Own2 A n s w) (o : Obj) : Own2 A n s (w.alloc o) := ⟨below_cell (below1 _ _) h.1, below_cell (below1 _ _) h.2⟩
theorem Own2.b2 {A : Nat} {n : Int} {s : Value} {w : World} (h : Own2 A n s w) (o o' : Obj) : Own2 A n s ((w.alloc o).alloc o') := ⟨below_cell (below2 _ _ _) h.1, below_cell (below2 _ _ _) h.2⟩
theorem Own2.b3 {A : Nat} {n : Int} {s : Value} {w : World} (h : Own2 A n s w) (o o' o'' : Obj) : Own2 A n s (((w.alloc o).alloc o').alloc o'') := (h.b2 o o').b1 o''
theorem Own2.dr {A : Nat} {n : Int} {s : Value} {w : World} (h : Own2 A n s w) : Own2 A n s w.drew := h
theorem IsGrid.formS {w : World} {B n : Nat} {v : Value} {G : Nat → Nat → Bool} (h : IsGrid w B v n G) : ∃ a c, v = .slice a n c := by
  obtain ⟨a, c, _, _, _, rfl, _⟩ := h
  exact ⟨a, c, rfl⟩
set_option maxRecDepth 100000 in
theorem run_work (a0 a1 a2 a3 a4 : Option Addr) (n0 n1 n2 n3 n4 c0 c1 c2 c3 c4 : Nat) (w : World) :
    (Instr.build 74 #[(0, .slice a0 n0 c0), (1, .slice a1 n1 c1), (2, .slice a2 n2 c2), (3, .slice a3 n3 c3), (4, .slice a4 n4 c4)]).run Tryd.prog w = .ok (.agg #[.slice a0 n0 c0, .slice a1 n1 c1, .slice a2 n2 c2, .slice a3 n3 c3, .slice a4 n4 c4]) w := by
  exact run_build w _ _ _ (by first | kernel_rfl | rfl | simp [Program.built])
/-- What width.Heaviest answers where all is well. -/
def HeaGood (n : Int) (l : List (Int × Int)) (ws : List Int) (B : Nat) (w' : World) (total : Int) (vl : Value) : Prop :=
  ∃ (N : Nat) (g : Nat → Bool), n = N ∧ w'.ownsRow B 3 1 vl ((List.range N).filter g).length (nvals ((List.range N).filter g)) ∧ total = nS (fun v => ws.getD v 0) N (fun v => g v = true) ∧ (∀ x y, x < N → y < N → g x = true → g y = true → adj l x y = false) ∧
    ∀ X : Nat → Prop, (∀ x y, X x → X y → adj l x y = false) → nS (fun v => ws.getD v 0) N X ≤ total
def HeaPost (n : Int) (l : List (Int × Int)) (ws : List Int) (m : List (List Int)) (u : List Int) (w : World) (e : Ending) (w' : World) : Prop :=
  ∃ (c a total : Int) (vl : Value), e = .returned (.tuple #[.int .i64 total, vl, .agg #[.int .i64 c, .int .i64 a]]) ∧ HeaSpec n l ws m u c a ∧ Below w.heap.size w w' ∧
    ((c ≠ 0 ∧ total = 0 ∧ vl = .slice none 0 0) ∨ (c = 0 ∧ a = 0 ∧ HeaGood n l ws w.heap.size w' total vl))
theorem HeaPost.bad {n : Int} {l : List (Int × Int)} {ws : List Int} {m : List (List Int)} {u : List Int} {w w' : World} {c a : Int} (h : HeaSpec n l ws m u c a) (hc : c ≠ 0) (hb : Below w.heap.size w w') :
    HeaPost n l ws m u w (.returned (.tuple #[.int .i64 0, .slice none 0 0, .agg #[.int .i64 c, .int .i64 a]])) w' := ⟨c, a, 0, _, rfl, h, hb, .inl ⟨hc, rfl, rfl⟩⟩

set_option maxHeartbeats 12800000 in
set_option maxRecDepth 100000 in
theorem heaviest_any (n : Int) (l : List (Int × Int)) (ws : List Int) (m : List (List Int)) (u : List Int) (sv wv bv uv : Value) (w : World) (h : IsEdges w sv l) (hw : IsInts w wv ws) (hm : IsRows w bv m) (hu : IsInts w uv u) :
    Calls Tryd.prog 21 #[.agg #[.int .i64 n, sv], wv, bv, uv] w (HeaPost n l ws m u w) := by
  obtain ⟨ad, cap, rfl⟩ : ∃ ad cap, sv = .slice ad l.length cap := by
    obtain ⟨a, c, _, _, rfl, _⟩ := h
    exact ⟨a, c, rfl⟩
  obtain ⟨aw, cw, rfl, hwM⟩ : ∃ aw cw, wv = .slice aw ws.length cw ∧ ws.length ≤ 9223372036854775807 := by
    obtain ⟨a, c, _, _, rfl, _, _, _, _, _⟩ := hw
    exact ⟨a, c, rfl, by omega⟩
  obtain ⟨ab, cb, rfl, hmM⟩ : ∃ ab cb, bv = .slice ab m.length cb ∧ m.length ≤ 9223372036854775807 := by
    obtain ⟨a, c, _, _, rfl, _, _, _, _, _⟩ := hm
    exact ⟨a, c, rfl, by omega⟩
  obtain ⟨au, cu, rfl, huM⟩ : ∃ au cu, uv = .slice au u.length cu ∧ u.length ≤ 9223372036854775807 := by
    obtain ⟨a, c, _, _, rfl, _, _, _, _, _⟩ := hu
    exact ⟨a, c, rfl, by omega⟩
  have hg := GRes.start w n (.slice ad l.length cap)
  have He := Lib.hid h; have Hg := Lib.hid hg; have Hm := Lib.hid hm; have Hu := Lib.hid hu; have Hw := Lib.hid hw
  have cn := hg.cn
  have cs := hg.cs
  have b0 := hg.hz.cell (show 0 < 2 by omega)
  have b1 := hg.hz.cell (show 1 < 2 by omega)
  have d0 := hg.hz.frozen 0
  have d1 := hg.hz.frozen 1
  have hBl := hg.hz.lt
  clear h hg hm hu hw
  go_enter Tryd.func21, Tryd.ntmps21
  go_upto_region 1 with fail
  generalize (w.alloc (Obj.cells #[.int .i64 n, .slice ad l.length cap] 24)).alloc (Obj.cells #[Value.int IntKind.i64 0, Value.int IntKind.i64 0] 27) = w1 at *
  clear b0 b1 d0 d1 hBl
  go_wp2_with fail
  refine (fits_any n l m u _ _ _ w1 (He.out.below Hg.out.hb) (Hm.out.below Hg.out.hb) (Hu.out.below Hg.out.hb)).mono ?_
  rintro e w2 ⟨ok, c, a, rfl, hfs, hb2, hz2, hg2⟩
  have Hfs := Lib.hid hfs; have Hz2 := Lib.hid hz2; have Hg2 := Lib.hid hg2
  have H2 := Lib.hid (Hg.out.below hb2)
  clear hfs hb2 hz2 hg2 cn cs Hg
  have b0 := H2.out.hz.cell (show 0 < 2 by omega)
  have b1 := H2.out.hz.cell (show 1 < 2 by omega)
  have d0 := H2.out.hz.frozen 0
  have d1 := H2.out.hz.frozen 1
  have hBl := H2.out.hz.lt
  go_upto_region 2 with fail
  by_cases hc : c = 0
  · subst hc
    obtain ⟨rfl, hsp, hM, hUM, hbo⟩ := FitsSpec.good Hfs.out
    have H3 := Lib.hid (show GRes w ((w2.setCell ⟨w.heap.size + 1, 0, none⟩ (.int .i64 0)).setCell ⟨w.heap.size + 1, 1, none⟩ (.int .i64 0)) w.heap.size (w.heap.size + 1) n (.slice ad l.length cap) from
      ⟨(H2.out.put (.int .i64 0) (.int .i64 0)).2.2, by rw [World.cell?_setCell_far _ _ _ _ (show w.heap.size + 1 ≠ w.heap.size by omega), World.cell?_setCell_far _ _ _ _ (show w.heap.size + 1 ≠ w.heap.size by omega)]; exact H2.out.cn,
        by rw [World.cell?_setCell_far _ _ _ _ (show w.heap.size + 1 ≠ w.heap.size by omega), World.cell?_setCell_far _ _ _ _ (show w.heap.size + 1 ≠ w.heap.size by omega)]; exact H2.out.cs,
        ((H2.out.hz.set 0 (.int .i64 0)).set 1 (.int .i64 0)).congr fun i _ => by by_cases e : i = 1 <;> by_cases e2 : i = 0 <;> simp [e, e2], by omega, by omega⟩)
    clear b0 b1 d0 d1 hBl
    generalize (w2.setCell ⟨w.heap.size + 1, 0, none⟩ (.int .i64 0)).setCell ⟨w.heap.size + 1, 1, none⟩ (.int .i64 0) = w3 at *
    have cn := H3.out.cn
    have b0 := H3.out.hz.cell (show 0 < 2 by omega)
    have b1 := H3.out.hz.cell (show 1 < 2 by omega)
    have d0 := H3.out.hz.frozen 0
    have d1 := H3.out.hz.frozen 1
    have hBl := H3.out.hz.lt
    by_cases hwn : (ws.length : Int) = n
    · obtain ⟨hn0, hn100, hl1000, hok⟩ := graph_good hsp
      obtain ⟨N, rfl⟩ := Int.eq_ofNat_of_zero_le hn0
      have hwl : ws.length = N := by omega
      have Hwl := Lib.hid hwl
      have Hok := Lib.hid hok
      rw [hwl]
      have Hw0 := Lib.hid (show IsInts w (.slice aw N cw) ws from by have h1 := Hw.out; rw [hwl] at h1; exact h1)
      obtain ⟨M, hMe⟩ : ∃ M, m.length = M := ⟨_, rfl⟩
      have HM := Lib.hid hMe
      rw [hMe] at hM hUM
      rw [hMe]
      rw [hUM]
      have Hu0 := Lib.hid (show IsInts w (.slice au M cu) u from by have h1 := Hu.out; rw [hUM] at h1; exact h1)
      have Hm0 := Lib.hid (show IsRows w (.slice ab M cb) m from by have h1 := Hm.out; rw [hMe] at h1; exact h1)
      obtain ⟨N', bs, hN', hmb, hiff⟩ := Hg2.out rfl
      obtain rfl : N = N' := by omega
      have Hmb := Lib.hid hmb
      have Hiff := Lib.hid (show ok = true ↔ OvP (N : Int) l m u from by rw [hmb, ovP_iff]; exact hiff)
      have Hov := Lib.hid hiff
      have HUM := Lib.hid hUM
      have Hbl := Lib.hid (show bs.length = M from by rw [← hMe, hmb, List.length_map])
      have Hbo := Lib.hid (show ∀ j, j < bs.length → BagOk (N : Int) (ints (bagA bs j)) from fun j hj => by
        have h1 := hbo j (by rw [hmb, List.length_map]; exact hj)
        rw [hmb, map_ints_getD] at h1
        exact h1)
      clear hwn hwl hok hMe hmb hiff hN' hn0 hUM hbo hsp hwM hmM huM Hm Hw Hz2 Hg2
      go_upto_region 7 with fail
      go_loopg [8, 9, 44] N (fun g s8 s9 s44 wr => ∃ i : Nat, i ≤ N ∧ g = N - i ∧ s44 = .int .i64 (i : Int) ∧ s8 = .int .i64 0 ∧ s9 = .slice none 0 0 ∧ (∀ j, j < i → WtOk (ws.getD j 0)) ∧ wr = w3)
      case atStart => exact ⟨0, Nat.zero_le _, rfl, rfl, rfl, rfl, fun j hj => absurd hj (Nat.not_lt_zero _), rfl⟩
      case round =>
        obtain ⟨i, hi, rfl, rfl, rfl, rfl, hall, rfl⟩ := hrel
        have Hall := Lib.hid hall
        clear hall
        by_cases hiN : i < N
        · obtain ⟨b2, o2, rfl, cx⟩ := (Hw0.out.below H3.out.hb).atF (show i < ws.length by rw [Hwl.out]; exact hiN)
          obtain ⟨x, hx⟩ : ∃ x, ws.getD i 0 = x := ⟨_, rfl⟩
          have Hx := Lib.hid hx
          rw [hx] at cx
          clear hx
          by_cases hx0 : x < -1000000
          · have HS := Lib.hid (show HeaSpec (N : Int) l ws m u 3 (i : Int) from .inr ⟨Hfs.out, .inr ⟨by rw [Hwl.out], .inl ⟨i, by rw [Hwl.out]; exact hiN, Hall.out, by rw [Hx.out]; exact fun h => by have := h.1; omega, rfl, rfl⟩⟩⟩)
            go_wp2_with (go_at_call 26; refine (wfault_any _ _ _).mono ?_; rintro e wf ⟨rfl, rfl⟩)
            obtain ⟨e0, e1, e2⟩ := H3.out.putA (.int .i64 3) (.int .i64 (i : Int)) (Obj.cells #[Value.int .i64 3, .int .i64 (i : Int)] 27)
            exact bodyPost_ret (v := .tuple #[.int .i64 0, .slice none 0 0, .agg #[.int .i64 3, .int .i64 (i : Int)]]) (by simp [results, Tryd.results21, go_sem, e0, e1]) rfl (HeaPost.bad HS.out (by decide) e2)
          · by_cases hx1 : 1000000 < x
            · have HS := Lib.hid (show HeaSpec (N : Int) l ws m u 3 (i : Int) from .inr ⟨Hfs.out, .inr ⟨by rw [Hwl.out], .inl ⟨i, by rw [Hwl.out]; exact hiN, Hall.out, by rw [Hx.out]; exact fun h => by have := h.2; omega, rfl, rfl⟩⟩⟩)
              go_wp2_with (go_at_call 26; refine (wfault_any _ _ _).mono ?_; rintro e wf ⟨rfl, rfl⟩)
              obtain ⟨e0, e1, e2⟩ := H3.out.putA (.int .i64 3) (.int .i64 (i : Int)) (Obj.cells #[Value.int .i64 3, .int .i64 (i : Int)] 27)
              exact bodyPost_ret (v := .tuple #[.int .i64 0, .slice none 0 0, .agg #[.int .i64 3, .int .i64 (i : Int)]]) (by simp [results, Tryd.results21, go_sem, e0, e1]) rfl (HeaPost.bad HS.out (by decide) e2)
            · have Hst := Lib.hid (show ∀ j, j < i + 1 → WtOk (ws.getD j 0) from fun j hj => by
                by_cases e : j = i
                · subst e; rw [Hx.out]; exact ⟨by omega, by omega⟩
                · exact Hall.out j (by omega))
              go_wp2
              go_roundg (N - (i + 1))
              case measure => go_light; omega
              case rel => exact ⟨i + 1, by omega, rfl, by go_num, rfl, rfl, Hst.out, rfl⟩
        · obtain rfl : N = i := by omega
          have HWt := Lib.hid (show ∀ j, j < ws.length → WtOk (ws.getD j 0) from by rw [Hwl.out]; exact Hall.out)
          cases ok with
          | false =>
            have HS := Lib.hid (show HeaSpec (N : Int) l ws m u 7 0 from .inr ⟨Hfs.out, .inr ⟨by rw [Hwl.out], .inr ⟨HWt.out, .inl ⟨fun h => (by have := Hiff.out.2 h; cases this), rfl, rfl⟩⟩⟩⟩)
            go_wp2_with (go_at_call 26; refine (wfault_any _ _ _).mono ?_; rintro e wf ⟨rfl, rfl⟩)
            obtain ⟨e0, e1, e2⟩ := H3.out.putA (.int .i64 7) (.int .i64 0) (Obj.cells #[Value.int .i64 7, .int .i64 0] 27)
            exact bodyPost_ret (v := .tuple #[.int .i64 0, .slice none 0 0, .agg #[.int .i64 7, .int .i64 0]]) (by simp [results, Tryd.results21, go_sem, e0, e1]) rfl (HeaPost.bad HS.out (by decide) e2)
          | true =>
            have HOv := Lib.hid (Hiff.out.1 rfl)
            go_upto_region 15 with fail
            go_loopg [8, 9, 63] M (fun g s8 s9 s63 wx => ∃ i : Nat, i ≤ M ∧ g = M - i ∧ s63 = .int .i64 (i : Int) ∧ s8 = .int .i64 0 ∧ s9 = .slice none 0 0 ∧ (∀ j, j < i → (m.getD j []).length ≤ 12) ∧ wx = wr)
            case atStart => exact ⟨0, Nat.zero_le _, rfl, rfl, rfl, rfl, fun j hj => absurd hj (Nat.not_lt_zero _), rfl⟩
            case round =>
              obtain ⟨i, hi, rfl, rfl, rfl, rfl, hall, rfl⟩ := hrel
              have Hall2 := Lib.hid hall
              clear hall
              by_cases hiM : i < M
              · obtain ⟨bb, ob, r, rfl, cr, hri⟩ := (Hm0.out.below H3.out.hb).atF (k := i) (by rw [HM.out]; exact hiM)
                obtain ⟨ar, cr', rfl⟩ : ∃ ar cr', r = .slice ar (m.getD i []).length cr' := by
                  obtain ⟨ar, cr', br, or', er, _⟩ := hri
                  exact ⟨ar, cr', er⟩
                obtain ⟨nb, hnb⟩ : ∃ nb, (m.getD i []).length = nb := ⟨_, rfl⟩
                have Hnb := Lib.hid hnb
                rw [hnb] at cr
                clear hri hnb
                by_cases h12 : 12 < nb
                · have HS := Lib.hid (show HeaSpec (N : Int) l ws m u 2 (i : Int) from .inr ⟨Hfs.out, .inr ⟨by rw [Hwl.out], .inr ⟨HWt.out, .inr ⟨HOv.out, .inl ⟨i, by rw [HM.out]; exact hiM, Hall2.out, by rw [Hnb.out]; exact h12, rfl, rfl⟩⟩⟩⟩⟩)
                  have h12' : (12 : Int) < (nb : Int) := by omega
                  go_wp2_with (go_at_call 26; refine (wfault_any _ _ _).mono ?_; rintro e wf ⟨rfl, rfl⟩)
                  obtain ⟨e0, e1, e2⟩ := H3.out.putA (.int .i64 2) (.int .i64 (i : Int)) (Obj.cells #[Value.int .i64 2, .int .i64 (i : Int)] 27)
                  exact bodyPost_ret (v := .tuple #[.int .i64 0, .slice none 0 0, .agg #[.int .i64 2, .int .i64 (i : Int)]]) (by simp [results, Tryd.results21, go_sem, e0, e1]) rfl (HeaPost.bad HS.out (by decide) e2)
                · have h12' : ¬ (12 : Int) < (nb : Int) := by omega
                  have Hst := Lib.hid (show ∀ j, j < i + 1 → (m.getD j []).length ≤ 12 from fun j hj => by
                    by_cases e : j = i
                    · subst e; rw [Hnb.out]; omega
                    · exact Hall2.out j (by omega))
                  go_wp2
                  go_roundg (M - (i + 1))
                  case measure => go_light; omega
                  case rel => exact ⟨i + 1, by omega, rfl, by go_num, rfl, rfl, Hst.out, rfl⟩
              · obtain rfl : M = i := by omega
                have H12 := Lib.hid (show ∀ j, j < m.length → (m.getD j []).length ≤ 12 from by rw [HM.out]; exact Hall2.out)
                have HS := Lib.hid (show HeaSpec (N : Int) l ws m u 0 0 from .inr ⟨Hfs.out, .inr ⟨by rw [Hwl.out], .inr ⟨HWt.out, .inr ⟨HOv.out, .inr ⟨H12.out, rfl, rfl⟩⟩⟩⟩⟩)
                have He3 := Lib.hid (He.out.below H3.out.hb)
                have cn := H3.out.cn
                have cs := H3.out.cs
                have hmk1 := run_make_row' (P := Tryd.prog) 29 30 (.slice none 0 0) 24 Tryd.underlying29 infoS rfl .i64 .i64 M (by omega) (by omega)
                have hmk2 := run_make_row' (P := Tryd.prog) 72 77 (.map none) 8 Tryd.underlying72 infoSt rfl .i64 .i64 M (by omega) (by omega)
                have hN100 : N ≤ 100 := by omega
                have hrw := run_work
                clear b0 b1 d0 d1 hBl
                go_upto_region 20 with fail
                go_cut [16] from 74 to 85 (fun s16 wx => ∃ tv K Lb E, s16 = .pointer (some ⟨K, 0, none⟩) ∧ WkN wr wx tv (.slice aw N cw) (.slice ab M cb) K Lb E M N (adj l))
                case first =>
                  have hd : Below wr.heap.size wr wr.drew := (Below.refl _ _).drew
                  have p0 : Own2 w.heap.size (N : Int) (.slice ad l.length cap) wr := ⟨cn, cs⟩
                  have q0 : Own2 w.heap.size (N : Int) (.slice ad l.length cap) wr.drew := ⟨cn, cs⟩
                  go_region_held3 (fun w' => w'.cell? ⟨w.heap.size, 0, none⟩ = some (.int .i64 (N : Int)) ∧ w'.cell? ⟨w.heap.size, 1, none⟩ = some (.slice ad l.length cap))
                    (first | with_reducible exact q0 | with_reducible exact (p0.b1 _).dr | with_reducible exact (p0.b2 _ _).dr | with_reducible exact ((p0.dr).b1 _) | with_reducible exact q0.b1 _ | with_reducible exact q0.b2 _ _ | with_reducible exact q1 | with_reducible exact q1.b1 _ | with_reducible exact q1.b2 _ _ | with_reducible exact q1.b3 _ _ _ | fail)
                    (first | (go_at_call 43; refine (table_any l N (.slice ad l.length cap) _ (He3.out.below (by first | exact hd | exact upc hd (below1 _ _) | exact upc hd (below2 _ _ _))) hN100 Hok.out).mono ?_; rintro e w5 ⟨tv, rfl, hgr, hb5⟩; obtain ⟨ta, tc, rfl⟩ := hgr.formS; have h01 : Below wr.heap.size wr w5 := (by first | exact upc hd hb5 | exact upc (upc hd (below1 _ _)) hb5 | exact upc (upc hd (below2 _ _ _)) hb5); have q1 : Own2 w.heap.size (N : Int) (.slice ad l.length cap) w5 := ⟨below_cell h01 cn, below_cell h01 cs⟩; have Hgr := Lib.hid hgr; have Hb5 := Lib.hid hb5; clear hgr hb5))
                  all_goals
                    go_wp2_with fail
                    go_meet
                    have hz5 := Hb5.out.size
                    have hz6 := h01.size
                    simp only [World.size_alloc, World.size_drew] at hz5
                    first
                      | exact ⟨_, _, _, _, rfl, WkN.box (upc h01 (below2 _ _ _)) ((World.rowIs_made w5 _ M _).alloc _) (by have h := World.rowIs_made (w5.alloc (.cells (madeCells #[.slice none 0 0] M) 30)) (.map none) M 77; rw [World.size_alloc] at h; exact h) (by omega) (by omega) (by omega) Hgr.out (below2 _ _ _) (.inr (by omega)) (.inr (by omega)) (by rw [World.size_alloc, World.size_alloc])⟩
                      | exact ⟨_, _, _, _, rfl, WkN.box (upc h01 (below2 _ _ _)) (by have h := World.rowIs_made (w5.alloc (.cells (madeCells #[.map none] M) 77)) (.slice none 0 0) M 30; rw [World.size_alloc] at h; exact h) ((World.rowIs_made w5 _ M _).alloc _) (by omega) (by omega) (by omega) Hgr.out (below2 _ _ _) (.inr (by omega)) (.inr (by omega)) (by rw [World.size_alloc, World.size_alloc])⟩
                      | exact ⟨_, _, _, _, rfl, WkN.box (upc h01 (below1 _ _)) (by have h := World.rowIs_made wr.drew (.slice none 0 0) M 30; exact (h.of_block (Hb5.out.block _ h.lt)).alloc _) (World.rowIs_made w5 _ M _) (by omega) (by omega) (by omega) Hgr.out (below1 _ _) (.inl (by simp only [World.size_alloc, World.size_drew]; omega)) (.inr (by omega)) (by rw [World.size_alloc])⟩
                      | exact ⟨_, _, _, _, rfl, WkN.box (upc h01 (below1 _ _)) (World.rowIs_made w5 _ M _) (by have h := World.rowIs_made wr.drew (.map none) M 77; exact (h.of_block (Hb5.out.block _ h.lt)).alloc _) (by omega) (by omega) (by omega) Hgr.out (below1 _ _) (.inr (by omega)) (.inl (by simp only [World.size_alloc, World.size_drew]; omega)) (by rw [World.size_alloc])⟩
                      | exact ⟨_, _, _, _, rfl, WkN.box h01 (by have h := (World.rowIs_made wr.drew (.slice none 0 0) M 30).alloc (.cells (madeCells #[.map none] M) 77); exact h.of_block (Hb5.out.block _ h.lt)) (by have h := World.rowIs_made (wr.drew.alloc (.cells (madeCells #[.slice none 0 0] M) 30)) (.map none) M 77; rw [World.size_alloc] at h; exact h.of_block (Hb5.out.block _ h.lt)) (by omega) (by omega) (by omega) Hgr.out (Below.refl _ _) (.inl (by simp only [World.size_alloc, World.size_drew]; omega)) (.inl (by simp only [World.size_alloc, World.size_drew]; omega)) rfl⟩
                      | exact ⟨_, _, _, _, rfl, WkN.box h01 (by have h := World.rowIs_made (wr.drew.alloc (.cells (madeCells #[.map none] M) 77)) (.slice none 0 0) M 30; rw [World.size_alloc] at h; exact h.of_block (Hb5.out.block _ h.lt)) (by have h := (World.rowIs_made wr.drew (.map none) M 77).alloc (.cells (madeCells #[.slice none 0 0] M) 30); exact h.of_block (Hb5.out.block _ h.lt)) (by omega) (by omega) (by omega) Hgr.out (Below.refl _ _) (.inl (by simp only [World.size_alloc, World.size_drew]; omega)) (.inl (by simp only [World.size_alloc, World.size_drew]; omega)) rfl⟩
                case rest =>
                obtain ⟨tv, K, Lb, E, rfl, hN20⟩ := hcut
                obtain ⟨w6, rfl⟩ : ∃ w6 : World, w6 = wc := ⟨_, rfl⟩
                have HN := Lib.hid hN20
                have H6 := Lib.hid (H3.out.below hN20.hb)
                have K6 := Lib.hid (show KbE w6 w6 Lb K M (fun _ => .slice none 0 0) (fun p => (List.range 0).filter fun k => decide (u.getD k 0 = (p : Int))) from ⟨⟨hN20.rl, Bank.start _ _ _ _, hN20.rl.lt⟩, hN20.k3, World.block_lt_of_cell? _ _ hN20.k3, hN20.nKL, Chg.refl _ _⟩)
                clear hN20 hmk1 hmk2 hrw cn cs
                have HFt := Lib.hid ((fits_over (N := N) (l := l) (bs := bs) (u := u) (by rw [HUM.out, Hbl.out])).2 (ovP_iff.1 (by rw [← Hmb.out]; exact HOv.out)))
                have HUp := Lib.hid (HFt.out.ups)
                go_upto_region 22 with fail
                go_loopg [88] M (fun g s88 wx => ∃ (i : Nat) (V : Nat → Value), i ≤ M ∧ g = M - i ∧ s88 = .int .i64 (i : Int) ∧ KbE w6 wx Lb K M V (fun p => (List.range i).filter fun k => decide (u.getD k 0 = (p : Int))))
                case atStart => exact ⟨0, _, Nat.zero_le _, rfl, rfl, K6.out⟩
                case round =>
                  clear K6
                  obtain ⟨i, V, hi, rfl, rfl, hk⟩ := hrel
                  have Hk := Lib.hid hk
                  have HbW := Lib.hid (show Below w.heap.size w wr from H6.out.hb.trans (hk.ch.toBelow H6.out.hb.size (fun k hk2 e => by have h1 := HN.out.kL; have h2 := H3.out.hb.size; omega)))
                  clear hk
                  by_cases hiM : i < M
                  · obtain ⟨b7, o7, rfl, cx⟩ := (Hu0.out.below HbW.out).atF (show i < u.length by rw [HUM.out]; exact hiM)
                    have hup := HUp.out i (by rw [HUM.out]; exact hiM)
                    have Hmore := Lib.hid (fun q => kid_more (u := u) (i := i) (q := q))
                    obtain ⟨p, hp⟩ : ∃ p, u.getD i 0 = p := ⟨_, rfl⟩
                    unfold UpAt at hup
                    rw [hp] at cx hup Hmore
                    rw [HUM.out] at hup
                    clear hp
                    by_cases hp0 : p < 0
                    · have hp1 : ¬ 0 ≤ p := by omega
                      have Hk2 := Lib.hid (show KbE w6 wr Lb K M V (fun q => (List.range (i + 1)).filter fun k => decide (u.getD k 0 = (q : Int))) from by
                        refine ⟨Hk.out.nb.congr fun q hq => ?_, Hk.out.c3, Hk.out.hK, Hk.out.nK, Hk.out.ch⟩
                        rw [Hmore.out q, if_neg (by omega), List.append_nil])
                      clear hup
                      go_wp2
                      go_roundg (M - (i + 1))
                      case measure => go_light; omega
                      case rel => exact ⟨i + 1, V, by omega, rfl, by go_num, Hk2.out⟩
                    · obtain ⟨P, rfl⟩ := Int.eq_ofNat_of_zero_le (show 0 ≤ p by omega)
                      have hPM : P < M := by rcases hup with h | ⟨_, h, _⟩ <;> omega
                      have Hk2 := Lib.hid (fun (V' : Nat → Value) (wz : World) (h : KbE w6 wz Lb K M V' (growN (fun p => (List.range i).filter fun k => decide (u.getD k 0 = (p : Int))) P [i])) => show KbE w6 wz Lb K M V' (fun q => (List.range (i + 1)).filter fun k => decide (u.getD k 0 = (q : Int))) from by
                        refine ⟨h.nb.congr fun q hq => ?_, h.c3, h.hK, h.nK, h.ch⟩
                        rw [Hmore.out q]
                        unfold growN
                        by_cases e : q = P
                        · subst e; rw [if_pos rfl, if_pos rfl]
                        · rw [if_neg e, if_neg (by omega), List.append_nil])
                      have hlen : ((List.range i).filter fun k => decide (u.getD k 0 = (P : Int))).length ≤ 100 := by
                        have h1 := List.length_filter_le (fun k => decide (u.getD k 0 = (P : Int))) (List.range i)
                        rw [List.length_range] at h1
                        omega
                      generalize hXX : (fun p : Nat => (List.range i).filter fun k => decide (u.getD k 0 = (p : Int))) = XX at *
                      have hlx : (XX P).length ≤ 100 := by rw [← hXX]; exact hlen
                      clear hXX hlen Hmore hup
                      obtain ⟨ax1, cx1, ex1⟩ := Hk.out.nb.form hPM
                      have Ex1 := Lib.hid ex1
                      have t1 := Hk.out.nb.ro.cell hPM
                      rw [ex1] at t1
                      have ft1 := Hk.out.nb.ro.frozen P
                      have lt1 := Hk.out.nb.ro.lt
                      have c3 := Hk.out.c3
                      have sz1 := Hk.out.sz
                      have hKl : K < wr.heap.size := Nat.lt_of_lt_of_le Hk.out.hK Hk.out.sz
                      clear ex1
                      go_upto_region 25 with fail
                      go_region_law (refine step_append_at rfl _ _ 30 rfl w6.heap.size 3 (.int .i64 0) 8 Tryd.underlying30 info3 rfl (V P) (XX P).length _ Ex1.out.symm ((Hk.out.da _).nb.owns hPM) _ 1 (nvals [i]) rfl (HasCells.one _ _ _ rfl) (by omega) (by omega) (by omega) (Hk.out.da _).sz ?_; intro a2 c2 w2 ho2 hg2 hat2; obtain ⟨G2, q0, qr⟩ := (Hk.out.da _).of (m := [i]) hPM ho2 hg2 hat2; have qt := qr.cell hPM; rw [Ex1.out] at qt; have qf := qr.frozen P; have ql := qr.lt; clear ho2 hg2 hat2 qr)
                      all_goals
                        have G3 := Lib.hid (Hk2.out _ _ G2)
                        clear G2
                        go_wp2
                        go_roundg (M - (i + 1))
                        case measure => go_light; omega
                        case rel => exact ⟨i + 1, _, by omega, rfl, by go_num, G3.out⟩
                  · obtain rfl : M = i := by omega
                    have H8 := Lib.hid (H6.out.chg Hk.out.ch (fun k e => by have h1 := HN.out.kL; have h2 := H3.out.hz.lt; omega))
                    have b0 := H8.out.hz.cell (show 0 < 2 by omega)
                    have b1 := H8.out.hz.cell (show 1 < 2 by omega)
                    have d0 := H8.out.hz.frozen 0
                    have d1 := H8.out.hz.frozen 1
                    have hBl := H8.out.hz.lt
                    go_wp2_with fail
                    refine (indexI_any u (-1) _ wr (Hu0.out.below HbW.out)).mono ?_
                    rintro e w7 ⟨⟨z, rfl, hz⟩, hw7⟩
                    rw [hw7]
                    clear hw7
                    rcases hz with ⟨rfl, hz⟩ | ⟨r, rfl, hr, hru, -⟩
                    · have hN0 := no_root HFt.out HUM.out Hbl.out hz
                      have Hgood := Lib.hid (show ∀ w' : World, HeaGood (N : Int) l ws w.heap.size w' 0 (.slice none 0 0) from fun w' => by
                        refine ⟨N, fun _ => false, rfl, ?_, ?_, fun x y hx => by omega, fun X _ => ?_⟩
                        · rw [hN0]; exact World.ownsRow_nil _ _ _ _
                        · rw [nS_none]; intro v hv _; omega
                        · rw [nS_none]; omega
                          intro v hv _; omega)
                      clear hz hN0
                      go_wp2
                      go_region
                      all_goals
                        obtain ⟨e0, e1, e2⟩ := H8.out.put (.int .i64 0) (.int .i64 0)
                        go_wp2
                        exact bodyPost_ret (v := .tuple #[.int .i64 0, .slice none 0 0, .agg #[.int .i64 0, .int .i64 0]]) (by simp [results, Tryd.results21, go_sem, e0, e1]) rfl ⟨0, 0, 0, _, rfl, HS.out, e2.drew, .inr ⟨rfl, rfl, Hgood.out _⟩⟩
                    · have hrM : r < M := by rw [← HUM.out]; exact hr
                      have hrl : ¬ (r : Int) < 0 := by omega
                      obtain ⟨rv, hrv⟩ := rows_pick (show IsRows w (.slice ab M cb) (bs.map ints) from by have h1 := Hm0.out; rw [Hmb.out] at h1; exact h1)
                      obtain ⟨d, hde⟩ : ∃ d, wkd K E Lb N M tv (.slice aw N cw) (.slice ab M cb) l ws bs u rv V = d := ⟨_, rfl⟩
                      have HO := Lib.hid (show WkOk d l u from by
                        rw [← hde]
                        exact wk_ok (bags_ok Hok.out (by rw [HUM.out, Hbl.out]) HFt.out Hbo.out) Hbl.out hN100 (by omega) (fun i hi => by
                          have h1 := H12.out i (by rw [HM.out, ← Hbl.out]; exact hi)
                          rw [Hmb.out, map_ints_getD, ints_length] at h1
                          exact h1) Hwl.out HWt.out)
                      have HE := Lib.hid (show StE d.E (WkF d) wr from by
                        rw [← hde]
                        exact wk_still Hbl.out (by omega) H3.out.hb HN.out Hk.out Hw0.out (by have h1 := Hm0.out; rw [Hmb.out] at h1; exact h1) hrv)
                      have HdK := Lib.hid (show d.K = K from by rw [← hde]; rfl)
                      have HdE := Lib.hid (show d.E = E from by rw [← hde]; rfl)
                      have HdB := Lib.hid (show d.bs = bs from by rw [← hde]; rfl)
                      have HdN := Lib.hid (show d.N = N from by rw [← hde]; rfl)
                      have HdG := Lib.hid (show d.G = adj l from by rw [← hde]; rfl)
                      have HdW := Lib.hid (show d.ws = ws from by rw [← hde]; rfl)
                      obtain ⟨T, hT⟩ := tOk_ex (G := d.G) (W := d.W) (bs := d.bs) (u := u) (by rw [HdB.out, HUM.out, Hbl.out]) HFt.out.clm
                      have HT := Lib.hid hT
                      have HS0 := Lib.hid (show BestS d T wr wr.heap.size (fun _ => False) from by rw [← hde]; exact wk_best T Hbl.out HN.out Hk.out)
                      obtain ⟨dep, hdep⟩ := HFt.out.clm r hr
                      have Hdep := Lib.hid hdep
                      have Hup := Lib.hid (up_any d l u T HO.out HT.out d.bs.length r dep (Nat.sub_le _ _) hdep (fun _ => False) wr HE.out HS0.out)
                      rw [HdK.out] at Hup
                      have Hru := Lib.hid (And.intro hr hru)
                      clear hrv hde hT hdep hr hru b0 b1 d0 d1 hBl
                      go_wp2_with fail
                      apply Calls.mono Hup.out
                      rintro e w8 ⟨rfl, hch8, hbs8⟩
                      have HE8 := Lib.hid (HE.out.chg hch8)
                      have Hbs8 := Lib.hid (hbs8.congr (don' := fun _ => True) fun q hq _ => .inr (HFt.out.all_hng Hru.out.1 Hru.out.2 (by rw [HUM.out, ← Hbl.out, ← HdB.out]; exact hq)))
                      have H9 := Lib.hid (H8.out.chg hch8 (fun k e => by
                        have h1 := HN.out.kE
                        have h2 := H3.out.hz.lt
                        have h3 := HdE.out
                        omega))
                      clear hch8 hbs8 Hup HS0
                      obtain ⟨mb, nb, hcr, hmr⟩ := Hbs8.out.at (show r < d.bs.length by rw [HdB.out, Hbl.out]; exact hrM) trivial
                      obtain ⟨D, hown, hh⟩ := hmr
                      have Hh := Lib.hid hh
                      have ce := HE8.out.now.ce
                      rw [HdK.out, HdE.out, HdB.out, Hbl.out] at ce
                      rw [HdE.out] at hcr
                      have Cr := Lib.hid (And.intro ce hcr)
                      clear hh
                      go_wp2_with (at_range; refine wpList_range_own _ rfl _ 77 rfl 3 3 intKeyedS Tryd.underlying77 _ mb nb D rfl hown ?_; intro w0 hrg0 hg0 hs0)
                      go_frame
                      have hb0 := below_grown0 hg0
                      have Hrg0 := Lib.hid hrg0; have Hb0 := Lib.hid hb0
                      clear ce hcr hown hrg0 hg0 hs0 hb0
                      go_loopw [20] (fun s20 wx => ∃ (left : Lit → Bool) (cnt : Nat) (a m : Int), s20 = .int .i64 a ∧ CB (CandP d r) (fun _ => True) (T r) left a m ∧ ChSt d w8 wx mb nb D left cnt) (fun _ wx => wx.rangeLeft mb w8.heap.size)
                      case atStart => exact ⟨_, _, -1, 0, rfl, .inl ⟨rfl, rfl, fun t ht hl => by rw [(Hh.out.at' t ht).1] at hl; cases hl⟩, Hrg0.out, fun _ h => h, Hb0.out⟩
                      case round =>
                        obtain ⟨left, cnt, a, m0, rfl, hcb, hst⟩ := hrel
                        have Hcb := Lib.hid hcb; have Hst := Lib.hid hst
                        have hrg := hst.rg
                        clear hcb hst
                        go_wp2_with (first
                          | (at_next; refine wpList_next_ranges_ii _ rfl _ rfl 3 3 .i64 .i64 intKeyedS Tryd.underlying3 Tryd.underlying3 mb w8.heap.size nb D _ _ rfl hrg ?_ ?_)
                          | go_in)
                        · intro hc0 hl0
                          have hbst : IsBst (LooseM d.G (bagA d.bs r)) (T r) (2 ^ (bagA d.bs r).length) (bst (LooseM d.G (bagA d.bs r)) (T r) (2 ^ (bagA d.bs r).length)) := bst_is ⟨0, Nat.two_pow_pos _, loose_zero _ _⟩
                          have Hbst := Lib.hid hbst
                          have e1 := (Hcb.out.done hl0 (n := 2 ^ (bagA d.bs r).length) (t := bst (LooseM d.G (bagA d.bs r)) (T r) (2 ^ (bagA d.bs r).length)) ⟨hbst.lt, ⟨⟨hbst.lt, hbst.ok⟩, trivial⟩, fun t' h1 h2 => hbst.max t' h1 h2.1.2⟩ fun t h => h.1).1
                          subst e1
                          clear hbst hrg hc0 hl0
                          generalize bst (LooseM d.G (bagA d.bs r)) (T r) (2 ^ (bagA d.bs r).length) = top at *
                          obtain ⟨w9, rfl⟩ : ∃ w9 : World, w9 = wr := ⟨_, rfl⟩
                          have HE9 := Lib.hid (HE8.out.below Hst.out.hb)
                          have Hbs9 := Lib.hid ((Hbs8.out.below Hst.out.hb).up Hst.out.hb.size (Nat.le_refl _))
                          have H10 := Lib.hid (H9.out.below Hst.out.hb)
                          have cn := H10.out.cn
                          have hmkb := run_make_row' (P := Tryd.prog) 52 4 (.bool false) 1 Tryd.underlying52 info4 rfl .i64 .i64 N (by omega) (by omega)
                          have hr0 := (World.rowIs_made w9 (.bool false) N 4).congr (g := rb fun _ => false) fun _ _ => rfl
                          have Hb10 := Lib.hid (below1 w9 (.cells (madeCells #[.bool false] N) 4))
                          have Hr10 := Lib.hid hr0
                          clear hr0
                          go_upto_region 38 with fail
                          clear hmkb cn
                          generalize w9.alloc (.cells (madeCells #[.bool false] N) 4) = w10 at *
                          have Hdown := Lib.hid (down_any d l u T HO.out HT.out w9 w9.heap.size HE9.out.now Hbs9.out (Nat.le_refl _) d.bs.length r dep (Nat.sub_le _ _) Hdep.out top (fun _ => false) w10 Hbst.out.ok Hbst.out.lt Hb10.out (by rw [HdN.out]; exact Hr10.out))
                          rw [HdK.out, HdN.out] at Hdown
                          go_wp2_with fail
                          apply Calls.mono Hdown.out
                          rintro e w11 ⟨rfl, hb11, g, hg11, hgi⟩
                          rw [HdN.out] at hg11 hgi
                          have Hb11 := Lib.hid hb11; have Hg11 := Lib.hid hg11; have Hgi := Lib.hid hgi
                          have H11 := Lib.hid (H10.out.below hb11)
                          obtain ⟨F, hF⟩ : ∃ F : Nat → Int, F = fun v => if g v = true then ws.getD v 0 else 0 := ⟨_, rfl⟩
                          have HF := Lib.hid hF
                          have HbF := Lib.hid (show ∀ j, j ≤ N → -((j : Int) * 1000000) ≤ sumI F j ∧ sumI F j ≤ (j : Int) * 1000000 from fun j hj => sumI_bound fun v hv => by
                            have h1 := HWt.out v (by rw [Hwl.out]; omega)
                            unfold WtOk at h1
                            rw [hF]
                            show _ ≤ (if g v = true then ws.getD v 0 else 0) ∧ (if g v = true then ws.getD v 0 else 0) ≤ _
                            split <;> omega)
                          clear hb11 hg11 hgi hF
                          go_upto_region 40 with fail
                          go_loopg [8, 9, 177] N (fun gm s8 s9 s177 wx => ∃ j : Nat, j ≤ N ∧ gm = N - j ∧ s177 = .int .i64 (j : Int) ∧ s8 = .int .i64 (sumI F j) ∧ wx.ownsRow w11.heap.size 3 1 s9 ((List.range j).filter g).length (nvals ((List.range j).filter g)) ∧ Below w11.heap.size w11 wx)
                          case atStart => exact ⟨0, Nat.zero_le _, rfl, rfl, rfl, World.ownsRow_nil _ _ _ _, Below.refl _ _⟩
                          case round =>
                            obtain ⟨j, hj, rfl, rfl, rfl, hown, hb⟩ := hrel
                            obtain ⟨a9, c9, rfl⟩ := ownsRow_form hown
                            have Hown := Lib.hid hown; have Hb := Lib.hid hb
                            have hlen : ((List.range j).filter g).length ≤ 100 := by
                              have h1 := List.length_filter_le g (List.range j)
                              rw [List.length_range] at h1
                              omega
                            have hbo := HbF.out j hj
                            by_cases hjN : j < N
                            · have cR := (Hg11.out.of_block (hb.block _ Hg11.out.lt)).cell hjN
                              simp only [rb] at cR
                              have Hs := Lib.hid (show sumI F (j + 1) = sumI F j + F j from rfl)
                              have HFj := Lib.hid (show F j = if g j = true then ws.getD j 0 else 0 from by rw [HF.out])
                              have Hfl := Lib.hid (show (List.range (j + 1)).filter g = (List.range j).filter g ++ (if g j = true then [j] else []) from by
                                rw [List.range_succ, List.filter_append]
                                by_cases h : g j = true
                                · rw [if_pos h, List.filter_cons, if_pos h, List.filter_nil]
                                · rw [if_neg h, List.filter_cons, if_neg h, List.filter_nil])
                              generalize sumI F j = z at *
                              generalize (List.range j).filter g = fl at *
                              have hsz := hb.size
                              clear hown hb
                              cases hgj : g j with
                              | false =>
                                rw [hgj] at cR
                                rw [hgj, if_neg (by decide), List.append_nil] at Hfl
                                have Hs2 := Lib.hid (show sumI F (j + 1) = z from by rw [Hs.out, HFj.out, hgj, if_neg (by decide), Int.add_zero])
                                clear hgj
                                go_wp2
                                go_roundg (N - (j + 1))
                                case measure => go_light; omega
                                case rel => exact ⟨j + 1, by omega, rfl, by go_num, by rw [Hs2.out], by rw [Hfl.out]; exact Hown.out, Hb.out⟩
                              | true =>
                                rw [hgj] at cR
                                rw [hgj, if_pos rfl] at Hfl
                                obtain ⟨b4, o4, haw, cw11⟩ := (Hw0.out.below H11.out.hb).atF (show j < ws.length by rw [Hwl.out]; exact hjN)
                                subst haw
                                have Cw := Lib.hid cw11
                                clear cw11
                                have hWv := HWt.out j (by rw [Hwl.out]; exact hjN)
                                unfold WtOk at hWv
                                have Hs2 := Lib.hid (show sumI F (j + 1) = z + ws.getD j 0 from by rw [Hs.out, HFj.out, hgj, if_pos rfl])
                                generalize ws.getD j 0 = y at *
                                have hwr : IntKind.i64.wrap (z + y) = z + y := wrapI (by omega) (by omega)
                                clear hgj hWv
                                go_upto_region 44 with (at_builtin; refine wpList_append_has rfl (.tmp 184) (.tmp 186) 30 rfl w11.heap.size 3 (.int .i64 0) 8 Tryd.underlying30 info3 rfl (.slice a9 fl.length c9) fl.length (nvals fl) rfl (Hown.out.alloc _) _ 1 (nvals [j]) rfl (HasCells.one _ _ _ rfl) (by omega) (by omega) (by simp; omega) ?_; intro a10 c10 w12 ho12 hg12; have Ho12 := Lib.hid ho12; have hb12 := (Hb.out.alloc Hb.out.size (Obj.cells #[.int .i64 (j : Int)] 3)).grown hg12 (by simp; omega) (fun g e => (Hown.out.lt g e).1); have cwv := below_cell hb12 Cw.out; have Hb12 := Lib.hid hb12; clear ho12 hg12 hb12)
                                go_wp2
                                go_roundg (N - (j + 1))
                                case measure => go_light; omega
                                case rel => exact ⟨j + 1, by omega, rfl, by go_num, by rw [Hs2.out], by rw [Hfl.out, List.length_append]; have h1 := Ho12.out; simpa [nvals, ints] using h1, Hb12.out⟩
                            · obtain rfl : N = j := by omega
                              have H12b := Lib.hid (H11.out.below hb)
                              have b0 := H12b.out.hz.cell (show 0 < 2 by omega)
                              have b1 := H12b.out.hz.cell (show 1 < 2 by omega)
                              have d0 := H12b.out.hz.frozen 0
                              have d1 := H12b.out.hz.frozen 1
                              have hBl := H12b.out.hz.lt
                              obtain ⟨tot, htot⟩ : ∃ tot, sumI F N = tot := ⟨_, rfl⟩
                              have Htot := Lib.hid (show tot = nS (fun v => ws.getD v 0) N (fun v => g v = true) from by
                                rw [← htot, HF.out]
                                exact sumI_nS (W := fun v => ws.getD v 0) g)
                              rw [htot]
                              have Hdn := Lib.hid (HO.out.bags.dn HT.out (show r < d.bs.length by rw [HdB.out, Hbl.out]; exact hrM) Hbst.out.ok)
                              have HgD := Lib.hid (show ∀ v, v < N → (g v = true ↔ Dn d.G d.W d.bs u T r top v) from fun v hv => by
                                rw [Hgi.out v hv]
                                exact ⟨fun h => h.elim (fun k => by cases k) id, .inr⟩)
                              have Hgood := Lib.hid (show ∀ w', w'.ownsRow w11.heap.size 3 1 (.slice a9 ((List.range N).filter g).length c9) ((List.range N).filter g).length (nvals ((List.range N).filter g)) → HeaGood (N : Int) l ws w.heap.size w' tot (.slice a9 ((List.range N).filter g).length c9) from fun w' ho => by
                                refine ⟨N, g, rfl, ?_, Htot.out, fun x y hx hy h1 h2 => ?_, fun X hX => ?_⟩
                                · exact ownsRow_low ho H11.out.hb.size
                                · have := Hdn.out.loose x y ((HgD.out x hx).1 h1) ((HgD.out y hy).1 h2)
                                  rw [HdG.out] at this
                                  exact this
                                · have h1 := HO.out.bags.best HT.out (show r < d.bs.length by rw [HdB.out, Hbl.out]; exact hrM) Hru.out.2 Hbst.out (X := X) (fun x y hx hy => by rw [HdG.out]; exact hX x y hx hy)
                                  rw [HdN.out] at h1
                                  have e1 : d.W = fun v => ws.getD v 0 := by funext v; show d.ws.getD v 0 = _; rw [HdW.out]
                                  have h2 : nS d.W N (Dn d.G d.W d.bs u T r top) = tot := by
                                    rw [Htot.out, e1]
                                    exact nS_congr fun v hv => by rw [← e1]; exact (HgD.out v hv).symm
                                  rw [h2, e1] at h1
                                  exact h1)
                              have HoF := Lib.hid (fun (w' : World) (hw' : wr.grownBy w' (some (w.heap.size + 1))) => Hown.out.kept hw' (by
                                cases hv : (Value.slice a9 ((List.range N).filter g).length c9).ownBlock with
                                | none => exact .inl rfl
                                | some q =>
                                  refine .inr fun e => ?_
                                  have h1 := (Hown.out.lt q hv).1
                                  have h2 := Option.some.inj e
                                  have h3 := H11.out.hz.lt
                                  omega))
                              clear hown hb htot hbo
                              generalize ((List.range N).filter g).length = nl at *
                              go_wp2
                              go_region
                              all_goals
                                obtain ⟨e0, e1, e2⟩ := H12b.out.put (.int .i64 0) (.int .i64 0)
                                have hg2 : wr.grownBy ((wr.setCell ⟨w.heap.size + 1, 0, none⟩ (.int .i64 0)).setCell ⟨w.heap.size + 1, 1, none⟩ (.int .i64 0)) (some (w.heap.size + 1)) := (grown_set wr (w.heap.size + 1) 0 (.int .i64 0)).trans (grown_set _ (w.heap.size + 1) 1 (.int .i64 0))
                                have hfin := Hgood.out _ (HoF.out ((wr.setCell ⟨w.heap.size + 1, 0, none⟩ (.int .i64 0)).setCell ⟨w.heap.size + 1, 1, none⟩ (.int .i64 0)).drew ⟨hg2.os, hg2.tape, hg2.output, hg2.size, hg2.block⟩)
                                have Hfin := Lib.hid hfin
                                clear hfin
                                go_wp2
                                exact bodyPost_ret (v := .tuple #[.int .i64 tot, .slice a9 nl c9, .agg #[.int .i64 0, .int .i64 0]]) (by simp [results, Tryd.results21, go_sem, e0, e1]) rfl ⟨0, 0, tot, _, rfl, HS.out, e2.drew, .inr ⟨rfl, rfl, Hfin.out⟩⟩
                        · intro x c w1 cnt1 hx hc hlk hat hrg1 hlt1 hg1 hs1 hen
                          obtain ⟨t, htp, hte⟩ := Hh.out.keys _ (Hst.out.has _ hlk)
                          obtain rfl : x = (t : Int) := by simp only [Lit.int.injEq, true_and] at hte; exact hte
                          have hct : c = T r t := by
                            have h1 := hat (.lit (.int .i64 0))
                            rw [(Hh.out.at' t htp).2] at h1
                            simp only [DataW.lit.injEq, Lit.int.injEq, true_and] at h1
                            exact h1.symm
                          have Hct := Lib.hid hct
                          have hbw1 : Below w8.heap.size w8 w1 := Hst.out.hb.grown hg1 Hst.out.hb.size (fun g e => by have := Option.some.inj e; omega)
                          have ce := below_cell hbw1 Cr.out.1
                          have cer := below_cell hbw1 Cr.out.2
                          have Htp := Lib.hid htp; have Hlt1 := Lib.hid hlt1
                          have Hown1 := Lib.hid (show SMap w1 mb nb (CandP d r) (T r) from ⟨D, hrg1.owns, Hh.out⟩)
                          have Hs2 := Lib.hid (show ChSt d w8 w1 mb nb D (fun z => left z && !z.sameKey (.int .i64 (t : Int))) cnt1 from ⟨hrg1, fun l hl => Hst.out.has l (by simp only [Bool.and_eq_true] at hl; exact hl.1), hbw1⟩)
                          have h2L : (2 : Nat) ^ (bagA d.bs r).length ≤ 4096 := by
                            have h1 := HO.out.n12 r (by rw [HdB.out, Hbl.out]; exact hrM)
                            exact Nat.pow_le_pow_right (by omega) h1
                          have Htake := Lib.hid (fun (h : a < 0 ∨ m0 < c ∨ (c = m0 ∧ (t : Int) < a)) => show CB (CandP d r) (fun _ => True) (T r) (fun z => left z && !z.sameKey (.int .i64 (t : Int))) (t : Int) c from by
                            have h1 := CB.take (f := T r) Hcb.out (t := t) Htp.out trivial (by rw [← Hct.out]; exact h)
                            rw [← Hct.out] at h1
                            exact h1)
                          have Hkeep := Lib.hid (fun (h0 : ¬ a < 0) (h : c < m0 ∨ (c = m0 ∧ a ≤ (t : Int))) => show CB (CandP d r) (fun _ => True) (T r) (fun z => left z && !z.sameKey (.int .i64 (t : Int))) a m0 from by
                            obtain ⟨A, rfl⟩ := Int.eq_ofNat_of_zero_le (show 0 ≤ a by omega)
                            exact CB.keep Hcb.out (by rw [← Hct.out]; rcases h with h | ⟨h, h'⟩ <;> omega))
                          clear hct htp hlk hat hrg1 hlt1 hg1 hs1 hte hx hc
                          by_cases ha : a < 0
                          · have Hs3 := Lib.hid (Htake.out (.inl ha))
                            go_wp2
                            go_roundw
                            case rel => exact ⟨_, _, _, _, rfl, Hs3.out, Hs2.out⟩
                            case measure => rw [Hs2.out.rg.left_eq, Hst.out.rg.left_eq]; exact Hlt1.out
                          · obtain ⟨t0, hat0, htp0, -, -, hm0, -⟩ : ∃ t0 : Nat, a = t0 ∧ CandP d r t0 ∧ True ∧ left (.int .i64 (t0 : Int)) = false ∧ m0 = T r t0 ∧ True := by
                              rcases Hcb.out with ⟨h1, _, _⟩ | ⟨t0, h1, h2, _, h4, h5, _⟩
                              · omega
                              · exact ⟨t0, h1, h2, trivial, h4, h5, trivial⟩
                            subst hat0
                            have hlook := Hown1.out.look htp0 (by have := htp0.1; omega)
                            rw [← hm0] at hlook
                            clear hm0 htp0
                            by_cases hm : m0 < c
                            · have Hs3 := Lib.hid (Htake.out (.inr (.inl hm)))
                              go_wp2
                              go_roundw
                              case rel => exact ⟨_, _, _, _, rfl, Hs3.out, Hs2.out⟩
                              case measure => rw [Hs2.out.rg.left_eq, Hst.out.rg.left_eq]; exact Hlt1.out
                            · by_cases he : c = m0
                              · have heb : (c == m0) = true := by simp [he]
                                by_cases ht : (t : Int) < (t0 : Int)
                                · have Hs3 := Lib.hid (Htake.out (.inr (.inr ⟨he, ht⟩)))
                                  clear he
                                  go_wp2
                                  go_roundw
                                  case rel => exact ⟨_, _, _, _, rfl, Hs3.out, Hs2.out⟩
                                  case measure => rw [Hs2.out.rg.left_eq, Hst.out.rg.left_eq]; exact Hlt1.out
                                · have Hs3 := Lib.hid (Hkeep.out ha (.inr ⟨he, by omega⟩))
                                  clear he
                                  go_wp2
                                  go_roundw
                                  case rel => exact ⟨_, _, _, _, rfl, Hs3.out, Hs2.out⟩
                                  case measure => rw [Hs2.out.rg.left_eq, Hst.out.rg.left_eq]; exact Hlt1.out
                              · have heb : (c == m0) = false := by simp [he]
                                have Hs3 := Lib.hid (Hkeep.out ha (.inl (by omega)))
                                clear he
                                go_wp2
                                go_roundw
                                case rel => exact ⟨_, _, _, _, rfl, Hs3.out, Hs2.out⟩
                                case measure => rw [Hs2.out.rg.left_eq, Hst.out.rg.left_eq]; exact Hlt1.out
    · have hwb : ((ws.length : Int) != n) = true := by simp [hwn]
      have HS := Lib.hid (show HeaSpec n l ws m u 6 1 from .inr ⟨Hfs.out, .inl ⟨hwn, rfl, rfl⟩⟩)
      clear hwn
      go_wp2_with (go_at_call 26; refine (wfault_any _ _ _).mono ?_; rintro e wf ⟨rfl, rfl⟩)
      obtain ⟨e0, e1, e2⟩ := H3.out.putA (.int .i64 6) (.int .i64 1) (Obj.cells #[Value.int .i64 6, .int .i64 1] 27)
      exact bodyPost_ret (v := .tuple #[.int .i64 0, .slice none 0 0, .agg #[.int .i64 6, .int .i64 1]]) (by simp [results, Tryd.results21, go_sem, e0, e1]) rfl (HeaPost.bad HS.out (by decide) e2)
  · have q : (c != 0) = true := by simp [hc]
    have Hc := Lib.hid hc
    have h2 := H2.out.hz
    have b2 := ((h2.set 0 (.int .i64 c)).set 1 (.int .i64 a)).cell (show 0 < 2 by omega)
    have b3 := ((h2.set 0 (.int .i64 c)).set 1 (.int .i64 a)).cell (show 1 < 2 by omega)
    have d2 := ((h2.set 0 (.int .i64 c)).set 1 (.int .i64 a)).frozen 0
    have d3 := ((h2.set 0 (.int .i64 c)).set 1 (.int .i64 a)).frozen 1
    have hBl2 := ((h2.set 0 (.int .i64 c)).set 1 (.int .i64 a)).lt
    have HH := Lib.hid ((((h2.set 0 (.int .i64 c)).set 1 (.int .i64 a)).set 0 (.int .i64 c)).set 1 (.int .i64 a))
    have HB := Lib.hid (((((H2.out.hb.setCell (p := ⟨w.heap.size + 1, 0, none⟩) (Nat.le_succ _) (.int .i64 c)).setCell (p := ⟨w.heap.size + 1, 1, none⟩) (Nat.le_succ _) (.int .i64 a)).setCell (p := ⟨w.heap.size + 1, 0, none⟩) (Nat.le_succ _) (.int .i64 c)).setCell (p := ⟨w.heap.size + 1, 1, none⟩) (Nat.le_succ _) (.int .i64 a)).drew)
    have HS := Lib.hid (show HeaSpec n l ws m u c a from .inl ⟨Hfs.out, hc⟩)
    clear hc h2
    go_wp2
    go_region
    all_goals
      have e0 := HH.out.cell (show 0 < 2 by omega)
      have e1 := HH.out.cell (show 1 < 2 by omega)
      go_wp2
      exact bodyPost_ret (v := .tuple #[.int .i64 0, .slice none 0 0, .agg #[.int .i64 c, .int .i64 a]]) (by simp [results, Tryd.results21, go_sem, e0, e1]) rfl (HeaPost.bad HS.out Hc.out HB.out)
end Go.Proofs.YtnmljgjegodkaaaDoor
