/- arborref.Tutte: the walk. -/
import Derived.Test.YtmhcnekbfngafaaRTutP
import Derived.Test.YtmhcnekbfngafaaRowsOwn
namespace Go.Proofs.Ytmhcnekbfngafaa
open Go Go.RowKit

/-- A table comes back. -/
def TabPost (T : Nat → Nat → Int) (w : World) (e : Ending) (w' : World) : Prop := ∃ v R C, e = .returned v ∧ IsDims T R C ∧ IsRows w' v (tabL T R C) ∧ Below w.heap.size w w'

theorem run_slice_arr (b o C : Nat) (hC : C ≤ 14) (w : World) : (Instr.sliceAt 78 (.pointer (some ⟨b, o, none⟩)) none (some (.int .i64 (C : Int))) none).run Try.prog w = .ok (.slice (some ⟨b, o, none⟩) C 14) w := by
  obtain ⟨i3, hi3, hz3, hsz3, hby3⟩ := info_parts info3
  have hb : (Instr.sliceBound (.int .i64 (C : Int)) 14 .sliceAlen).run Try.prog w = .ok C w := run_sliceBound w .i64 C 14 .sliceAlen (by omega) (by omega)
  simp [Instr.sliceAt, run_underlying Try.underlying78, Instr.sureAddr, Instr.sliceBounds, sizeOf, typeInfo, hi3, hsz3, Addr.add, hb]
theorem row_ints {w : World} {Tb C a : Nat} {T : Nat → Nat → Int} (h : w.rowIs Tb 79 182 (ri fun p => T (p / 14) (p % 14))) (ha : a < 13) (hC : C ≤ 14) : IsInts w (.slice (some ⟨Tb, a * 14, none⟩) C 14) ((List.range C).map fun j => T a j) := by
  have hl : ((List.range C).map fun j => T a j).length = C := by simp
  refine ⟨some ⟨Tb, a * 14, none⟩, 14, Tb, a * 14, by rw [hl], by rw [hl]; exact hC, by omega, fun _ => rfl, by simp, fun j hj => ?_⟩
  rw [hl] at hj
  have := h.cell (show a * 14 + j < 182 by omega)
  rw [this]
  simp only [ri, show (a * 14 + j) / 14 = a by omega, show (a * 14 + j) % 14 = j by omega]
  simp [List.getD, hj]
theorem zero79 : Try.zeroCells79 = madeCells #[.int .i64 0] 182 := by kernel_rfl
theorem row79 (w : World) : (w.alloc (Obj.cells Try.zeroCells79 79)).rowIs w.heap.size 79 182 (ri fun _ => 0) := by
  rw [zero79]
  exact (World.rowIs_made w (.int .i64 0) 182 79).congr fun _ _ => rfl

set_option maxHeartbeats 6400000 in
set_option maxRecDepth 100000 in
theorem rtutte_any {N : Nat} {l : List (Int × Int)} (hg : GoodGraph (N : Int) l) (hN : N ≤ 12) (hl : l.length ≤ 9) (sv : Value) (w : World) (h : IsEdges w sv l) :
    Calls Try.prog 17 #[.agg #[.int .i64 (N : Int), sv]] w (TabPost (tutN id (elN l)) w) := by
  obtain ⟨ad, cap, rfl⟩ : ∃ ad cap, sv = .slice ad l.length cap := by
    obtain ⟨a, c, _, _, rfl, _⟩ := h
    exact ⟨a, c, rfl⟩
  have hE := hg.ends
  have c0 := two_cells w (.int .i64 (N : Int)) (.slice ad l.length cap) 24
  have cn := c0.1
  have cs := c0.2
  have hb1 := below1 w (Obj.cells #[.int .i64 (N : Int), .slice ad l.length cap] 24)
  have He0 := Lib.hid h; have He := Lib.hid (h.below hb1); have Hg := Lib.hid hg; have HE := Lib.hid hE; have Hb1 := Lib.hid hb1
  clear h hg hE hb1 c0
  obtain ⟨M, hM⟩ : ∃ M : Nat, M = 2 ^ l.length := ⟨_, rfl⟩
  have e0 := op_shl (show l.length < 62 by omega)
  rw [show pow2 l.length = M from hM.symm] at e0
  have hM1 : M ≤ 512 := by rw [hM]; exact Nat.pow_le_pow_right (by decide) hl
  have HM := Lib.hid hM
  clear hM
  go_enter Try.func17, Try.ntmps17
  go_upto_region 2 with fail
  generalize w.alloc (Obj.cells #[.int .i64 (N : Int), .slice ad l.length cap] 24) = w1 at *
  go_upto_region 3 with fail
  have R2 := Lib.hid (row79 w1)
  have B2 := Lib.hid (upp0 Hb1.out (below1 w1 (Obj.cells Try.zeroCells79 79)))
  have b12 := below1 w1 (Obj.cells Try.zeroCells79 79)
  have cn := below_cell b12 cn
  have cs := below_cell b12 cs
  have He := Lib.hid (He.out.below b12)
  have hwT : w.heap.size < w1.heap.size := World.block_lt_of_cell? _ _ (by assumption : w1.cell? ⟨w.heap.size, 0, none⟩ = some (.int .i64 (N : Int)))
  clear b12
  generalize w1.alloc (Obj.cells Try.zeroCells79 79) = w2 at *
  generalize w1.heap.size = Tb at *
  go_wp2_with fail
  refine (gridOf_any l N _ w2 He.out (by omega) (fun j hj => ⟨(Hg.out.fine j hj).1, (Hg.out.fine j hj).2.1⟩)).mono ?_
  rintro e w3 ⟨v3, rfl, hg3, hb3⟩
  go_wp2_with fail
  refine (parts_any N (adj l) (fun _ => false) _ _ w3 (by omega) ⟨_, hg3⟩ (HasShut.nil w3)).mono ?_
  rintro e w4 ⟨rfl, hb4⟩
  obtain ⟨wh, hwh⟩ : ∃ wh : Nat, wh = partsF N (adj l) (fun _ => false) := ⟨_, rfl⟩
  rw [← hwh]
  have Hwh := Lib.hid (hwh.trans (parts_all HE.out))
  have hbb := upp0 hb3 hb4
  have cn := below_cell hbb cn
  have cs := below_cell hbb cs
  have R4 := Lib.hid (R2.out.of_block (hbb.block _ R2.out.lt))
  have B4 := Lib.hid (upp0 B2.out hbb)
  have He := Lib.hid (He.out.below hbb)
  clear hg3 hb3 hb4 hbb hwh
  have hk12 : ∀ s, kN N (foldN id (selB (elN l) s)) - kN N (foldN id (elN l)) ≤ 12 := fun s => by have := k_le N (foldN id (selB (elN l) s)); omega
  have hm12 : ∀ s, (selB (elN l) s).length + kN N (foldN id (selB (elN l) s)) - N ≤ 12 := fun s => by
    have h1 := k_le N (foldN id (selB (elN l) s)); have h2 := (sel_sub (elN l) s).length_le; rw [elN_length] at h2; omega
  have Hk12 := Lib.hid hk12; have Hm12 := Lib.hid hm12
  have Hnd := Lib.hid (k_nodes HE.out.el); have Hkw := Lib.hid (k_whole HE.out.el)
  have Hsl := Lib.hid (fun s => (by have h2 := (sel_sub (elN l) s).length_le; rw [elN_length] at h2; exact h2 : (selB (elN l) s).length ≤ l.length))
  clear hk12 hm12
  have Cn := Lib.hid (And.intro cn cs)
  have hb4 : Tb < w4.heap.size := R4.out.lt
  go_wp2
  clear cn cs
  go_loopg [6] M (fun g s6 wr => ∃ s : Nat, s ≤ M ∧ g = M - s ∧ s6 = .int .i64 (s : Int) ∧ wr.rowIs Tb 79 182 (ri fun p => sumN N (elN l) s (p / 14) (p % 14)) ∧ Below Tb w4 wr)
  case atStart => exact ⟨0, Nat.zero_le _, rfl, rfl, row_ri R4.out fun p _ => rfl, Below.refl _ _⟩
  case round =>
    obtain ⟨s, hs, rfl, rfl, hr, hb⟩ := hrel
    have Hr := Lib.hid hr; have Hb := Lib.hid hb
    have cn := below_cell' hb (show w.heap.size < Tb from hwT) Cn.out.1
    have cs := below_cell' hb (show w.heap.size < Tb from hwT) Cn.out.2
    have Bw := Lib.hid (B4.out.trans (hb.mono (show w.heap.size ≤ Tb by omega)))
    have lT := hr.lt
    clear hr hb
    by_cases hsM : s < M
    · have hfew : Few s := by show s < 4611686018427387904; omega
      obtain ⟨w5, rfl⟩ : ∃ w5 : World, w5 = wr := ⟨_, rfl⟩
      go_wp2
      go_loopg [7, 8] l.length (fun g s7 s8 wx => ∃ i : Nat, i ≤ l.length ∧ g = l.length - i ∧ s8 = .int .i64 (i : Int) ∧ OwnE wx w5.heap.size s7 (selE l s i) ∧ Below w5.heap.size w5 wx)
      case atStart => exact ⟨0, Nat.zero_le _, rfl, rfl, OwnE.nil _ _, Below.refl _ _⟩
      case round =>
        obtain ⟨i, hi, rfl, rfl, ho, hb3⟩ := hrel
        have hb4' := Bw.out.trans (hb3.mono Bw.out.size)
        have cs := below_cell hb3 cs
        have cn2 := below_cell hb3 cn
        have hle := selE_len l s i
        obtain ⟨va, vc, rfl⟩ := ho.form
        have Ho := Lib.hid ho; have Hb4 := Lib.hid hb4'; have Hb3 := Lib.hid hb3
        by_cases hil : i < l.length
        · obtain ⟨a9, c9, b9, o9, e9, hcap9, hmax9, hadr9, -, hcell9⟩ := He0.out
          simp only [Value.slice.injEq, true_and] at e9
          obtain ⟨rfl, rfl⟩ := e9
          obtain rfl := hadr9 (by omega)
          obtain ⟨x, y, He9, cx, cy⟩ := edges_at hcell9 hb4' hil
          have e3 := op_shr s i
          have hszB := hb3.size
          clear ho hb4' hb3 hcell9 hadr9
          cases hbit : s.testBit i with
          | false =>
            have e4 : bits .and .i64 (shr s i : Int) 1 = 0 := by rw [op_bit hfew, bit_zero hbit]; rfl
            have Hstep := Lib.hid (show selE l s (i + 1) = selE l s i by rw [selE, hbit]; simp)
            clear hbit
            generalize selE l s i = Lc at *
            go_wp2
            go_roundg (l.length - (i + 1))
            case measure => go_light; omega
            case rel => exact ⟨i + 1, by omega, rfl, by go_num, by rw [Hstep.out]; exact Ho.out, Hb3.out⟩
          | true =>
            have e4 : bits .and .i64 (shr s i : Int) 1 = 1 := by rw [op_bit hfew, bit_one hbit]; rfl
            have Hstep := Lib.hid (show selE l s (i + 1) = selE l s i ++ [l.getD i (0, 0)] by rw [selE, hbit]; rfl)
            clear hbit
            generalize selE l s i = Lc at *
            go_wp2_with (at_builtin; refine wpList_append_edges rfl (.tmp 42) (.tmp 48) 22 rfl w5.heap.size Try.underlying22 info2 _ Lc rfl (Ho.out.below (below1 _ (Obj.cells #[.int .i64 x, .int .i64 y] 61))) _ [(x, y)] rfl (edge_one _ _ _ _ rfl) _ rfl (by simp; omega) (by simp; omega) ?_; intro a5 c5 w6 ho5 hg5; have Hn6 := Lib.hid ho5; have Hbn := Lib.hid ((Hb3.out.trans ((below1 wr (Obj.cells #[.int .i64 x, .int .i64 y] 61)).mono Hb3.out.size)).grown hg5 (by simp; omega) (fun g e => (World.ownsRow.lt Ho.out g e).1)); clear hg5 ho5)
            go_roundg (l.length - (i + 1))
            case measure => go_light; omega
            case rel => exact ⟨i + 1, by omega, rfl, by go_num, by
              have h9 := Hn6.out
              rw [Hstep.out, He9.out]
              simpa only [List.length_append, List.length_cons, List.length_nil, Nat.zero_add] using h9, Hbn.out⟩
        · obtain rfl : l.length = i := by omega
          have Hsz := Lib.hid (selE_size (l := l) s)
          have Hps := Lib.hid (parts_sel HE.out s)
          have hok := selE_ok Hg.out s
          have hed := ho.edges
          have Hok := Lib.hid hok; have Hed := Lib.hid hed
          clear ho hb4' hb3 hok hed
          generalize selE l s l.length = L at *
          go_wp2_with fail
          refine (gridOf_any L N _ wr Hed.out (by omega) Hok.out).mono ?_
          rintro e w6 ⟨v6, rfl, hg6, hb6⟩
          go_wp2_with fail
          refine (parts_any N (adj L) (fun _ => false) _ _ w6 (by omega) ⟨_, hg6⟩ (HasShut.nil w6)).mono ?_
          rintro e w7 ⟨rfl, hb7⟩
          obtain ⟨kk, hkk⟩ : ∃ kk : Nat, kk = partsF N (adj L) (fun _ => false) := ⟨_, rfl⟩
          rw [← hkk] at Hps ⊢
          have hbb := upp0 hb6 hb7
          have B7 := Lib.hid (Hb3.out.trans (hbb.mono Hb3.out.size))
          obtain ⟨nx, hnx⟩ : ∃ nx, nx = kk - wh := ⟨_, rfl⟩
          obtain ⟨ny, hny⟩ : ∃ ny, ny = L.length + kk - N := ⟨_, rfl⟩
          have f1 : wh ≤ kk := by have := Hkw.out s; rw [← Hwh.out, ← Hps.out] at this; exact this
          have f2 : N ≤ L.length + kk := by have := Hnd.out s; rw [← Hps.out, ← Hsz.out] at this; exact this
          have f3 : nx ≤ 12 := by have := Hk12.out s; rw [← Hwh.out, ← Hps.out] at this; omega
          have f4 : ny ≤ 12 := by have := Hm12.out s; rw [← Hps.out, ← Hsz.out] at this; omega
          have f5 : kk ≤ 12 := by have := k_le N (foldN id (selB (elN l) s)); rw [← Hps.out] at this; omega
          have f6 : L.length ≤ 9 := by omega
          have Href := Lib.hid (show ∀ i j, refN N (elN l) s i j = pw nx i * pw ny j from fun i j => by
            unfold refN
            rw [hnx, hny, Hps.out, Hwh.out, Hsz.out])
          have x1 : IntKind.i64.wrap ((kk : Int) - (wh : Int)) = (nx : Int) := by rw [show (kk : Int) - wh = (nx : Int) by omega]; exact wrap_mid (by omega) (by omega)
          obtain ⟨kl, hkl⟩ : ∃ kl : Nat, kl = kk + L.length := ⟨_, rfl⟩
          have x2 : IntKind.i64.wrap ((kk : Int) + (L.length : Int)) = (kl : Int) := by rw [show (kk : Int) + L.length = (kl : Int) by omega]; exact wrap_mid (by omega) (by omega)
          have x3 : IntKind.i64.wrap ((kl : Int) - (N : Int)) = (ny : Int) := by rw [show (kl : Int) - N = (ny : Int) by omega]; exact wrap_mid (by omega) (by omega)
          clear hg6 hb6 hb7 hnx hny hkk hkl f1 f2
          have cn7 : w7.cell? ⟨w.heap.size, 0, none⟩ = some (.int .i64 (N : Int)) := below_cell hbb cn2
          clear hbb cn2
          have hd7 : Below w7.heap.size w7 w7.drew := (Below.refl _ _).drew
          have cn7' : w7.drew.cell? ⟨w.heap.size, 0, none⟩ = some (.int .i64 (N : Int)) := cn7
          go_upto_region 14 with fail
          go_cut [10, 11] from 56 to 67 (fun s10 s11 wx => ∃ b10 b11 : Nat, s10 = .slice (some ⟨b10, 0, none⟩) (nx + 1) (nx + 1) ∧ s11 = .slice (some ⟨b11, 0, none⟩) (ny + 1) (ny + 1) ∧ wx.rowIs b10 3 (nx + 1) (ri (pw nx)) ∧ wx.rowIs b11 3 (ny + 1) (ri (pw ny)) ∧ w7.heap.size ≤ b10 ∧ w7.heap.size ≤ b11 ∧ Below w7.heap.size w7 wx)
          case first =>
            go_region_held3 (fun w' => w'.cell? ⟨w.heap.size, 0, none⟩ = some (.int .i64 (N : Int)))
              (first | exact cn7' | exact cn8 | exact cn9)
              (first
                | (go_at_call_of 52 (Value.int .i64 (nx : Int)); refine (power_any nx f3 _).mono ?_; rintro e w8 ⟨b10, rfl, hb10, hr10, hb8⟩; have hc8 := hd7.trans (hb8.mono hd7.size); have cn8 := below_cell hc8 cn7)
                | (go_at_call_of 52 (Value.int .i64 (ny : Int)); refine (power_any ny f4 _).mono ?_; rintro e w9 ⟨b11, rfl, hb11, hr11, hb9⟩; have hc9 := hc8.trans (hb9.mono hc8.size); have cn9 := below_cell hc9 cn7))
            all_goals (go_wp2_with fail; go_meet; exact ⟨b10, b11, rfl, rfl, hr10.of_block (hb9.block _ hr10.lt), hr11, Nat.le_trans hd7.size hb10, Nat.le_trans hc8.size hb11, hc9⟩)
          case rest =>
          obtain ⟨b10, b11, rfl, rfl, hr10, hr11, l10, l11, hcw⟩ := hcut
          have hall := B7.out.trans (hcw.mono B7.out.size)
          have hTw := Hr.out.of_block (hall.block _ lT)
          have Hall := Lib.hid (Hb.out.trans (hall.mono (show Tb ≤ w5.heap.size by omega)))
          obtain ⟨S, hS⟩ : ∃ S, S = fun i j => sumN N (elN l) s i j := ⟨_, rfl⟩
          have HT0 := Lib.hid (row_ri hTw (g' := accR S nx ny 0 0) fun p _ => by rw [acc_start, hS])
          have HS := Lib.hid hS
          have Hsb := Lib.hid (show ∀ i j, -16777216 * (s : Int) ≤ S i j ∧ S i j ≤ 16777216 * (s : Int) from fun i j => by rw [hS]; exact sumN_few Hk12.out Hm12.out i j s (by omega))
          have H10 := Lib.hid hr10; have H11 := Lib.hid hr11
          have s7 := B7.out.size
          have n10 : Tb ≠ b10 := by omega
          have n11 : Tb ≠ b11 := by omega
          clear hTw hall hcw hr10 hr11 hS cs cn7 cn7' hd7 x1 x2 x3
          go_wp2
          go_loopg [12] (nx + 1) (fun g s12 wr => ∃ a : Nat, a ≤ nx + 1 ∧ g = nx + 1 - a ∧ s12 = .int .i64 (a : Int) ∧ wr.rowIs Tb 79 182 (ri (accR S nx ny a 0)) ∧ wr.rowIs b10 3 (nx + 1) (ri (pw nx)) ∧ wr.rowIs b11 3 (ny + 1) (ri (pw ny)) ∧ Below Tb w4 wr)
          case atStart => exact ⟨0, Nat.zero_le _, rfl, rfl, HT0.out, H10.out, H11.out, Hall.out⟩
          case round =>
            obtain ⟨a, ha, rfl, rfl, hT, hX, hY, hbT⟩ := hrel
            have HTa := Lib.hid hT; have HX := Lib.hid hX; have HY := Lib.hid hY; have HbT := Lib.hid hbT
            clear hT hX hY hbT
            by_cases hax : a < nx + 1
            · obtain ⟨wy, rfl⟩ : ∃ wy : World, wy = wr := ⟨_, rfl⟩
              have i3 : (a : Int) < (nx : Int) + 1 := by omega
              go_wp2
              go_loopg [13] (ny + 1) (fun g s13 wr => ∃ b : Nat, b ≤ ny + 1 ∧ g = ny + 1 - b ∧ s13 = .int .i64 (b : Int) ∧ wr.rowIs Tb 79 182 (ri (accR S nx ny a b)) ∧ wr.rowIs b10 3 (nx + 1) (ri (pw nx)) ∧ wr.rowIs b11 3 (ny + 1) (ri (pw ny)) ∧ Below Tb w4 wr)
              case atStart => exact ⟨0, Nat.zero_le _, rfl, rfl, HTa.out, HX.out, HY.out, HbT.out⟩
              case round =>
                obtain ⟨b, hb, rfl, rfl, hT, hX, hY, hbT⟩ := hrel
                by_cases hby : b < ny + 1
                · have hab : a * 14 + b < 182 := by omega
                  have t1 : wr.drew.cell? ⟨Tb, a * 14 + b, none⟩ = some (.int .i64 (S a b)) := by
                    have := hT.cell hab
                    simp only [ri] at this
                    rw [acc_at (by omega)] at this
                    exact this
                  have f1 : wr.drew.frozen? ⟨Tb, a * 14 + b, none⟩ = false := hT.frozen _
                  have l1 : Tb < wr.drew.heap.size := hT.lt
                  have t2 : wr.drew.cell? ⟨b10, a, none⟩ = some (.int .i64 (pw nx a)) := hX.cell hax
                  have t3 : wr.drew.cell? ⟨b11, b, none⟩ = some (.int .i64 (pw ny b)) := hY.cell hby
                  have m1 := mul_few (pw_small f3 a) (pw_small f4 b)
                  have m2 := Hsb.out a b
                  have HTn := Lib.hid (row_ri (row_set_ri hT (a * 14 + b) (S a b + pw nx a * pw ny b)) fun p _ => acc_step (by omega) p)
                  have HXn := Lib.hid (hX.setOther (a := ⟨Tb, a * 14 + b, none⟩) (Ne.symm n10) (.int .i64 (S a b + pw nx a * pw ny b)))
                  have HYn := Lib.hid (hY.setOther (a := ⟨Tb, a * 14 + b, none⟩) (Ne.symm n11) (.int .i64 (S a b + pw nx a * pw ny b)))
                  have HBn := Lib.hid ((hbT.drew).setCell (p := ⟨Tb, a * 14 + b, none⟩) (Nat.le_refl _) (.int .i64 (S a b + pw nx a * pw ny b)))
                  have z1 : IntKind.i64.wrap (pw nx a * pw ny b) = pw nx a * pw ny b := wrap_mid (by omega) (by omega)
                  have z2 : IntKind.i64.wrap (S a b + pw nx a * pw ny b) = S a b + pw nx a * pw ny b := wrap_mid (by omega) (by omega)
                  clear hT hX hY hbT m1 m2
                  generalize S a b = c0 at *
                  generalize pw nx a = c1 at *
                  generalize pw ny b = c2 at *
                  have i1 : (a : Int) < 13 := by omega
                  have i2 : (b : Int) < 14 := by omega
                  have i4 : (b : Int) < (ny : Int) + 1 := by omega
                  go_upto_region 21 with fail
                  refine region_tail 17 (by kernel_rfl) (by kernel_rfl) ?_
                  simp only [List.take_succ_cons, List.take_zero, List.drop_succ_cons, List.drop_zero]
                  repeat still_step
                  refine wpStill_nil ?_
                  go_wp2
                  go_roundg (ny + 1 - (b + 1))
                  case measure => go_light; omega
                  case rel => exact ⟨b + 1, by omega, rfl, by go_num, HTn.out, HXn.out, HYn.out, HBn.out⟩
                · obtain rfl : b = ny + 1 := by omega
                  have HTn := Lib.hid (row_ri hT fun p _ => acc_row p)
                  have HXn := Lib.hid hX; have HYn := Lib.hid hY; have HBn := Lib.hid hbT
                  clear hT hX hY hbT
                  go_wp2
                  go_roundg (nx + 1 - (a + 1))
                  case measure => go_light; omega
                  case rel => exact ⟨a + 1, by omega, rfl, by go_num, HTn.out, HXn.out, HYn.out, HBn.out⟩
            · obtain rfl : a = nx + 1 := by omega
              have HTn := Lib.hid (row_ri HTa.out (g' := fun p => sumN N (elN l) (s + 1) (p / 14) (p % 14)) fun p _ => by
                rw [acc_end, HS.out]
                show sumN N (elN l) s (p / 14) (p % 14) + _ = sumN N (elN l) (s + 1) (p / 14) (p % 14)
                unfold sumN
                rw [sumI, Href.out])
              go_wp2
              go_roundg (M - (s + 1))
              case measure => go_light; omega
              case rel => exact ⟨s + 1, by omega, rfl, by go_num, HTn.out, HbT.out⟩
    · obtain rfl : M = s := by omega
      have HTf := Lib.hid (row_ri Hr.out (g' := fun p => tutN id (elN l) (p / 14) (p % 14)) fun p _ => by
        rw [tut_ref HE.out.el, elN_length, ← HM.out]; rfl)
      obtain ⟨T, hT⟩ : ∃ T, T = tutN id (elN l) := ⟨_, rfl⟩
      have Hfar := Lib.hid (show ∀ i j, 12 < i ∨ 12 < j → T i j = 0 from fun i j h => by rw [hT]; exact tut_farl id l i j (by omega))
      rw [← hT] at HTf
      have HTT := Lib.hid hT
      clear hT
      obtain ⟨w5, rfl⟩ : ∃ w5 : World, w5 = wr := ⟨_, rfl⟩
      go_wp2
      go_loopg [14, 15, 16] 13 (fun g s14 s15 s16 wr => ∃ a R C : Nat, a ≤ 13 ∧ g = 13 - a ∧ s16 = .int .i64 (a : Int) ∧ s14 = .int .i64 (R : Int) ∧ s15 = .int .i64 (C : Int) ∧ DimR T a 0 R C ∧ wr = w5)
      case atStart => exact ⟨0, 0, 0, by omega, rfl, rfl, rfl, rfl, DimR.start T, rfl⟩
      case round =>
        obtain ⟨a, R, C, ha, rfl, rfl, rfl, rfl, hd, rfl⟩ := hrel
        have Hd := Lib.hid hd
        have hfw := hd.few
        clear hd
        by_cases ha13 : a < 13
        · have i1 : (a : Int) < 13 := by omega
          obtain ⟨w6, rfl⟩ : ∃ w6 : World, w6 = wr := ⟨_, rfl⟩
          go_wp2
          go_loopg [14, 15, 17] 14 (fun g s14 s15 s17 wr => ∃ b R C : Nat, b ≤ 14 ∧ g = 14 - b ∧ s17 = .int .i64 (b : Int) ∧ s14 = .int .i64 (R : Int) ∧ s15 = .int .i64 (C : Int) ∧ DimR T a b R C ∧ wr = w6)
          case atStart => exact ⟨0, R, C, by omega, rfl, rfl, rfl, rfl, Hd.out, rfl⟩
          case round =>
            obtain ⟨b, R, C, hb, rfl, rfl, rfl, rfl, hd, rfl⟩ := hrel
            have Hd := Lib.hid hd
            have hfw := hd.few
            clear hd
            by_cases hb14 : b < 14
            · have i2 : (b : Int) < 14 := by omega
              have t1 : wr.cell? ⟨Tb, a * 14 + b, none⟩ = some (.int .i64 (T a b)) := by
                have := HTf.out.cell (show a * 14 + b < 182 by omega)
                simp only [ri] at this
                rw [show (a * 14 + b) / 14 = a by omega, show (a * 14 + b) % 14 = b by omega] at this
                exact this
              by_cases h0 : T a b = 0
              · rw [h0] at t1
                have H0 := Lib.hid h0
                clear h0
                go_wp2
                go_roundg (14 - (b + 1))
                case measure => go_light; omega
                case rel => exact ⟨b + 1, R, C, by omega, rfl, by go_num, rfl, rfl, Hd.out.skip H0.out, rfl⟩
              · have q : (T a b != 0) = true := by simp [h0]
                have H0 := Lib.hid h0
                clear h0
                have Hm := Lib.hid (Hd.out.more H0.out ha13 hb14)
                generalize T a b = c at *
                by_cases h1 : R < a + 1
                · have q1 : (R : Int) < (a : Int) + 1 := by omega
                  by_cases h2 : C < b + 1
                  · have q2 : (C : Int) < (b : Int) + 1 := by omega
                    go_wp2
                    go_roundg (14 - (b + 1))
                    case measure => go_light; omega
                    case rel => exact ⟨b + 1, max R (a + 1), max C (b + 1), by omega, rfl, by go_num, by congr 1; omega, by congr 1; omega, Hm.out, rfl⟩
                  · have q2 : ¬ (C : Int) < (b : Int) + 1 := by omega
                    go_wp2
                    go_roundg (14 - (b + 1))
                    case measure => go_light; omega
                    case rel => exact ⟨b + 1, max R (a + 1), max C (b + 1), by omega, rfl, by go_num, by congr 1; omega, by congr 1; omega, Hm.out, rfl⟩
                · have q1 : ¬ (R : Int) < (a : Int) + 1 := by omega
                  by_cases h2 : C < b + 1
                  · have q2 : (C : Int) < (b : Int) + 1 := by omega
                    go_wp2
                    go_roundg (14 - (b + 1))
                    case measure => go_light; omega
                    case rel => exact ⟨b + 1, max R (a + 1), max C (b + 1), by omega, rfl, by go_num, by congr 1; omega, by congr 1; omega, Hm.out, rfl⟩
                  · have q2 : ¬ (C : Int) < (b : Int) + 1 := by omega
                    go_wp2
                    go_roundg (14 - (b + 1))
                    case measure => go_light; omega
                    case rel => exact ⟨b + 1, max R (a + 1), max C (b + 1), by omega, rfl, by go_num, by congr 1; omega, by congr 1; omega, Hm.out, rfl⟩
            · obtain rfl : b = 14 := by omega
              go_wp2
              go_roundg (13 - (a + 1))
              case measure => go_light; omega
              case rel => exact ⟨a + 1, R, C, by omega, rfl, by go_num, rfl, rfl, Hd.out.line, rfl⟩
        · obtain rfl : a = 13 := by omega
          have Hdims := Lib.hid (Hd.out.dims Hfar.out)
          obtain ⟨m, hm⟩ : ∃ m, m = tabL T R C := ⟨_, rfl⟩
          have hml : m.length = R := by rw [hm]; simp [tabL]
          have Hmk := Lib.hid (show ∀ k, k < R → m.getD k [] = (List.range C).map fun j => T k j from fun k hk => by rw [hm]; simp [tabL, List.getD, hk])
          have Hm := Lib.hid hm
          have hsl := fun k => run_slice_arr Tb (k * 14) C (by omega)
          have Bend := Bw.out
          clear hm
          obtain ⟨w7, rfl⟩ : ∃ w7 : World, w7 = wr := ⟨_, rfl⟩
          have HBend := Lib.hid Bend
          clear Bend
          go_wp2
          go_loopg [18, 19] R (fun g s18 s19 wr => ∃ k : Nat, k ≤ R ∧ g = R - k ∧ s19 = .int .i64 (k : Int) ∧ Copied w7.heap.size wr s18 k m ∧ Below w7.heap.size w7 wr)
          case atStart => exact ⟨0, Nat.zero_le _, rfl, rfl, ⟨[], World.ownsRow_nil _ _ _ _, fun _ h => absurd h (Nat.not_lt_zero _)⟩, Below.refl _ _⟩
          case round =>
            obtain ⟨k, hk, rfl, rfl, hcp, hb⟩ := hrel
            have Hb := Lib.hid hb
            by_cases hkR : k < R
            · have hri := row_ints (HTf.out.of_block (hb.block _ (show Tb < w7.heap.size by exact HTf.out.lt))) (show k < 13 by omega) (show C ≤ 14 by omega)
              have hic := hri.cells
              rw [← Hmk.out k hkR] at hic
              have hlen : (m.getD k []).length = C := by rw [Hmk.out k hkR]; simp
              rw [hlen] at hic
              have Hic := Lib.hid hic; have Hlen := Lib.hid hlen
              obtain ⟨vals, hown, hv⟩ := hcp
              obtain ⟨va', vc', rfl⟩ := ownsRow_form hown
              have hsz := hb.size
              have Hv := Lib.hid hv; have Hown := Lib.hid hown
              have i1 : (k : Int) < 13 := by omega
              clear hri hic hlen hv hown hb
              go_wp2_with (first
                | (at_builtin; refine wpList_append_has rfl (.const (.slice none 0 0)) (.tmp 132) 39 rfl w7.heap.size 3 (.int .i64 0) 8 Try.underlying39 info3 rfl _ 0 [] rfl (World.ownsRow_nil _ _ _ _) _ C ((m.getD k []).map (Value.int .i64)) rfl Hic.out (by omega) (by omega) (by omega) ?_; intro a1 c1 w8 hown1 hg1; simp only [Nat.zero_add, List.nil_append] at hown1; have hsz1 := hg1.size; have Hown1 := Lib.hid hown1; have Hg1 := Lib.hid hg1; clear hown1 hg1)
                | (at_builtin; refine wpList_append_has rfl (.tmp 128) (.tmp 134) 30 rfl w7.heap.size 39 (.slice none 0 0) 24 Try.underlying30 infoS rfl _ k vals rfl ((grown_none Hown.out Hg1.out).alloc _) _ 1 [.slice a1 C c1] rfl (HasCells.one _ _ _ rfl) (by omega) (by omega) (by simp; omega) ?_; intro a2 c2 w9 hown2 hg2; have Hown2 := Lib.hid hown2; have Hg2 := Lib.hid hg2; clear hown2 hg2))
              have HC := Lib.hid (Copied.more (m := m) Hown.out Hv.out Hg1.out (by rw [Hlen.out]; exact Hown1.out) Hown2.out Hg2.out)
              have hb1 := (Hb.out.grown Hg1.out (by omega) (fun _ h => by cases h)).alloc (by omega) (Obj.cells #[Value.slice a1 C c1] 39)
              have Hb2 := Lib.hid (hb1.grown Hg2.out hb1.size (fun g hg => (Hown.out.lt g hg).1))
              clear hb1
              go_roundg (R - (k + 1))
              case measure => go_light; omega
              case rel => exact ⟨k + 1, by omega, rfl, by go_num, HC.out, Hb2.out⟩
            · obtain rfl : R = k := by omega
              have hrows := Copied.rows (m := m) (by rw [hml]; exact hcp)
              rw [Hm.out] at hrows
              have Hrows := Lib.hid hrows
              clear hrows hcp hb
              go_wp2
              go_ret
              exact ⟨_, R, C, rfl, by rw [← HTT.out]; exact Hdims.out, by rw [← HTT.out]; exact Hrows.out, HBend.out.trans (Hb.out.mono HBend.out.size)⟩

end Go.Proofs.Ytmhcnekbfngafaa
