/- arborlaw.WidthHeaviest answers true: the walk. -/
import Derived.Test.YtnmljgjegodkaaaDoorWHvP
import Derived.Test.YtnmljgjegodkaaaDoorPX
import Derived.Test.YtnmljgjegodkaaaDoorKeptS
import Derived.Test.YtnmljgjegodkaaaDoorPQ
import Derived.Test.YtnmljgjegodkaaaDoorRising
import Derived.Deep.RegionLaw
import Derived.Deep.CutBlock
namespace Go.Proofs.YtnmljgjegodkaaaDoor
open Go Go.RowKit

theorem lists_sameH {m : List (List Int)} (s t : Value) (w : World) (h : IsRows w s m) (h' : IsRows w t m) :
    Calls Tryd.prog 18 #[s, t] w fun e w' => e = .returned (.bool true) ∧ Drew w w' := by
  have := lists_any m m s t w h h'
  rwa [decide_eq_true rfl] at this

set_option maxHeartbeats 6400000 in
set_option maxRecDepth 100000 in
theorem wheavyLaw_any (n : Int) (l : List (Int × Int)) (ws : List Int) (m : List (List Int)) (u : List Int) (hl : l.length * 16 ≤ 140737488351232) (hws : ws.length * 8 ≤ 140737488351232) (hm1 : m.length * 24 ≤ 140737488351232) (hm2 : ∀ j, j < m.length → (m.getD j []).length * 8 ≤ 140737488351232) (hul : u.length * 8 ≤ 140737488351232)
    (sv wv bv uv : Value) (w : World) (h : IsEdges w sv l) (hw : IsInts w wv ws) (hm : IsRows w bv m) (hu : IsInts w uv u) (hT : TabAt 1 Lib.deBruijn64tab w) :
    Calls Tryd.prog 5 #[.agg #[.int .i64 n, sv], wv, bv, uv] w fun e w' => e = .returned (.bool true) ∧ Below w.heap.size w w' := by
  have HT := Lib.hid hT
  have Hm2 := Lib.hid hm2
  clear hT hm2
  obtain ⟨ad, cap, rfl⟩ := h.form
  obtain ⟨ab, cb, rfl⟩ : ∃ ab cb, bv = .slice ab m.length cb := by
    obtain ⟨a, c, _, _, rfl, _⟩ := hm
    exact ⟨a, c, rfl⟩
  obtain ⟨au, cu, rfl⟩ : ∃ au cu, uv = .slice au u.length cu := by
    obtain ⟨a, c, _, _, rfl, _⟩ := hu
    exact ⟨a, c, rfl⟩
  obtain ⟨aw, cw, rfl⟩ : ∃ aw cw, wv = .slice aw ws.length cw := by
    obtain ⟨a, c, _, _, rfl, _⟩ := hw
    exact ⟨a, c, rfl⟩
  have hb1 := below1 w (Obj.cells #[.int .i64 n, .slice ad l.length cap] 24)
  have c0 := two_cells w (.int .i64 n) (.slice ad l.length cap) 24
  have cn := c0.1
  have cs := c0.2
  have he := h.below hb1
  have Hm := Lib.hid (hm.below hb1); have Hu := Lib.hid (hu.below hb1); have Hw := Lib.hid (hw.below hb1)
  clear c0 h hm hu hw
  go_enter Tryd.func5, Tryd.ntmps5
  go_upto_region 1 with fail
  generalize w.alloc (Obj.cells #[.int .i64 n, .slice ad l.length cap] 24) = w1 at *
  have Cn := Lib.hid (And.intro cn cs); have He := Lib.hid he; have Hb1 := Lib.hid hb1
  clear he hb1
  go_wp2_with fail
  refine (own_any l n (.slice ad l.length cap) _ He.out hl).mono ?_
  rintro e w2 ⟨v2, rfl, ho2, hb2⟩
  obtain ⟨a2, c2, rfl⟩ := ho2.form
  have Ho2 := Lib.hid ho2.edges; have Hb2 := Lib.hid hb2
  have Hm2' := Lib.hid (Hm.out.below hb2)
  clear cn cs ho2 hb2
  go_wp2_with fail
  refine (rows_any m _ w2 Hm2'.out hm1 Hm2.out).mono ?_
  rintro e w3 ⟨rv, rfl, hr3, hb3⟩
  obtain ⟨a3, c3, rfl⟩ : ∃ a c, rv = .slice a m.length c := by
    obtain ⟨a, c, _, _, rfl, _⟩ := hr3
    exact ⟨a, c, rfl⟩
  have hb4 := below1 w3 (Obj.cells #[.int .i64 n, .slice a2 l.length c2] 24)
  have hb14 := upc (upc Hb2.out hb3) hb4
  have o0 := two_cells w3 (.int .i64 n) (.slice a2 l.length c2) 24
  have E4 := Lib.hid (show HB w (w3.alloc (Obj.cells #[.int .i64 n, .slice a2 l.length c2] 24)) n (.slice ad l.length cap) (.slice a2 l.length c2) l w3.heap.size m (.slice ab m.length cb) (.slice a3 m.length c3) ws (.slice aw ws.length cw) u (.slice au u.length cu) from
    ⟨⟨Hb1.out.trans (hb14.mono Hb1.out.size), below_cell hb14 Cn.out.1, below_cell hb14 Cn.out.2, o0.1, o0.2, He.out.below hb14, Ho2.out.below (upc hb3 hb4)⟩, Hm.out.below hb14, hr3.below hb4, Hw.out.below hb14, Hu.out.below hb14⟩)
  clear hr3 hb3 hb4 hb14 o0 Hm2' Hb2 Ho2 Hb1 He Cn Hu Hm Hw
  go_upto_region 2 with fail
  generalize w3.alloc (Obj.cells #[.int .i64 n, .slice a2 l.length c2] 24) = w4 at *
  generalize w3.heap.size = B at *
  have cn := E4.out.lb.cn
  have cs := E4.out.lb.cs
  go_wp2_with fail
  refine (fitsFault_any n l m u _ _ _ w4 E4.out.lb.he E4.out.hm E4.out.hu).mono ?_
  rintro e w6 ⟨c, a, hfs, rfl, hb6⟩
  have HS1 := Lib.hid (Stg.start (ws := ws) hfs)
  have E6 := Lib.hid (E4.out.below hb6)
  have H7 := Lib.hid (show HvW w6 (w6.alloc (Obj.cells #[.int .i64 c, .int .i64 a] 27)) c a from ⟨FV.new w6 c a, below1 _ _⟩)
  clear hfs hb6 cn cs E4
  go_upto_region 3 with fail
  generalize w6.alloc (Obj.cells #[.int .i64 c, .int .i64 a] 27) = w7 at *
  -- are there as many weights as nodes
  have E7 := Lib.hid (E6.out.below H7.out.hb)
  have cn := E7.out.lb.cn
  obtain ⟨f0, f1, d0, d1, lF⟩ := H7.out.fv.facts
  obtain ⟨t1, ht1⟩ : ∃ t : Bool, t = true ↔ c = 0 ∧ (ws.length : Int) ≠ n := by
    by_cases h : c = 0 ∧ (ws.length : Int) ≠ n
    · exact ⟨true, fun _ => h, fun _ => rfl⟩
    · exact ⟨false, fun k => (by cases k), fun k => absurd k h⟩
  have Ht1 := Lib.hid ht1
  clear ht1
  go_cut [38] from 29 to 38 (fun s38 wx => s38 = .bool t1 ∧ w7 = wx)
  case first =>
    by_cases hc : c = 0
    · have hcb : (c == 0) = true := by simp [hc]
      by_cases hn : (ws.length : Int) = n
      · have e : Hid (t1 = false) := Lib.hid (by cases t1 with | false => rfl | true => exact absurd hn (Ht1.out.1 rfl).2)
        have hnb : ((ws.length : Int) != n) = false := by simp [hn]
        clear hc hn
        go_wp2
        go_meet
        exact ⟨by rw [e.out], rfl⟩
      · have e : Hid (t1 = true) := Lib.hid (Ht1.out.2 ⟨hc, hn⟩)
        have hnb : ((ws.length : Int) != n) = true := by simp [hn]
        clear hc hn
        go_wp2
        go_meet
        exact ⟨by rw [e.out], rfl⟩
    · have e : Hid (t1 = false) := Lib.hid (by cases t1 with | false => rfl | true => exact absurd (Ht1.out.1 rfl).1 hc)
      have hcb : (c == 0) = false := by simp [hc]
      clear hc
      go_wp2
      go_meet
      exact ⟨by rw [e.out], rfl⟩
  case rest =>
  obtain ⟨rfl, rfl⟩ := hcut
  go_upto_if 38 with fail
  go_cut [] from 39 to 39 (fun wx => ∃ c a, Stg n l ws m u (WtX n l ws m u 0) c a ∧ HvW w6 wx c a)
  case first =>
    cases t1 with
    | true =>
      have HS2 := Lib.hid (show Stg n l ws m u (WtX n l ws m u 0) 6 1 from by
        obtain ⟨h1, h2⟩ := Ht1.out.1 rfl
        rcases HS1.out with ⟨_, h⟩ | ⟨_, _, h⟩
        · exact absurd h1 h
        · exact .inl ⟨stg_size h h2, by decide⟩)
      go_wp2_with (go_at_call 20; refine (F_any _ _ _).mono ?_; rintro e wf ⟨rfl, rfl⟩)
      go_meet
      exact ⟨6, 1, HS2.out, H7.out.put 6 1 _⟩
    | false =>
      have HS2 := Lib.hid (show Stg n l ws m u (WtX n l ws m u 0) c a from by
        rcases HS1.out with h | ⟨h1, h2, h3⟩
        · exact .inl h
        · refine .inr ⟨h1, h2, h3, ?_, fun j hj => absurd hj (Nat.not_lt_zero _)⟩
          by_cases hn : (ws.length : Int) = n
          · exact hn
          · have := Ht1.out.2 ⟨h1, hn⟩; cases this)
      go_wp2
      go_meet
      exact ⟨c, a, HS2.out, H7.out⟩
  case rest =>
  obtain ⟨c, a, hS2, hW2⟩ := hcut
  have HS2 := Lib.hid hS2; have HW2 := Lib.hid hW2
  clear HS1 H7 E7 Ht1 f0 f1 d0 d1 lF cn hS2 hW2
  obtain ⟨w8, rfl⟩ : ∃ w8 : World, w8 = wc := ⟨_, rfl⟩
  -- the weights
  go_upto_block 0 with fail
  go_cut [] from 40 to 64 (fun wx => ∃ c a, Stg n l ws m u (WtX n l ws m u ws.length) c a ∧ HvW w6 wx c a)
  case first =>
    go_wp2_with fail
    go_loopg [12] (ws.length + 1) (fun g s12 wx => ∃ (i : Nat) (c a : Int), i ≤ ws.length ∧ g = ws.length + 1 - i ∧ s12 = .int .i64 (i : Int) ∧ Stg n l ws m u (WtX n l ws m u i) c a ∧ HvW w6 wx c a)
    case atStart => exact ⟨0, c, a, Nat.zero_le _, rfl, rfl, HS2.out, HW2.out⟩
    case round =>
      clear HS2 HW2
      obtain ⟨i, c, a, hi, rfl, rfl, hst, hwv⟩ := hrel
      have Hst := Lib.hid hst; have Hwv := Lib.hid hwv
      have E8 := Lib.hid (E6.out.below hwv.hb)
      obtain ⟨f0, f1, d0, d1, lF⟩ := hwv.fv.facts
      clear hst hwv
      obtain ⟨w9, rfl⟩ : ∃ w9 : World, w9 = wr := ⟨_, rfl⟩
      by_cases hil : i < ws.length
      · by_cases hc : c = 0
        · subst hc
          have hx0 : WtX n l ws m u i ∧ a = 0 := by
            rcases Hst.out with ⟨_, h⟩ | ⟨_, h2, h⟩
            · exact absurd rfl h
            · exact ⟨h, h2⟩
          have Hx0 := Lib.hid hx0
          obtain ⟨b4, o4, rfl, cx⟩ := E8.out.hw.atF hil
          obtain ⟨y, hy⟩ : ∃ y, ws.getD i 0 = y := ⟨_, rfl⟩
          have Hy := Lib.hid hy
          rw [hy] at cx
          clear hx0 hy
          by_cases hy0 : y < -1000000
          · have HS3 := Lib.hid (show Stg n l ws m u (WtX n l ws m u (i + 1)) 3 (i : Int) from .inl ⟨stg_wt Hx0.out.1 hil (by rw [Hy.out]; exact fun h => by have := h.1; omega), by decide⟩)
            go_wp2_with (go_at_call 20; refine (F_any _ _ _).mono ?_; rintro e wf ⟨rfl, rfl⟩)
            go_roundg (ws.length + 1 - (i + 1))
            case measure => go_light; omega
            case rel => exact ⟨i + 1, 3, (i : Int), by omega, rfl, by go_num, HS3.out, Hwv.out.put 3 (i : Int) _⟩
          · by_cases hy1 : 1000000 < y
            · have HS3 := Lib.hid (show Stg n l ws m u (WtX n l ws m u (i + 1)) 3 (i : Int) from .inl ⟨stg_wt Hx0.out.1 hil (by rw [Hy.out]; exact fun h => by have := h.2; omega), by decide⟩)
              go_wp2_with (go_at_call 20; refine (F_any _ _ _).mono ?_; rintro e wf ⟨rfl, rfl⟩)
              go_roundg (ws.length + 1 - (i + 1))
              case measure => go_light; omega
              case rel => exact ⟨i + 1, 3, (i : Int), by omega, rfl, by go_num, HS3.out, Hwv.out.put 3 (i : Int) _⟩
            · have HS3 := Lib.hid (show Stg n l ws m u (WtX n l ws m u (i + 1)) 0 a from .inr ⟨rfl, Hx0.out.2, Hx0.out.1.1, Hx0.out.1.2.1, fun j hj => by
                by_cases e : j = i
                · subst e; rw [Hy.out]; exact ⟨by omega, by omega⟩
                · exact Hx0.out.1.2.2 j (by omega)⟩)
              go_wp2
              go_roundg (ws.length + 1 - (i + 1))
              case measure => go_light; omega
              case rel => exact ⟨i + 1, 0, a, by omega, rfl, by go_num, HS3.out, Hwv.out⟩
        · have HS3 := Lib.hid (show Stg n l ws m u (WtX n l ws m u ws.length) c a from by
            rcases Hst.out with h | ⟨h, _⟩
            · exact .inl h
            · exact absurd h hc)
          have hcb : (c == 0) = false := by simp [hc]
          clear hc
          go_wp2
          go_meet
          exact ⟨c, a, HS3.out, Hwv.out⟩
      · obtain rfl : i = ws.length := by omega
        go_wp2
        go_meet
        exact ⟨c, a, Hst.out, Hwv.out⟩
  case rest =>
  obtain ⟨c, a, hS2, hW2⟩ := hcut
  have HS2 := Lib.hid hS2; have HW2 := Lib.hid hW2
  clear hS2 hW2
  obtain ⟨w8, rfl⟩ : ∃ w8 : World, w8 = wc := ⟨_, rfl⟩
  have E8 := Lib.hid (E6.out.below HW2.out.hb)
  obtain ⟨f0, f1, -, -, -⟩ := HW2.out.fv.facts
  have cn := E8.out.lb.cn
  have cs := E8.out.lb.cs
  -- does the graph lie over the bags
  go_upto_region 10 with fail
  go_cut [74] from 65 to 74 (fun s74 wx => ∃ t : Bool, s74 = .bool t ∧ (t = true → Stg n l ws m u (BgX n l ws m u 0) 7 0) ∧ (t = false → Stg n l ws m u (BgX n l ws m u 0) c a) ∧ HvW w6 wx c a)
  case first =>
    by_cases hc : c = 0
    · subst hc
      have hx : WtX n l ws m u ws.length ∧ a = 0 := by
        rcases HS2.out with ⟨_, h⟩ | ⟨_, h2, h⟩
        · exact absurd rfl h
        · exact ⟨h, h2⟩
      have Hx := Lib.hid hx
      obtain ⟨-, hsp, hM, hUM, hbo⟩ := FitsSpec.good hx.1.1
      obtain ⟨hn0, hn100, -, hends⟩ := graph_good hsp
      obtain ⟨N, rfl⟩ := Int.eq_ofNat_of_zero_le hn0
      have hmb := bags_back hbo
      generalize hbs : m.map (List.map Int.toNat) = bs at hmb
      have hbl : bs.length = m.length := by rw [← hbs, List.length_map]
      have Hmb := Lib.hid hmb
      have Hov := Lib.hid (over_any N l bs u _ (.slice ab m.length cb) (.slice au u.length cu) w8 E8.out.lb.he (by rw [← hmb]; exact E8.out.hm) E8.out.hu (by omega) hends (by omega) (by omega))
      clear hx hbs hbl hmb hends hbo hsp hM hUM hn100 hn0
      go_wp2_with (go_at_call 12; apply Calls.mono Hov.out; rintro e w9 ⟨bo, hbo, rfl, hb9⟩; have Hbo := Lib.hid hbo; have HW9 := Lib.hid (HW2.out.below hb9); clear hbo hb9)
      go_meet
      refine ⟨!bo, rfl, fun h => ?_, fun h => ?_, HW9.out⟩
      · refine .inl ⟨stg_ov Hx.out.1 fun k => ?_, by decide⟩
        rw [Hmb.out, ovP_iff] at k
        have := Hbo.out.2 k
        rw [this] at h
        cases h
      · refine .inr ⟨rfl, Hx.out.2, Hx.out.1, ?_, fun j hj => absurd hj (Nat.not_lt_zero _)⟩
        rw [Hmb.out, ovP_iff]
        refine Hbo.out.1 ?_
        cases bo with
        | true => rfl
        | false => cases h
    · have HS3 := Lib.hid (show Stg n l ws m u (BgX n l ws m u 0) c a from by
        rcases HS2.out with h | ⟨h, _⟩
        · exact .inl h
        · exact absurd h hc)
      have hcb : (c == 0) = false := by simp [hc]
      clear hc
      go_wp2
      go_meet
      exact ⟨false, rfl, fun h => (by cases h), fun _ => HS3.out, HW2.out⟩
  case rest =>
  obtain ⟨t3, rfl, h3, h4, hW3⟩ := hcut
  have H3 := Lib.hid h3; have H4 := Lib.hid h4; have HW3 := Lib.hid hW3
  clear h3 h4 hW3 HW2 E8 f0 f1 cn cs
  obtain ⟨w9, rfl⟩ : ∃ w9 : World, w9 = wc := ⟨_, rfl⟩
  obtain ⟨f0, f1, d0, d1, lF⟩ := HW3.out.fv.facts
  go_upto_if 74 with fail
  go_cut [] from 75 to 75 (fun wx => ∃ c a, Stg n l ws m u (BgX n l ws m u 0) c a ∧ HvW w6 wx c a)
  case first =>
    cases t3 with
    | true =>
      have HS3 := Lib.hid (H3.out rfl)
      go_wp2_with (go_at_call 20; refine (F_any _ _ _).mono ?_; rintro e wf ⟨rfl, rfl⟩)
      go_meet
      exact ⟨7, 0, HS3.out, HW3.out.put 7 0 _⟩
    | false =>
      have HS3 := Lib.hid (H4.out rfl)
      go_wp2
      go_meet
      exact ⟨c, a, HS3.out, HW3.out⟩
  case rest =>
  obtain ⟨c', a', hS4, hW4⟩ := hcut
  have HS4 := Lib.hid hS4; have HW4 := Lib.hid hW4
  clear hS4 hW4 HS2 HW3 H3 H4 f0 f1 d0 d1 lF
  obtain ⟨w10, rfl⟩ : ∃ w10 : World, w10 = wc := ⟨_, rfl⟩
  -- the bags are small
  go_upto_block 2 with fail
  go_cut [] from 76 to 94 (fun wx => ∃ c a, HeaSpec n l ws m u c a ∧ HvW w6 wx c a)
  case first =>
    go_wp2_with fail
    go_loopg [13] (m.length + 1) (fun g s13 wx => ∃ (i : Nat) (c a : Int), i ≤ m.length ∧ g = m.length + 1 - i ∧ s13 = .int .i64 (i : Int) ∧ Stg n l ws m u (BgX n l ws m u i) c a ∧ HvW w6 wx c a)
    case atStart => exact ⟨0, _, _, Nat.zero_le _, rfl, rfl, HS4.out, HW4.out⟩
    case round =>
      clear HS4 HW4
      obtain ⟨i, c, a, hi, rfl, rfl, hst, hwv⟩ := hrel
      have Hst := Lib.hid hst; have Hwv := Lib.hid hwv
      have E9 := Lib.hid (E6.out.below hwv.hb)
      obtain ⟨f0, f1, d0, d1, lF⟩ := hwv.fv.facts
      clear hst hwv
      obtain ⟨w11, rfl⟩ : ∃ w11 : World, w11 = wr := ⟨_, rfl⟩
      by_cases hil : i < m.length
      · by_cases hc : c = 0
        · subst hc
          have hx0 : BgX n l ws m u i ∧ a = 0 := by
            rcases Hst.out with ⟨_, h⟩ | ⟨_, h2, h⟩
            · exact absurd rfl h
            · exact ⟨h, h2⟩
          have Hx0 := Lib.hid hx0
          obtain ⟨b4, o4, r, rfl, cr, hri⟩ := E9.out.hm.atF hil
          obtain ⟨ar, cr', rfl⟩ : ∃ ar cr', r = .slice ar (m.getD i []).length cr' := by
            obtain ⟨ar, cr', br, or', er, _⟩ := hri
            exact ⟨ar, cr', er⟩
          obtain ⟨nb, hnb⟩ : ∃ nb, (m.getD i []).length = nb := ⟨_, rfl⟩
          have Hnb := Lib.hid hnb
          rw [hnb] at cr
          clear hx0 hri hnb
          by_cases h12 : 12 < nb
          · have HS5 := Lib.hid (show Stg n l ws m u (BgX n l ws m u (i + 1)) 2 (i : Int) from .inl ⟨stg_bag Hx0.out.1 hil (by rw [Hnb.out]; exact h12), by decide⟩)
            have h12' : (12 : Int) < (nb : Int) := by omega
            go_wp2_with (go_at_call 20; refine (F_any _ _ _).mono ?_; rintro e wf ⟨rfl, rfl⟩)
            go_roundg (m.length + 1 - (i + 1))
            case measure => go_light; omega
            case rel => exact ⟨i + 1, 2, (i : Int), by omega, rfl, by go_num, HS5.out, Hwv.out.put 2 (i : Int) _⟩
          · have h12' : ¬ (12 : Int) < (nb : Int) := by omega
            have HS5 := Lib.hid (show Stg n l ws m u (BgX n l ws m u (i + 1)) 0 a from .inr ⟨rfl, Hx0.out.2, Hx0.out.1.1, Hx0.out.1.2.1, fun j hj => by
              by_cases e : j = i
              · subst e; rw [Hnb.out]; omega
              · exact Hx0.out.1.2.2 j (by omega)⟩)
            go_wp2
            go_roundg (m.length + 1 - (i + 1))
            case measure => go_light; omega
            case rel => exact ⟨i + 1, 0, a, by omega, rfl, by go_num, HS5.out, Hwv.out⟩
        · have HS5 := Lib.hid (show HeaSpec n l ws m u c a from by
            rcases Hst.out with h | ⟨h, _⟩
            · exact h.1
            · exact absurd h hc)
          have hcb : (c == 0) = false := by simp [hc]
          clear hc
          go_wp2
          go_meet
          exact ⟨c, a, HS5.out, Hwv.out⟩
      · obtain rfl : i = m.length := by omega
        have HS5 := Lib.hid (Stg.done Hst.out)
        go_wp2
        go_meet
        exact ⟨c, a, HS5.out, Hwv.out⟩
  case rest =>
  obtain ⟨c1, a1, hS5, hW5⟩ := hcut
  have HS5 := Lib.hid hS5; have HW5 := Lib.hid hW5
  clear hS5 hW5 HS4 HW4
  obtain ⟨w11, rfl⟩ : ∃ w11 : World, w11 = wc := ⟨_, rfl⟩
  have E11 := Lib.hid (E6.out.below HW5.out.hb)
  have on := E11.out.lb.on
  have os := E11.out.lb.os
  have hwl := hws
  have hull := hul
  go_upto_region 17 with fail
  go_cut [14, 15, 16] from 96 to 105 (fun s14 s15 s16 wx => HvCut w11 wx n l ws c1 a1 s14 s15 s16)
  case first =>
    have hcur : Below w11.heap.size w11 w11.drew := (Below.refl _ _).drew
    have hBlt : B < w11.heap.size := World.block_lt_of_cell? _ _ on
    have hBlt1 : B < w11.heap.size + 1 := Nat.lt_succ_of_lt hBlt
    have hcu0 : ∀ o, Below w11.heap.size w11 (w11.alloc o).drew := fun o => (below1 w11 o).drew
    go_region_law (first
      | (refine step_append_has rfl (.const (.slice none 0 0)) (.tmp 97) 30 rfl w11.heap.size 3 (.int .i64 0) 8 Tryd.underlying30 info3 rfl (.slice none 0 0) 0 [] rfl (World.ownsRow_nil _ _ _ _) _ ws.length (ws.map (Value.int .i64)) rfl ((E11.out.hw.below (by first | with_reducible exact hcur | with_reducible exact upc hcur (below1 _ _) | with_reducible exact hcu0 _ | fail)).cells) (by omega) (by omega) (by first | with_reducible exact hcur.size | with_reducible exact (upc hcur (below1 _ _)).size | with_reducible exact (hcu0 _).size | fail) ?_; intro aA cA wA hoA hgA; have hgA : World.grownBy _ wA none := hgA; simp only [Nat.zero_add, List.nil_append] at hoA; (try (have iU := iU.below (by first | with_reducible exact below_grown0 hgA | with_reducible exact upc (below1 _ _) (below_grown0 hgA)))); have hcur := (by first | with_reducible exact upc hcur (below_grown0 hgA) | with_reducible exact upc (upc hcur (below1 _ _)) (below_grown0 hgA) | with_reducible exact upc (hcu0 _) (below_grown0 hgA) : Below w11.heap.size w11 wA); have hBA := Nat.lt_of_lt_of_le hBlt hcur.size; have onA := below_cell hcur on; have osA := below_cell hcur os; have hBA1 := Nat.lt_succ_of_lt hBA; have iW := IsInts.owned hoA; obtain ⟨rcA, rfA⟩ := bcellH (below_grown0 hgA); have hzA := hgA.size; (try simp only [World.size_alloc, World.size_drew, Nat.add_one_le_iff] at hzA); clear hoA)
      | (refine step_append_has rfl (.const (.slice none 0 0)) (.tmp 100) 30 rfl w11.heap.size 3 (.int .i64 0) 8 Tryd.underlying30 info3 rfl (.slice none 0 0) 0 [] rfl (World.ownsRow_nil _ _ _ _) _ u.length (u.map (Value.int .i64)) rfl ((E11.out.hu.below (by first | with_reducible exact hcur | with_reducible exact upc hcur (below1 _ _) | with_reducible exact hcu0 _ | fail)).cells) (by omega) (by omega) (by first | with_reducible exact hcur.size | with_reducible exact (upc hcur (below1 _ _)).size | with_reducible exact (hcu0 _).size | fail) ?_; intro aB cB wB hoB hgB; have hgB : World.grownBy _ wB none := hgB; simp only [Nat.zero_add, List.nil_append] at hoB; (try (have iW := iW.below (by first | with_reducible exact below_grown0 hgB | with_reducible exact upc (below1 _ _) (below_grown0 hgB)))); have hcur := (by first | with_reducible exact upc hcur (below_grown0 hgB) | with_reducible exact upc (upc hcur (below1 _ _)) (below_grown0 hgB) : Below w11.heap.size w11 wB); have hBB := Nat.lt_of_lt_of_le hBlt hcur.size; have onB := below_cell hcur on; have osB := below_cell hcur os; have hBB1 := Nat.lt_succ_of_lt hBB; have iU := IsInts.owned hoB; obtain ⟨rcB, rfB⟩ := bcellH (below_grown0 hgB); have hzB := hgB.size; (try simp only [World.size_alloc, Nat.add_one_le_iff] at hzB); (try have hzAB := Nat.lt_of_lt_of_le hzA hzB); (try have hzAB := Nat.lt_of_lt_of_le hzA (Nat.le_of_lt hzB)); clear hoB)
      | (go_simp; go_at_call 21; refine (heaviest_any n l ws m u _ _ _ _ _ (E11.out.lb.ho.below (by first | with_reducible exact hcur | with_reducible exact upc hcur (below1 _ _) | with_reducible exact hcu0 _ | fail)) (by first | with_reducible exact iW | with_reducible exact iW.below (below1 _ _)) (E11.out.hr.below (by first | with_reducible exact hcur | with_reducible exact upc hcur (below1 _ _) | with_reducible exact hcu0 _ | fail)) (by first | with_reducible exact iU | with_reducible exact iU.below (below1 _ _))).mono ?_; rintro e wH ⟨c9, a9, tot, vl, rfl, hsp9, hb9, hres9⟩; obtain ⟨e1, e2⟩ := HeaSpec.uniq HS5.out hsp9; subst e1 e2; obtain ⟨rc9, rf9⟩ := bcellH hb9; have hz9 := hb9.size; (try simp only [World.size_alloc, Nat.add_one_le_iff] at hz9); (try have hz9A := Nat.lt_of_lt_of_le hzA hz9); (try have hz9B := Nat.lt_of_lt_of_le hzB hz9); (try have hz9C := Nat.lt_of_lt_of_le hzAB hz9); have hcur9 := (by first | with_reducible exact upc hcur hb9 | with_reducible exact upc (upc hcur (below1 _ _)) hb9 : Below w11.heap.size w11 wH)))
    all_goals
      go_wp2_with fail
      go_meet
      first
        | exact HvCut.fresh hcur9 hres9
        | exact HvCut.set hcur9 hres9 ((FV.new wB 0 0).below hb9) (by first | omega | (simp only [World.size_alloc, World.size_drew]; omega) | (simp; omega)) (by first | omega | (simp only [World.size_alloc, World.size_drew]; omega) | (simp; omega))
        | exact HvCut.set hcur9 hres9 (((FV.new wA 0 0).below (below_grown0 hgB)).below hb9) (by first | omega | (simp only [World.size_alloc, World.size_drew]; omega) | (simp; omega)) (by first | omega | (simp only [World.size_alloc, World.size_drew]; omega) | (simp; omega))
        | exact HvCut.set hcur9 hres9 ((((FV.new w11 0 0).dr.below (below_grown0 hgA)).below (below_grown0 hgB)).below hb9) (by first | omega | (simp only [World.size_alloc, World.size_drew]; omega) | (simp; omega)) (by first | omega | (simp only [World.size_alloc, World.size_drew]; omega) | (simp; omega))
        | exact HvCut.set hcur9 hres9 ((((FV.new w11.drew 0 0).below (below_grown0 hgA)).below (below_grown0 hgB)).below hb9) (by first | omega | (simp only [World.size_alloc, World.size_drew]; omega) | (simp; omega)) (by first | omega | (simp only [World.size_alloc, World.size_drew]; omega) | (simp; omega))
        | fail
  case rest =>
  obtain ⟨Gb, tot, base, vl, rfl, rfl, rfl, hfv, hres, hb12⟩ := hcut
  obtain ⟨w12, rfl⟩ : ∃ w12 : World, w12 = wc := ⟨_, rfl⟩
  have E12 := Lib.hid (E11.out.below hb12)
  have F12 := Lib.hid (HW5.out.fv.below hb12)
  have G12 := Lib.hid hfv
  have R12 := Lib.hid hres
  clear hfv hres hb12 on os E11 HW5
  go_upto_region 18 with fail
  generalize w6.heap.size = C at *
  go_wp2_with fail
  refine (widthBegun_any _ (TabAt.below (g := 1) HT.out E12.out.lb.hb)).mono ?_
  rintro e w13 ⟨rfl, hb13⟩
  have E13 := Lib.hid (E12.out.below hb13); have F13 := Lib.hid (F12.out.below hb13); have G13 := Lib.hid (G12.out.below hb13)
  have R13 := Lib.hid (show (c1 ≠ 0 ∧ tot = 0 ∧ vl = .slice none 0 0) ∨ (c1 = 0 ∧ HeaGood n l ws base w13 tot vl) from R12.out.imp id fun ⟨e, h⟩ => ⟨e, h.kept (grown_of_below hb13) (fun _ e => by cases e)⟩)
  clear hb13 E12 F12 G12 R12
  have on := E13.out.lb.on
  have os := E13.out.lb.os
  have cn := E13.out.lb.cn
  have cs := E13.out.lb.cs
  obtain ⟨f0, f1, -, -, -⟩ := F13.out.facts
  obtain ⟨g0, g1, -, -, -⟩ := G13.out.facts
  go_wp2_with fail
  refine (kept_is (decide_eq_true ⟨rfl, rfl⟩) _ _ _ E13.out.lb.ho E13.out.lb.he).mono ?_
  rintro e w14 ⟨rfl, hb14⟩
  have E14 := Lib.hid (E13.out.below hb14); have F14 := Lib.hid (F13.out.below hb14)
  have R14 := Lib.hid (show (c1 ≠ 0 ∧ tot = 0 ∧ vl = .slice none 0 0) ∨ (c1 = 0 ∧ HeaGood n l ws base w14 tot vl) from R13.out.imp id fun ⟨e, h⟩ => ⟨e, h.kept (grown_of_below hb14) (fun _ e => by cases e)⟩)
  clear hb14 E13 F13 G13 R13 on os cn cs f0 f1 g0 g1
  go_wp2_with fail
  refine (lists_sameH _ _ w14 E14.out.hr E14.out.hm).mono ?_
  rintro e w15 ⟨rfl, hd15⟩
  have hb15 : Below w14.heap.size w14 w15 := hd15.below
  have E15 := Lib.hid (E14.out.below hb15); have F15 := Lib.hid (F14.out.below hb15)
  have R15 := Lib.hid (show (c1 ≠ 0 ∧ tot = 0 ∧ vl = .slice none 0 0) ∨ (c1 = 0 ∧ HeaGood n l ws base w15 tot vl) from R14.out.imp id fun ⟨e, h⟩ => ⟨e, h.kept (grown_of_below hb15) (fun _ e => by cases e)⟩)
  clear hd15 hb15 E14 F14 R14
  obtain ⟨f0, f1, -, -, -⟩ := F15.out.facts
  have cn := E15.out.lb.cn
  have cs := E15.out.lb.cs
  by_cases hc : c1 = 0
  · subst hc
    obtain ⟨N, g, rfl, hown, htot, hloo, hbest⟩ : HeaGood n l ws base w15 tot vl := by
      rcases R15.out with ⟨h, _⟩ | ⟨_, h⟩
      · exact absurd rfl h
      · exact h
    obtain ⟨hsp, hwN, hwt⟩ : FitsSpec (N : Int) l m u 0 0 ∧ ws.length = N ∧ ∀ v, v < N → -1000000 ≤ ws.getD v 0 ∧ ws.getD v 0 ≤ 1000000 := by
      rcases HS5.out with ⟨_, h⟩ | ⟨h1, ⟨_, h, _⟩ | ⟨h2, ⟨_, _, _, _, h, _⟩ | ⟨h3, _⟩⟩⟩
      · exact absurd rfl h
      · cases h
      · cases h
      · exact ⟨h1, by omega, fun v hv => h3 v (by omega)⟩
    obtain ⟨-, hg0, -, -, -⟩ := FitsSpec.good hsp
    obtain ⟨-, hn100, -, hends⟩ := graph_good hg0
    have hN100 : N ≤ 100 := by omega
    obtain ⟨av, cv, rfl⟩ := ownsRow_form hown
    have hi15 : IsInts w15 (.slice av ((List.range N).filter g).length cv) (ints ((List.range N).filter g)) := by
      have h1 : w15.ownsRow base 3 1 (.slice av ((List.range N).filter g).length cv) (ints ((List.range N).filter g)).length ((ints ((List.range N).filter g)).map (Value.int .i64)) := by rw [ints_length]; exact hown
      exact IsInts.owned h1
    have Hi15 := Lib.hid hi15; have Hloo := Lib.hid hloo; have Hbest := Lib.hid hbest; have Hwt := Lib.hid hwt; have HwN := Lib.hid hwN
    have Htot := Lib.hid htot
    have Hsum := Lib.hid (show sumI (fun q => ws.getD (((List.range N).filter g).getD q 0) 0) ((List.range N).filter g).length = tot from by rw [filt_sum (W := fun v => ws.getD v 0), htot])
    have Hat := Lib.hid (fun i (hi : i < ((List.range N).filter g).length) => filt_at hi)
    have Hup := Lib.hid (filt_up g N)
    have hLl := filt_len g N
    have Hgo := Lib.hid (gridOf_any l N _ w15 E15.out.lb.he hN100 hends)
    have HG := Lib.hid (show (∀ x y, adj l x y = adj l y x) ∧ (∀ x, adj l x x = false) from ⟨fun x y => adj_sy l x y, fun x => adj_self (fun j hj => (hends j hj).2) x⟩)
    clear hown hloo hbest hwt htot hsp hg0 hends hi15 R15 HS5 hwN
    generalize hLg : (List.range N).filter g = LL at *
    have HLg := Lib.hid hLg
    obtain ⟨nl, hnl⟩ : ∃ nl, LL.length = nl := ⟨_, rfl⟩
    have Hnl := Lib.hid hnl
    rw [hnl] at hLl
    rw [hnl]
    have Hi16 := Lib.hid (show IsInts w15 (.slice av nl cv) (ints LL) from by have h1 := Hi15.out; rw [hnl] at h1; exact h1)
    clear hLg hnl Hi15
    go_wp2_with fail
    apply Calls.mono Hgo.out
    rintro e w17 ⟨gv, rfl, hg17, hb17⟩
    have HG17 := Lib.hid (show HasGrid w17 gv N (adj l) from ⟨_, hg17⟩)
    have E17 := Lib.hid (E15.out.below hb17)
    have Hi17 := Lib.hid (Hi16.out.below hb17)
    clear hg17 hb17 f0 f1 cn cs Hi16
    have cn := E17.out.lb.cn
    go_wp2_with fail
    refine (rising_up LL N (.slice av nl cv) w17 (by rw [Hnl.out]; omega) Hi17.out (fun i hi => (Hat.out i hi).1) Hup.out (by omega)).mono ?_
    rintro e w18 ⟨rfl, hb18⟩
    have HG18 := Lib.hid (HG17.out.below hb18)
    have E18 := Lib.hid (E17.out.below hb18)
    have Hi18 := Lib.hid (Hi17.out.below hb18)
    clear hb18 cn
    obtain ⟨F, hF⟩ : ∃ F : Nat → Int, F = fun q => ws.getD (LL.getD q 0) 0 := ⟨_, rfl⟩
    have HF := Lib.hid hF
    have HbF := Lib.hid (show ∀ j, j ≤ nl → -((j : Int) * 1000000) ≤ sumI F j ∧ sumI F j ≤ (j : Int) * 1000000 from fun j hj => sumI_bound fun q hq => by
      have h1 := Hwt.out _ (Hat.out q (by rw [Hnl.out]; omega)).1
      rw [hF]
      exact h1)
    have HsumF := Lib.hid (show sumI F nl = tot from by rw [hF, ← Hnl.out]; exact Hsum.out)
    clear hF
    go_upto_region 27 with fail
    go_loopg [18, 19] nl (fun gm s18 s19 wx => ∃ i : Nat, i ≤ nl ∧ gm = nl - i ∧ s19 = .int .i64 (i : Int) ∧ s18 = .int .i64 (sumI F i) ∧ Below w18.heap.size w18 wx)
    case atStart => exact ⟨0, Nat.zero_le _, rfl, rfl, rfl, Below.refl _ _⟩
    case round =>
      obtain ⟨i, hi, rfl, rfl, rfl, hb⟩ := hrel
      have Hb := Lib.hid hb
      have hbo := HbF.out i hi
      clear hb
      by_cases hin : i < nl
      · obtain ⟨b4, o4, rfl, cx⟩ := (Hi18.out.below Hb.out).atF (show i < (ints LL).length by rw [ints_length, Hnl.out]; exact hin)
        rw [ints_at_nat] at cx
        obtain ⟨hxN, hgx⟩ := Hat.out i (by rw [Hnl.out]; exact hin)
        have Hs1 := Lib.hid (show sumI F (i + 1) = sumI F i + F i from rfl)
        have HFi := Lib.hid (show F i = ws.getD (LL.getD i 0) 0 from by rw [HF.out])
        have hwx := Hwt.out _ hxN
        obtain ⟨x, hx⟩ : ∃ x, LL.getD i 0 = x := ⟨_, rfl⟩
        have Hx := Lib.hid hx
        have Hgx := Lib.hid hgx
        rw [hx] at cx hxN hwx HFi
        have E19 := Lib.hid (E18.out.below Hb.out)
        obtain ⟨b5, o5, rfl, cw5⟩ := E19.out.hw.atF (show x < ws.length by rw [HwN.out]; exact hxN)
        generalize sumI F i = z at *
        have Hs2 := Lib.hid (show sumI F (i + 1) = z + ws.getD x 0 from by rw [Hs1.out, HFi.out])
        generalize ws.getD x 0 = y at *
        have hwr : IntKind.i64.wrap (z + y) = z + y := wrapI (by omega) (by omega)
        have hxw : (x : Int) < (ws.length : Int) := by rw [HwN.out]; omega
        clear hgx hx hwx hbo
        have Cx := Lib.hid cx
        obtain ⟨w20, rfl⟩ : ∃ w20 : World, w20 = wr := ⟨_, rfl⟩
        go_upto_region 31 with fail
        clear cw5 hwr cx
        go_loopg [20] i (fun gm s20 wx => ∃ j : Nat, j ≤ i ∧ gm = i - j ∧ s20 = .int .i64 (j : Int) ∧ Below w20.heap.size w20 wx)
        case atStart => exact ⟨0, Nat.zero_le _, rfl, rfl, Below.refl _ _⟩
        case round =>
          obtain ⟨j, hj, rfl, rfl, hb⟩ := hrel
          have Hb3 := Lib.hid hb
          by_cases hji : j < i
          · have cx := below_cell hb Cx.out
            have hb18 : Below w18.heap.size w18 wr := Hb.out.trans (hb.mono Hb.out.size)
            obtain ⟨b6, o6, e6, cy⟩ := (Hi18.out.below hb18).atF (show j < (ints LL).length by rw [ints_length, Hnl.out]; omega)
            simp only [Option.some.injEq, Addr.mk.injEq, and_true] at e6
            obtain ⟨rfl, rfl⟩ := e6
            rw [ints_at_nat] at cy
            obtain ⟨hyN, hgy⟩ := Hat.out j (by rw [Hnl.out]; omega)
            obtain ⟨bt, ot, kt, rt, hte, ch, cvv⟩ := (HG18.out.below hb18).entry hxN hyN
            have hfree : adj l x (LL.getD j 0) = false := Hloo.out x _ hxN hyN (by rw [← Hx.out]; exact Hgx.out) hgy
            rw [hfree] at cvv
            obtain ⟨y2, hy2⟩ : ∃ y2, LL.getD j 0 = y2 := ⟨_, rfl⟩
            rw [hy2] at cy hyN cvv
            subst hte
            clear hb hb18 hfree hgy hy2
            go_upto_region 34 with fail
            go_quiet (fail)
            have Hb4 := Lib.hid (Hb3.out.trans ((Below.drewN' (Below.refl wr.heap.size wr) nq).mono Hb3.out.size))
            generalize wr.drewN nq = w22 at *
            go_wp2
            go_roundg (i - (j + 1))
            case measure => go_light; omega
            case rel => exact ⟨j + 1, by omega, rfl, by go_num, Hb4.out⟩
          · obtain rfl : j = i := by omega
            have Hb4 := Lib.hid (Hb.out.trans (hb.mono Hb.out.size))
            clear hb
            go_wp2
            go_roundg (nl - (j + 1))
            case measure => go_light; omega
            case rel => exact ⟨j + 1, by omega, rfl, by go_num, by rw [Hs2.out], Hb4.out⟩
      · obtain rfl : nl = i := by omega
        rw [HsumF.out]
        have E19 := Lib.hid (E18.out.below Hb.out)
        have cn := E19.out.lb.cn
        by_cases h14 : 14 < N
        · have h14' : (14 : Int) < (N : Int) := by omega
          go_wp2
          go_ret
          exact ⟨by simp, E19.out.lb.hb⟩
        · have h14' : ¬ (14 : Int) < (N : Int) := by omega
          have Hrh := Lib.hid (rheaviest_any ws gv (.slice aw ws.length cw) wr (by omega) (HG18.out.below Hb.out) E19.out.hw HwN.out Hwt.out)
          go_wp2_with fail
          apply Calls.mono Hrh.out
          rintro e w21 ⟨⟨bb, rfl, hhv⟩, hb21⟩
          have e1 : bb = tot := hv_best hhv HG.out.1 HG.out.2 Htot.out Hloo.out Hbest.out
          subst e1
          have E21 := Lib.hid (E19.out.below hb21)
          clear hhv hb21
          go_wp2
          go_ret
          exact ⟨by simp, E21.out.lb.hb⟩
  · have hcb : (c1 != 0) = true := by simp [hc]
    obtain ⟨h0, hv0⟩ : tot = 0 ∧ vl = .slice none 0 0 := by
      rcases R15.out with ⟨_, h⟩ | ⟨h, _⟩
      · exact h
      · exact absurd h hc
    subst h0 hv0
    clear R15 hc
    go_wp2
    go_ret
    exact ⟨rfl, E15.out.lb.hb⟩
end Go.Proofs.YtnmljgjegodkaaaDoor
