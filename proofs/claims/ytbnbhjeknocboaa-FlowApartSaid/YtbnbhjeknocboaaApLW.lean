/- arborlaw.FlowApart answers true: the walk. -/
import Derived.Test.YtbnbhjeknocboaaApW
import Derived.Test.YtbnbhjeknocboaaPD
import Derived.Test.YtbnbhjeknocboaaWaysAt
import Derived.Test.YtbnbhjeknocboaaWithout
import Derived.Test.YtbnbhjeknocboaaGOwn
import Derived.Test.YtbnbhjeknocboaaRCheck
import Derived.Test.YtbnbhjeknocboaaFBegun
import Derived.Test.YtbnbhjeknocboaaReach
import Derived.Deep.CutBlock
namespace Go.Proofs.Ytbnbhjeknocboaa
open Go.RowKit

/-- What flow.Apart has answered. -/
def ApRes (w : World) (n : Int) (l : List (Int × Int)) (s t c a : Int) (wv cv : Value) : Prop :=
  (c ≠ 0 ∧ wv = .slice none 0 0 ∧ cv = .slice none 0 0) ∨ (c = 0 ∧ a = 0 ∧ ∃ (N s' t' : Nat) (W : List (List Nat)) (C : List (Int × Int)), n = N ∧ s = s' ∧ t = t' ∧ GoodGraph N l ∧ ApOk N l s' t' W C ∧ IsRows w wv (W.map ints) ∧ IsEdges w cv C)
theorem ApRes.below {w w' : World} {n : Int} {l : List (Int × Int)} {s t c a : Int} {wv cv : Value} (h : ApRes w n l s t c a wv cv) (hb : Below w.heap.size w w') : ApRes w' n l s t c a wv cv := by
  rcases h with h | ⟨h1, h2, N, s', t', W, C, h3, h4, h5, h6, h7, h8, h9⟩
  · exact Or.inl h
  · exact Or.inr ⟨h1, h2, N, s', t', W, C, h3, h4, h5, h6, h7, h8.below hb, h9.below hb⟩

set_option maxHeartbeats 6400000 in
set_option maxRecDepth 100000 in
theorem apartLaw_any (n s t : Int) (l : List (Int × Int)) (hl : l.length * 16 ≤ 140737488351232) (sv : Value) (w : World) (h : IsEdges w sv l) :
    Calls Try.prog 4 #[.agg #[.int .i64 n, sv], .int .i64 s, .int .i64 t] w fun e w' => e = .returned (.bool true) ∧ Below w.heap.size w w' := by
  obtain ⟨ad, cap, rfl⟩ := h.form
  have hb1 := below1 w (Obj.cells #[.int .i64 n, .slice ad l.length cap] 24)
  have c0 := two_cells w (.int .i64 n) (.slice ad l.length cap) 24
  have cn := c0.1
  have cs := c0.2
  have he := h.below hb1
  clear c0 h
  go_enter Try.func4, Try.ntmps4
  go_upto_region 1 with fail
  generalize w.alloc (Obj.cells #[.int .i64 n, .slice ad l.length cap] 24) = w1 at *
  have Cn := Lib.hid (And.intro cn cs); have He := Lib.hid he; have Hb1 := Lib.hid hb1
  clear he hb1
  go_wp2_with fail
  refine (own_any l n (.slice ad l.length cap) _ He.out hl).mono ?_
  rintro e w2 ⟨v2, rfl, ho2, hb2⟩
  obtain ⟨a2, c2, rfl⟩ := ho2.form
  have hb3 := upt hb2 (below1 w2 (Obj.cells #[.int .i64 n, .slice a2 l.length c2] 24))
  have o0 := two_cells w2 (.int .i64 n) (.slice a2 l.length c2) 24
  have E3 := Lib.hid (show LB w (w2.alloc (Obj.cells #[.int .i64 n, .slice a2 l.length c2] 24)) n (.slice ad l.length cap) (.slice a2 l.length c2) l w2.heap.size from ⟨Hb1.out.trans (hb3.mono Hb1.out.size), below_cell hb3 Cn.out.1, below_cell hb3 Cn.out.2, o0.1, o0.2, He.out.below hb3, ho2.edges.below (below1 w2 _)⟩)
  clear cn cs ho2 hb2 hb3 o0 He Hb1 Cn
  go_upto_region 2 with fail
  generalize w2.alloc (Obj.cells #[.int .i64 n, .slice a2 l.length c2] 24) = w3 at *
  generalize w2.heap.size = B at *
  have cn := E3.out.cn
  have cs := E3.out.cs
  go_wp2_with fail
  refine (rcheck_any l n _ _ E3.out.he).mono ?_
  rintro e w5 ⟨c, a, hsp, rfl, hb5⟩
  have Hsp := Lib.hid hsp
  have hsz5 := hb5.size
  have b6 := upt hb5 (below1 w5 (Obj.cells #[.int .i64 c, .int .i64 a] 28))
  have B6 := Lib.hid b6
  have F6 := Lib.hid (FV.new w5 c a)
  have E6 := Lib.hid (E3.out.below b6)
  clear hsp hb5 b6 cn cs
  go_upto_region 3 with fail
  generalize w5.alloc (Obj.cells #[.int .i64 c, .int .i64 a] 28) = w6 at *
  generalize w5.heap.size = C at *
  have cn := E6.out.cn
  obtain ⟨f0, f1, g0, g1, lf⟩ := F6.out.facts
  go_upto_if 28 with fail
  go_cut [] from 28 to 33 (fun wx => ∃ c a, LookSpec n l s t c a ∧ FV wx C c a ∧ Below w3.heap.size w3 wx)
  case first =>
    by_cases hz : c = 0
    · subst hz
      obtain ⟨rfl, -⟩ := tree_good Hsp.out
      go_wp2_with fail
      refine (rends_any n s t _).mono ?_
      rintro e w7 ⟨c', a', hsp', rfl, hb7⟩
      have hF := F6.out.below hb7
      have b7 : Below w3.heap.size w3 ((w7.setCell ⟨C, 0, none⟩ (.int .i64 c')).setCell ⟨C, 1, none⟩ (.int .i64 a')) := ((upt B6.out hb7).setCell hsz5 _).setCell hsz5 _
      have B7 := Lib.hid b7; have F7 := Lib.hid (hF.put c' a'); have Hsp' := Lib.hid hsp'
      clear f0 f1 g0 g1 lf
      obtain ⟨f0, f1, g0, g1, lf⟩ := hF.facts
      clear hb7 hF b7 hsp'
      go_wp2
      go_meet
      exact ⟨_, _, Or.inr ⟨Hsp.out, Hsp'.out⟩, F7.out, B7.out⟩
    · have q : (c == 0) = false := by simp [hz]
      have Hz := Lib.hid hz
      clear hz
      go_wp2
      go_meet
      exact ⟨_, _, Or.inl ⟨Hsp.out, Hz.out⟩, F6.out, B6.out⟩
  case rest =>
  obtain ⟨c', a', hsp', hf7, hb7⟩ := hcut
  clear f0 f1 g0 g1 lf Hsp F6 E6 B6 cn
  obtain ⟨w9, rfl⟩ : ∃ w9 : World, w9 = wc := ⟨_, rfl⟩
  obtain ⟨c, rfl⟩ : ∃ c : Int, c = c' := ⟨_, rfl⟩
  obtain ⟨a, rfl⟩ : ∃ a : Int, a = a' := ⟨_, rfl⟩
  have Hsp := Lib.hid hsp'
  have E9 := Lib.hid (E3.out.below hb7)
  have F9 := Lib.hid hf7
  clear hf7 hb7 hsp' E3
  have on := E9.out.on
  have os := E9.out.os
  go_wp2_with fail
  refine (apart_any n s t l _ _ E9.out.ho).mono ?_
  rintro e w10 ⟨c', a', wv, cv, rfl, hsp', hb10, hres⟩
  obtain ⟨e1, e2⟩ := Hsp.out.uniq hsp'
  subst e1
  subst e2
  have b11 := upt hb10 (below1 w10 (Obj.cells #[.int .i64 c, .int .i64 a] 28))
  have E11 := Lib.hid (E9.out.below b11)
  have F11 := Lib.hid (F9.out.below b11)
  have G11 := Lib.hid (FV.new w10 c a)
  have R11 := Lib.hid (ApRes.below (show ApRes w10 n l s t c a wv cv from hres) (below1 w10 (Obj.cells #[.int .i64 c, .int .i64 a] 28)))
  clear on os hb10 hsp' hres b11 E9 F9
  go_upto_region 6 with fail
  generalize w10.alloc (Obj.cells #[.int .i64 c, .int .i64 a] 28) = w11 at *
  generalize w10.heap.size = D at *
  go_wp2_with fail
  refine (flowBegun_any _).mono ?_
  rintro e w12 ⟨rfl, hb12⟩
  have E12 := Lib.hid (E11.out.below hb12); have F12 := Lib.hid (F11.out.below hb12); have G12 := Lib.hid (G11.out.below hb12); have R12 := Lib.hid (R11.out.below hb12)
  clear hb12 E11 F11 G11 R11
  have on := E12.out.on
  have os := E12.out.os
  have cn := E12.out.cn
  have cs := E12.out.cs
  obtain ⟨f0, f1, -, -, -⟩ := F12.out.facts
  obtain ⟨g0, g1, -, -, -⟩ := G12.out.facts
  go_wp2_with fail
  refine (kept_is (decide_eq_true ⟨rfl, rfl⟩) _ _ _ E12.out.ho E12.out.he).mono ?_
  rintro e w13 ⟨rfl, hb13⟩
  have E13 := Lib.hid (E12.out.below hb13); have F13 := Lib.hid (F12.out.below hb13); have R13 := Lib.hid (R12.out.below hb13)
  clear hb13 E12 F12 R12 G12 on os cn cs f0 f1 g0 g1
  obtain ⟨f0, f1, -, -, -⟩ := F13.out.facts
  have cn := E13.out.cn
  have cs := E13.out.cs
  by_cases hz : c = 0
  · subst hz
    obtain ⟨rfl, N, s, t, W, C', rfl, rfl, rfl, hgood, hA, hrows, hcut⟩ : a = 0 ∧ ∃ (N s' t' : Nat) (W : List (List Nat)) (C : List (Int × Int)), n = N ∧ s = s' ∧ t = t' ∧ GoodGraph N l ∧ ApOk N l s' t' W C ∧ IsRows w13 wv (W.map ints) ∧ IsEdges w13 cv C := by
      rcases R13.out with ⟨h, -⟩ | ⟨-, h⟩
      · exact absurd rfl h
      · exact h
    obtain ⟨-, -, hn1, hl1, hok2, -, hsn, -, htn, hne⟩ := look_good Hsp.out
    have hN : N ≤ 100 := by omega
    have hsN : s < N := by omega
    have htN : t < N := by omega
    have HA := Lib.hid hA
    have hWC := hA.len
    have hfew := hA.few
    have hC' : C'.length ≤ 10000 := by have := Nat.mul_le_mul hN hN; omega
    have hWl : W.length ≤ 10000 := by omega
    have hWm : (W.map ints).length = W.length := List.length_map _
    obtain ⟨wa, wc, wb0, wo0, rfl, hwc, hwm, -, -, -⟩ := id hrows
    obtain ⟨ca, cc, cb0, co0, rfl, hcc, hcm, -, -, -⟩ := id hcut
    rw [hWm] at hwc hrows ⊢
    have Hok2 := Lib.hid hok2; have Hrows := Lib.hid hrows; have Hcut := Lib.hid hcut
    have q1 : ((W.length : Int) != (C'.length : Int)) = false := by simp; omega
    clear hok2 hn1 hsn htn hne hA hWC hWm hrows hcut R13 Hsp F13 hfew hgood
    go_wp2_with fail
    refine (gridOf_any l N _ _ E13.out.he hN Hok2.out).mono ?_
    rintro e w14 ⟨gv, rfl, hg14, hb14⟩
    have HG := Lib.hid (show HasGrid w14 gv N (adj l) from ⟨_, hg14⟩)
    have E14 := Lib.hid (E13.out.below hb14)
    have HR := Lib.hid (Hrows.out.below hb14)
    have HC := Lib.hid (Hcut.out.below hb14)
    clear hg14 hb14 Hrows Hcut f0 f1 cn cs E13
    have cn := E14.out.cn
    go_wp2_with fail
    refine (gridOf_any [] N _ _ (IsEdges.nil _) hN (fun j hj => absurd hj (Nat.not_lt_zero _))).mono ?_
    rintro e w15 ⟨uv, rfl, hg15, hb15⟩
    obtain ⟨ua, ucap, ub, uo, R, rfl, hucap, hua, hgr⟩ := hg15
    have HU0 := Lib.hid hgr
    have Hb15 := Lib.hid hb15
    clear hgr hb15 cn
    go_wp2
    go_loopg [14] W.length (fun g s14 wr => ∃ (i : Nat) (J : Nat → Nat → Bool), i ≤ W.length ∧ g = W.length - i ∧ s14 = .int .i64 (i : Int) ∧ UsedE W i 1 J ∧ Grid wr w14.heap.size ub uo N R J ∧ Below w14.heap.size w14 wr)
    case atStart => exact ⟨0, adj [], Nat.zero_le _, rfl, rfl, UsedE.start W, HU0.out, Hb15.out⟩
    case round =>
      obtain ⟨i, J, hi, rfl, rfl, hu, hgr, hb⟩ := hrel
      have Hu := Lib.hid hu; have Hgr := Lib.hid hgr; have Hb := Lib.hid hb
      by_cases hil : i < W.length
      · obtain ⟨wb, wo, ra, rc, rfl, hcr, hir⟩ := ways_at HR.out (Below.refl _ _) hil
        have hway := HA.out.way i hil
        have Hx := Lib.hid (show ∀ k J, UsedE W i k J → 0 < k → k < (W.getD i []).length → J ((W.getD i []).getD (k - 1) 0) ((W.getD i []).getD k 0) = false ∧ UsedE W i (k + 1) (markE J ((W.getD i []).getD (k - 1) 0) ((W.getD i []).getD k 0)) from fun k J hJ h0 hk => ⟨hJ.new HA.out hil h0 hk, hJ.more hil h0 hk⟩)
        generalize W.getD i [] = o at *
        have hol := hway.few
        have ho2 := hway.len
        have Hir := Lib.hid hir; have Hway := Lib.hid hway
        have Hcr := Lib.hid hcr
        have hcr' := below_cell hb hcr
        clear hu hgr hb hir hway hcr
        go_wp2_with (go_at_call 27; refine (way_yes N s t l o gv _ _ hN (HG.out.below Hb.out) (by omega) (Hir.out.below Hb.out) Hway.out).mono ?_; rintro e w16 ⟨rfl, hb16⟩; have Hb16 := Lib.hid (Hb.out.trans (hb16.mono Hb.out.size)); have Hgr16 := Lib.hid (Hgr.out.below hb16); clear hb16)
        clear hcr'
        go_loopg [15] (o.length - 1) (fun g s15 wx => ∃ (k : Nat) (J : Nat → Nat → Bool), 1 ≤ k ∧ k ≤ o.length ∧ g = o.length - k ∧ s15 = .int .i64 (k : Int) ∧ UsedE W i k J ∧ Grid wx w14.heap.size ub uo N R J ∧ Below w14.heap.size w14 wx)
        case atStart => exact ⟨1, J, Nat.le_refl _, by omega, rfl, rfl, Hu.out, Hgr16.out, Hb16.out⟩
        case round =>
          obtain ⟨k, J, hk1, hk, rfl, rfl, hJ, hgr, hb⟩ := hrel
          have HJ := Lib.hid hJ; have Hgr2 := Lib.hid hgr; have Hb2 := Lib.hid hb
          have cr := below_cell hb Hcr.out
          by_cases hk2 : k < o.length
          · obtain ⟨eb, eo, rfl, ce1⟩ := ints_at' Hir.out hb hk2
            obtain ⟨eb', eo', he', ce0⟩ := ints_at' Hir.out hb (show k - 1 < o.length by omega)
            simp only [Option.some.injEq, Addr.mk.injEq, and_true] at he'
            obtain ⟨rfl, rfl⟩ := he'
            obtain ⟨hfree, hmore⟩ := Hx.out k J hJ (by omega) hk2
            have hX := Hway.out.lt (k - 1) (by omega)
            have hY := Hway.out.lt k hk2
            have hxy := Hway.out.dif (k - 1) k (by omega) hk2
            obtain rfl := (hua (by omega)).1
            have hw : IntKind.i64.wrap ((k : Int) - 1) = ((k - 1 : Nat) : Int) := by rw [show (k : Int) - 1 = ((k - 1 : Nat) : Int) by omega]; exact wrap_nat (by omega)
            generalize o.getD (k - 1) 0 = X at *
            generalize o.getD k 0 = Y at *
            have Hmore := Lib.hid hmore; have Hxy := Lib.hid hxy; have Hfree := Lib.hid hfree
            clear hJ hgr hb hfree hmore hxy
            go_upto_region 20 with fail
            go_quiet (fail)
            have hq := Below.drewN' (Below.refl wr.heap.size wr) nq
            have Hgr3 := Lib.hid (Hgr2.out.below hq)
            have Hb3 := Lib.hid (upb Hb2.out hq)
            clear hq cr ce0 ce1 hw
            generalize wr.drewN nq = w5 at *
            have hx := Hgr3.out.head X hX
            have hy := Hgr3.out.head Y hY
            have g7 := ((Hgr3.out.below (Below.refl _ _).drew).set hX Y true).set hY X true
            have t1 := Hgr3.out.cell hX hY
            have f1 := (Hgr3.out.row X hX).frozen Y
            have t2 := Hgr3.out.cell hY hX
            have f2 := (Hgr3.out.row Y hY).frozen X
            have m1 := (Hgr3.out.row X hX).lt
            have m2 := (Hgr3.out.row Y hY).lt
            have n3 := Hgr3.out.off X hX
            have n4 := Hgr3.out.off Y hY
            have n5 : R X ≠ R Y := fun e => Hxy.out (Hgr3.out.inj X Y hX hY e)
            have n6 := Ne.symm n5
            have b7 := (Hb3.out.drew.setCell (p := ⟨R X, Y, none⟩) (Hgr3.out.new X hX) (.bool true)).setCell (p := ⟨R Y, X, none⟩) (Hgr3.out.new Y hY) (.bool true)
            have G7 := Lib.hid (And.intro g7 b7)
            rw [Hfree.out] at t1
            clear g7 b7
            generalize R X = bX at *
            generalize R Y = bY at *
            go_upto_region 23 with fail
            go_region_held3 (fun w' => w'.cell? ⟨ub, uo + X, none⟩ = some (.slice (some ⟨bX, 0, none⟩) N N) ∧ w'.cell? ⟨ub, uo + Y, none⟩ = some (.slice (some ⟨bY, 0, none⟩) N N)) (go_keep) (fail)
            go_wp2
            go_roundg (o.length - (k + 1))
            case measure => go_light; omega
            case rel => exact ⟨k + 1, _, by omega, by omega, rfl, by go_num, Hmore.out, G7.out.1, G7.out.2⟩
          · obtain rfl : o.length = k := by omega
            clear hJ hgr hb
            go_wp2
            go_roundg (W.length - (i + 1))
            case measure => go_light; omega
            case rel => exact ⟨i + 1, J, by omega, rfl, by go_num, HJ.out.next, Hgr2.out, Hb2.out⟩
      · obtain rfl : W.length = i := by omega
        have E17 := Lib.hid (E14.out.below hb)
        have HG17 := Lib.hid (HG.out.below hb)
        have HC17 := Lib.hid (HC.out.below hb)
        clear hu hgr hb Hu Hgr Hb HR HC HG E14 HU0 Hb15
        obtain ⟨w17, rfl⟩ : ∃ w17 : World, w17 = wr := ⟨_, rfl⟩
        obtain ⟨ca', cc', cb, co, e0x, -, -, hcadr, -, hcellx⟩ := HC17.out
        simp only [Value.slice.injEq] at e0x
        obtain ⟨rfl, -, rfl⟩ := e0x
        have HE := Lib.hid hcellx
        clear hcellx
        go_wp2
        go_loopg [18, 19] C'.length (fun g s18 s19 wr => ∃ (k : Nat) (M : Nat → Nat → Bool), k ≤ C'.length ∧ g = C'.length - k ∧ s19 = .int .i64 (k : Int) ∧ HasGrid wr s18 N M ∧ MI N l (C'.take k) M ∧ Below w17.heap.size w17 wr)
        case atStart => exact ⟨0, adj l, Nat.zero_le _, rfl, rfl, HG17.out, MI.start N l, Below.refl _ _⟩
        case round =>
          obtain ⟨k, M, hk, rfl, rfl, hgm, hmi, hb⟩ := hrel
          obtain ⟨ma, mc, rfl⟩ := hgm.form
          have HgM := Lib.hid hgm; have Hmi := Lib.hid hmi; have Hb := Lib.hid hb
          by_cases hlt : k < C'.length
          · obtain rfl := hcadr (by omega)
            obtain ⟨a, b, hab, hab1, hb1, hadj⟩ := HA.out.at hlt
            have hMab := hmi.has HA.out hlt hab hab1 hb1 hadj
            have Hab := Lib.hid hab
            have cA := below_cell hb (HE.out k hlt).1
            have cB := below_cell hb (HE.out k hlt).2
            rw [hab] at cA cB
            simp only at cA cB
            have Hprev := Lib.hid (show ∀ q, q + 1 = k → ∃ c d : Nat, C'.getD q (0, 0) = ((c : Int), (d : Int)) ∧ (c < a ∨ (c = a ∧ d < b)) from fun q hq => by
              subst hq
              obtain ⟨c, d, hcd, -⟩ := HA.out.at (show q < C'.length by omega)
              have h1 := HA.out.up hlt
              rw [hcd, hab] at h1
              unfold LexLt at h1
              simp only at h1
              exact ⟨c, d, hcd, by omega⟩)
            clear hgm hmi hb hadj hab
            go_upto_region 30 with fail
            go_quiet (fail)
            have hq := Below.drewN' (Below.refl wr.heap.size wr) nq
            have HMB := Lib.hid (HgM.out.below hq)
            have HbB := Lib.hid (upb Hb.out hq)
            clear hq cA cB
            generalize wr.drewN nq = wB at *
            obtain ⟨gb, go, gc, gr, ge0, ge1, ge2⟩ := HMB.out.entry (show a < N by omega) hb1
            simp only [Value.slice.injEq, true_and] at ge0
            obtain ⟨rfl, rfl⟩ := ge0
            rw [hMab] at ge2
            have cA := below_cell HbB.out (HE.out k hlt).1
            have cB := below_cell HbB.out (HE.out k hlt).2
            rw [Hab.out] at cA cB
            simp only at cA cB
            have cn := (E17.out.below HbB.out).cn
            rcases Nat.lt_or_ge k 1 with hk0 | hk0
            · have q0 : decide ((k : Int) > 0) = false := by simp; omega
              go_upto_region 33 with fail
              clear ge1 ge2 cn
              go_wp2_with (go_at_call 28; refine (without_any N M (a : Int) (b : Int) _ _ hN HMB.out).mono ?_; rintro e w18 ⟨v18, rfl, hg18, hb18⟩; have Hg18 := Lib.hid hg18; have Hb18 := Lib.hid (upb HbB.out hb18); clear hg18 hb18)
              go_roundg (C'.length - (k + 1))
              case measure => go_light; omega
              case rel => exact ⟨k + 1, _, by omega, rfl, by go_num, Hg18.out, by rw [takeF_at hlt Hab.out]; exact Hmi.out.step rfl, Hb18.out⟩
            · obtain ⟨q, hqk⟩ : ∃ q, q + 1 = k := ⟨k - 1, by omega⟩
              obtain ⟨c, d, hcd, hlex⟩ := Hprev.out q hqk
              have cC := below_cell HbB.out (HE.out q (by omega)).1
              have cD := below_cell HbB.out (HE.out q (by omega)).2
              rw [hcd] at cC cD
              simp only at cC cD
              clear hcd
              have hwq : IntKind.i64.wrap ((k : Int) - 1) = ((q : Nat) : Int) := by rw [show (k : Int) - 1 = ((q : Nat) : Int) by omega]; exact wrap_nat (by omega)
              by_cases hca : c = a
              · have q1 : ((c : Int) == (a : Int)) = true := by simp [hca]
                have hdb : d < b := by omega
                have hca2 : c ≤ a := by omega
                clear hlex
                clear hca
                go_upto_region 33 with fail
                clear ge1 ge2 cn cC cD hwq
                go_wp2_with (go_at_call 28; refine (without_any N M (a : Int) (b : Int) _ _ hN HMB.out).mono ?_; rintro e w18 ⟨v18, rfl, hg18, hb18⟩; have Hg18 := Lib.hid hg18; have Hb18 := Lib.hid (upb HbB.out hb18); clear hg18 hb18)
                go_roundg (C'.length - (k + 1))
                case measure => go_light; omega
                case rel => exact ⟨k + 1, _, by omega, rfl, by go_num, Hg18.out, by rw [takeF_at hlt Hab.out]; exact Hmi.out.step rfl, Hb18.out⟩
              · have q1 : ((c : Int) == (a : Int)) = false := by simp; omega
                have hca2 : c < a := by omega
                clear hlex hca
                go_upto_region 33 with fail
                clear ge1 ge2 cn cC cD hwq
                go_wp2_with (go_at_call 28; refine (without_any N M (a : Int) (b : Int) _ _ hN HMB.out).mono ?_; rintro e w18 ⟨v18, rfl, hg18, hb18⟩; have Hg18 := Lib.hid hg18; have Hb18 := Lib.hid (upb HbB.out hb18); clear hg18 hb18)
                go_roundg (C'.length - (k + 1))
                case measure => go_light; omega
                case rel => exact ⟨k + 1, _, by omega, rfl, by go_num, Hg18.out, by rw [takeF_at hlt Hab.out]; exact Hmi.out.step rfl, Hb18.out⟩
          · obtain rfl : C'.length = k := by omega
            rw [List.take_length] at hmi
            have hno := hmi.shut HA.out
            have Hno := Lib.hid hno
            have E20 := Lib.hid (E17.out.below hb)
            clear hgm hmi hb hno
            go_wp2_with (go_at_call 29; refine (reach_any N s M (fun _ => false) _ _ _ hN hsN HgM.out (HasShut.nil _)).mono ?_; rintro e w21 ⟨bR, rfl, -, hrR, hb21⟩; have E21 := Lib.hid (E20.out.below hb21); have cR := hrR.cell htN; simp only [rb] at cR; rw [Hno.out] at cR; clear hrR hb21)
            go_ret
            exact ⟨rfl, E21.out.hb⟩
  · have q : (c != 0) = true := by simp [hz]
    rcases R13.out with ⟨-, rfl, rfl⟩ | ⟨h, -⟩
    · have Hz := Lib.hid hz
      clear hz
      go_wp2
      go_ret
      exact ⟨rfl, E13.out.hb⟩
    · exact absurd h hz

end Go.Proofs.Ytbnbhjeknocboaa
