/- arborlaw.ColourPoly answers true: the walk. -/
import Derived.Test.YtfflnpcbpcldeaaDoorPolW
import Derived.Test.YtfflnpcbpcldeaaDoorCBegun
import Derived.Test.YtfflnpcbpcldeaaDoorKeptS
import Derived.Test.YtfflnpcbpcldeaaDoorGOwn
import Derived.Test.YtfflnpcbpcldeaaDoorGridOf
import Derived.Test.YtfflnpcbpcldeaaDoorLBox
import Derived.Test.YtfflnpcbpcldeaaDoorAtW
import Derived.Test.YtfflnpcbpcldeaaDoorColW
import Derived.Test.YtfflnpcbpcldeaaDoorAcyc
namespace Go.Proofs.YtfflnpcbpcldeaaDoor
open Go Go.RowKit

theorem sumO_bounds (P : List (Int × Int) → Bool) : ∀ (l : List (Int × Int)) (f : List (Int × Int) → List (Int × Int)), 0 ≤ sumO l (fun a => if P (f a) = true then 1 else 0) ∧ sumO l (fun a => if P (f a) = true then 1 else 0) ≤ ((2 ^ l.length : Nat) : Int)
  | [], f => by simp only [sumO, List.length_nil, Nat.pow_zero]; split <;> omega
  | e :: l, f => by
    have h1 := sumO_bounds P l fun a => f (e :: a)
    have h2 := sumO_bounds P l fun a => f ((e.2, e.1) :: a)
    rw [sumO, List.length_cons, Nat.pow_succ]
    push_cast at *
    omega

/-- BIRKHOFF AND STANLEY for a graph of few nodes. -/
theorem poly_birk {l : List (Int × Int)} {N : Nat} (hN : N ≤ 12) (hok : ∀ j, j < l.length → EndsOk (N : Int) (l.getD j (0, 0)) ∧ (l.getD j (0, 0)).1 ≠ (l.getD j (0, 0)).2) (x : Nat) :
    wI (horD (fun i => polO (freeB l N) (pow2 N) (N + 1) i) x (N + 1) (N + 1)) = wI (cntS (adj l) x 0 N []) := by
  rw [horD_all, show pow2 N = 2 ^ N from rfl, polO_at (by omega), ← birkhoff (lowN_low (by omega)) (adj_sy l) (adj_self fun j hj => (hok j hj).2) (fun t ht => ?_) x]
  rw [freeB_iff]
  constructor
  · intro h u v hu hv
    exact h u (bit_ltN ht hu) v (bit_ltN ht hv) hu hv
  · intro h u _ v _ hu hv
    exact h u v hu hv
theorem edge_of_adj {l : List (Int × Int)} {u v : Nat} (h : adj l u v = true) : ∃ e ∈ l, Meets e (u : Int) (v : Int) := by
  unfold adj hasE at h
  obtain ⟨e, he, hm⟩ := List.any_eq_true.1 h
  exact ⟨e, he, of_decide_eq_true hm⟩
theorem poly_stan {l : List (Int × Int)} {N : Nat} (hN : N ≤ 12) (hok : ∀ j, j < l.length → EndsOk (N : Int) (l.getD j (0, 0)) ∧ (l.getD j (0, 0)).1 ≠ (l.getD j (0, 0)).2)
    {ac : List (Int × Int) → Bool} (hac : ∀ a, ac a = true ↔ NoRing a) :
    horD (fun i => polO (freeB l N) (pow2 N) (N + 1) i) (-1) (N + 1) (N + 1) = sg N * sumO l (fun a => if ac a = true then 1 else 0) := by
  have hmem : ∀ e ∈ l, EndsOk (N : Int) e := fun e he => by
    obtain ⟨j, hj, rfl⟩ := List.getElem_of_mem he
    have := (hok j hj).1
    rw [show l.getD j (0, 0) = l[j] by simp [List.getD, hj]] at this
    exact this
  rw [horD_all, show pow2 N = 2 ^ N from rfl, polO_at (by omega)]
  refine stanley (lowN_low (by omega)) (fun e he => by have := hmem e he; exact ⟨this.1, this.2.2.1, this.2.1, this.2.2.2⟩) (fun t ht => ?_) (fun a _ => hac a)
  rw [freeB_iff]
  constructor
  · rintro h e he ⟨h1, h2⟩
    have hk := hmem e he
    have := h _ (bit_ltN ht h1) _ (bit_ltN ht h2) h1 h2
    have h3 : adj l e.1.toNat e.2.toNat = true := List.any_eq_true.2 ⟨e, he, decide_eq_true (Or.inl ⟨by have := hk.1; omega, by have := hk.2.1; omega⟩)⟩
    rw [h3] at this
    cases this
  · intro h u _ v _ hu hv
    cases e : adj l u v with
    | false => rfl
    | true =>
      obtain ⟨e, he, hm⟩ := edge_of_adj e
      refine absurd ?_ (h e he)
      rcases hm with ⟨h1, h2⟩ | ⟨h1, h2⟩
      · rw [h1, h2]; exact ⟨by simpa using hu, by simpa using hv⟩
      · rw [h1, h2]; exact ⟨by simpa using hv, by simpa using hu⟩
theorem poly_top {l : List (Int × Int)} {N : Nat} (hN : N ≤ 12) (hok : ∀ j, j < l.length → EndsOk (N : Int) (l.getD j (0, 0)) ∧ (l.getD j (0, 0)).1 ≠ (l.getD j (0, 0)).2) : polO (freeB l N) (pow2 N) (N + 1) N = 1 := by
  rw [show pow2 N = 2 ^ N from rfl]
  refine polO_top (by omega) fun v hv => freeB_iff.2 fun a _ b _ ha hb => ?_
  rw [pow2_bit] at ha hb
  have h1 := of_decide_eq_true ha
  have h2 := of_decide_eq_true hb
  subst h1; subst h2
  exact adj_self (fun j hj => (hok j hj).2) _

set_option maxHeartbeats 3200000 in
set_option maxRecDepth 100000 in
set_option pp.deepTerms true in
theorem polyLaw_any (n : Int) (l : List (Int × Int)) (hl : l.length * 16 ≤ 140737488351232) (sv : Value) (w : World) (h : IsEdges w sv l) (hT : TabAt 1 Lib.deBruijn64tab w) :
    Calls Tryd.prog 3 #[.agg #[.int .i64 n, sv]] w fun e w' => e = .returned (.bool true) ∧ Below w.heap.size w w' := by
  obtain ⟨ac, hac⟩ : ∃ ac : List (Int × Int) → Bool, ∀ a, ac a = true ↔ NoRing a := ⟨fun a => @decide (NoRing a) (Classical.propDecidable _), fun a => @decide_eq_true_iff (NoRing a) (Classical.propDecidable _)⟩
  have Hac := Lib.hid hac
  have HT := Lib.hid hT
  clear hT hac
  obtain ⟨ad, cap, rfl⟩ := h.form
  have hb1 := below1 w (Obj.cells #[.int .i64 n, .slice ad l.length cap] 24)
  have c0 := two_cells w (.int .i64 n) (.slice ad l.length cap) 24
  have cn := c0.1
  have cs := c0.2
  have he := h.below hb1
  clear c0 h
  go_enter Tryd.func3, Tryd.ntmps3
  go_upto_region 1 with fail
  generalize w.alloc (Obj.cells #[.int .i64 n, .slice ad l.length cap] 24) = w1 at *
  have Cn := Lib.hid (And.intro cn cs); have He := Lib.hid he; have Hb1 := Lib.hid hb1
  clear he hb1
  go_wp2_with fail
  refine (own_any l n (.slice ad l.length cap) _ He.out hl).mono ?_
  rintro e w2 ⟨v2, rfl, ho2, hb2⟩
  obtain ⟨a2, c2, rfl⟩ := ho2.form
  have hb3 := upc hb2 (below1 w2 (Obj.cells #[.int .i64 n, .slice a2 l.length c2] 24))
  have o0 := two_cells w2 (.int .i64 n) (.slice a2 l.length c2) 24
  have E3 := Lib.hid (show LB w (w2.alloc (Obj.cells #[.int .i64 n, .slice a2 l.length c2] 24)) n (.slice ad l.length cap) (.slice a2 l.length c2) l w2.heap.size from ⟨Hb1.out.trans (hb3.mono Hb1.out.size), below_cell hb3 Cn.out.1, below_cell hb3 Cn.out.2, o0.1, o0.2, He.out.below hb3, ho2.edges.below (below1 w2 _)⟩)
  clear cn cs ho2 hb2 hb3 o0 He Hb1 Cn
  go_upto_region 2 with fail
  generalize w2.alloc (Obj.cells #[.int .i64 n, .slice a2 l.length c2] 24) = w3 at *
  generalize w2.heap.size = B at *
  have cn := E3.out.cn
  have cs := E3.out.cs
  go_wp2_with fail
  refine (smallFault_any n 12 l _ _ E3.out.he).mono ?_
  rintro e w5 ⟨c, a, hsp, rfl, hb5⟩
  have Hsp := Lib.hid hsp
  have F6 := Lib.hid (FV.new w5 c a)
  have E6 := Lib.hid (E3.out.below (upc hb5 (below1 w5 (Obj.cells #[.int .i64 c, .int .i64 a] 27))))
  clear hsp hb5 cn cs
  go_upto_region 3 with fail
  generalize w5.alloc (Obj.cells #[.int .i64 c, .int .i64 a] 27) = w6 at *
  generalize w5.heap.size = C at *
  have on := E6.out.on
  have os := E6.out.os
  go_wp2_with fail
  refine (poly_any n l _ _ E6.out.ho (TabAt.below (g := 1) HT.out E6.out.hb)).mono ?_
  rintro e w10 ⟨c', a', cv, rfl, hsp', hb10, hres⟩
  obtain ⟨e1, e2⟩ := SmallSpec.uniq Hsp.out hsp'
  subst e1
  subst e2
  have b11 := upc hb10 (below1 w10 (Obj.cells #[.int .i64 c, .int .i64 a] 27))
  have E11 := Lib.hid (E6.out.below b11)
  have F11 := Lib.hid (F6.out.below b11)
  have G11 := Lib.hid (FV.new w10 c a)
  have R11 := Lib.hid (show (c ≠ 0 ∧ cv = .slice none 0 0) ∨ (c = 0 ∧ a = 0 ∧ ∃ N : Nat, n = N ∧ IsInts (w10.alloc (Obj.cells #[.int .i64 c, .int .i64 a] 27)) cv ((List.range (N + 1)).map fun i => wI (polO (freeB l N) (pow2 N) (N + 1) i))) from by
    rcases hres with h | ⟨h1, h2, N, h3, h6⟩
    · exact Or.inl h
    · exact Or.inr ⟨h1, h2, N, h3, h6.below (below1 _ _)⟩)
  clear on os hb10 hsp' hres b11 E6 F6
  go_upto_region 4 with fail
  generalize w10.alloc (Obj.cells #[.int .i64 c, .int .i64 a] 27) = w11 at *
  generalize w10.heap.size = D at *
  go_wp2_with fail
  refine (colourBegun_any _ (TabAt.below (g := 1) HT.out E11.out.hb)).mono ?_
  rintro e w12 ⟨rfl, hb12⟩
  have Hb12 := Lib.hid hb12
  have E12 := Lib.hid (E11.out.below hb12); have F12 := Lib.hid (F11.out.below hb12); have G12 := Lib.hid (G11.out.below hb12)
  clear hb12 F11 G11
  have on := E12.out.on
  have os := E12.out.os
  have cn := E12.out.cn
  have cs := E12.out.cs
  obtain ⟨f0, f1, -, -, -⟩ := F12.out.facts
  obtain ⟨g0, g1, -, -, -⟩ := G12.out.facts
  go_wp2_with fail
  refine (kept_is (decide_eq_true ⟨rfl, rfl⟩) _ _ _ E12.out.ho E12.out.he).mono ?_
  rintro e w13 ⟨rfl, hb13⟩
  have E13 := Lib.hid (E12.out.below hb13); have F13 := Lib.hid (F12.out.below hb13)
  have Hb13 := Lib.hid (upc Hb12.out hb13)
  clear hb13 E12 F12 G12 Hb12 on os cn cs f0 f1 g0 g1
  obtain ⟨f0, f1, -, -, -⟩ := F13.out.facts
  have cn := E13.out.cn
  have cs := E13.out.cs
  by_cases hz : c = 0
  · subst hz
    obtain ⟨rfl, hn0, hn1, hl2, hok⟩ := small_good Hsp.out
    obtain ⟨N, rfl, hi⟩ : ∃ N : Nat, n = N ∧ IsInts w13 cv ((List.range (N + 1)).map fun i => wI (polO (freeB l N) (pow2 N) (N + 1) i)) := by
      rcases R11.out with ⟨h, -⟩ | ⟨-, -, N, h1, h4⟩
      · exact absurd rfl h
      · exact ⟨N, h1, h4.below Hb13.out⟩
    have hN : N ≤ 100 := by omega
    have hN12 : N ≤ 12 := by omega
    have Hok := Lib.hid hok; have Hi := Lib.hid hi
    obtain ⟨ia, ic, ib, io, rfl, hicap, himax, hiadr, -, hicell⟩ := id hi
    have hilen : ((List.range (N + 1)).map fun i => wI (polO (freeB l N) (pow2 N) (N + 1) i)).length = N + 1 := by simp
    rw [hilen] at hicap hiadr hicell ⊢
    obtain rfl := hiadr (by omega)
    have ct := hicell N (by omega)
    rw [show ((List.range (N + 1)).map fun i => wI (polO (freeB l N) (pow2 N) (N + 1) i)).getD N 0 = 1 by
      have := poly_top hN12 hok
      simp [List.getD, this]; rfl] at ct
    rw [hilen] at Hi
    clear hok hi R11 hilen hiadr hicell
    go_wp2_with fail
    refine (gridOf_any l N _ _ E13.out.he hN Hok.out).mono ?_
    rintro e w14 ⟨gv, rfl, hg14, hb14⟩
    have HG := Lib.hid (show HasGrid w14 gv N (adj l) from ⟨_, hg14⟩)
    have E14 := Lib.hid (E13.out.below hb14)
    have Hi14 := Lib.hid (Hi.out.below hb14)
    clear hg14 hb14 f0 f1 cn cs ct
    have cn := E14.out.cn
    have cs := E14.out.cs
    obtain ⟨S, hS⟩ : ∃ S, S = sumO l (fun a => if ac a = true then 1 else 0) := ⟨_, rfl⟩
    have hSb := sumO_bounds ac l id
    simp only [id_eq] at hSb
    rw [← hS] at hSb
    have hst := congrArg wI (poly_stan hN12 Hok.out Hac.out)
    rw [← hS] at hst
    have HS := Lib.hid hS.symm; have Hst := Lib.hid hst; have HSb := Lib.hid hSb
    clear hS hst hSb
    have hS0 := HSb.out.1
    have hS1 : l.length ≤ 10 → S ≤ 1024 := fun h => by
      have h1 := HSb.out.2
      have h2 : 2 ^ l.length ≤ 2 ^ 10 := Nat.pow_le_pow_right (by decide) h
      have h3 : ((2 ^ l.length : Nat) : Int) ≤ ((2 ^ 10 : Nat) : Int) := by exact_mod_cast h2
      have h4 : ((2 ^ 10 : Nat) : Int) = 1024 := by decide
      omega
    by_cases hN6 : N ≤ 6
    · have hN6i : (N : Int) ≤ 6 := by omega
      go_wp2
      go_loopg [8] (N + 1) (fun g s8 wr => ∃ x : Nat, x ≤ N + 1 ∧ g = N + 1 - x ∧ s8 = .int .i64 (x : Int) ∧ Below w14.heap.size w14 wr)
      case atStart => exact ⟨0, Nat.zero_le _, rfl, rfl, Below.refl _ _⟩
      case round =>
        obtain ⟨x, hx, rfl, rfl, hb⟩ := hrel
        have Hb := Lib.hid hb
        have E15 := Lib.hid (E14.out.below hb)
        have Hi15 := Lib.hid (Hi14.out.below hb)
        have HG15 := Lib.hid (HG.out.below hb)
        have cn := E15.out.cn
        have cs := E15.out.cs
        clear hb
        by_cases hxN : x ≤ N
        · have Hbk := Lib.hid (poly_birk hN12 Hok.out x)
          go_wp2_with fail
          refine (at_any (fun i => polO (freeB l N) (pow2 N) (N + 1) i) (N + 1) (by omega) x _ _ Hi15.out).mono ?_
          rintro e wz ⟨rfl, rfl⟩
          rw [Hbk.out]
          go_wp2_with fail
          refine (colourings_any N x (adj l) hN (by omega) gv _ HG15.out).mono ?_
          rintro e wy ⟨rfl, hby⟩
          have Hby := Lib.hid (Hb.out.trans (hby.mono Hb.out.size))
          generalize wI (cntS (adj l) x 0 N []) = vx at *
          clear hby cn cs
          go_wp2
          go_roundg (N + 1 - (x + 1))
          case measure => go_light; omega
          case rel => exact ⟨x + 1, by omega, rfl, by go_num, Hby.out⟩
        · obtain rfl : x = N + 1 := by omega
          have hS1' : l.length ≤ 10 → S ≤ 1024 := hS1
          rcases Nat.lt_or_ge 10 l.length with hle | hle
          · go_wp2
            go_ret
            exact ⟨rfl, E15.out.hb⟩
          · rcases Nat.mod_two_eq_zero_or_one N with hpar | hpar
            · have hsg : sg N = 1 := if_pos hpar
              have hv : wI (horD (fun i => polO (freeB l N) (pow2 N) (N + 1) i) (-1) (N + 1) (N + 1)) = S := by
                rw [Hst.out, hsg, Int.one_mul, wI_64]; unfold wrap64; omega
              have hp2 : (N : Int) % 2 = 0 := by omega
              have hp3 : (N : Int).tmod 2 = 0 := by rw [Int.tmod_eq_emod_of_nonneg (by omega)]; omega
              have Hv := Lib.hid hv
              clear hv hsg hpar
              go_wp2_with fail
              refine (at_any (fun i => polO (freeB l N) (pow2 N) (N + 1) i) (N + 1) (by omega) (-1) _ _ Hi15.out).mono ?_
              rintro e wz ⟨rfl, rfl⟩
              rw [Hv.out]
              go_wp2_with fail
              refine (acyclic_any l N _ _ E15.out.he hN hle (fun j hj => (Hok.out j hj).1) ac Hac.out).mono ?_
              rintro e wy ⟨rfl, hby⟩
              rw [HS.out]
              have Ey := Lib.hid (E15.out.below hby)
              clear hby
              go_wp2
              go_ret
              exact ⟨rfl, Ey.out.hb⟩
            · have hsg : sg N = -1 := if_neg (by omega)
              have hv : wI (horD (fun i => polO (freeB l N) (pow2 N) (N + 1) i) (-1) (N + 1) (N + 1)) = -S := by
                rw [Hst.out, hsg, Int.neg_mul, Int.one_mul, wI_64]; unfold wrap64; omega
              have hp2 : (N : Int) % 2 = 1 := by omega
              have hp3 : (N : Int).tmod 2 = 1 := by rw [Int.tmod_eq_emod_of_nonneg (by omega)]; omega
              have Hv := Lib.hid hv
              clear hv hsg hpar
              go_wp2_with fail
              refine (at_any (fun i => polO (freeB l N) (pow2 N) (N + 1) i) (N + 1) (by omega) (-1) _ _ Hi15.out).mono ?_
              rintro e wz ⟨rfl, rfl⟩
              rw [Hv.out]
              go_wp2_with fail
              refine (acyclic_any l N _ _ E15.out.he hN hle (fun j hj => (Hok.out j hj).1) ac Hac.out).mono ?_
              rintro e wy ⟨rfl, hby⟩
              rw [HS.out]
              have Ey := Lib.hid (E15.out.below hby)
              clear hby
              go_wp2
              go_ret
              exact ⟨rfl, Ey.out.hb⟩
    · have hN7 : 6 < N := by omega
      clear hN6
      rcases Nat.lt_or_ge 10 l.length with hle | hle
      · go_wp2
        go_ret
        exact ⟨rfl, E14.out.hb⟩
      · rcases Nat.mod_two_eq_zero_or_one N with hpar | hpar
        · have hsg : sg N = 1 := if_pos hpar
          have hv : wI (horD (fun i => polO (freeB l N) (pow2 N) (N + 1) i) (-1) (N + 1) (N + 1)) = S := by
            rw [Hst.out, hsg, Int.one_mul, wI_64]; unfold wrap64; omega
          have hp2 : (N : Int) % 2 = 0 := by omega
          have hp3 : (N : Int).tmod 2 = 0 := by rw [Int.tmod_eq_emod_of_nonneg (by omega)]; omega
          have Hv := Lib.hid hv
          clear hv hsg hpar
          go_wp2_with fail
          refine (at_any (fun i => polO (freeB l N) (pow2 N) (N + 1) i) (N + 1) (by omega) (-1) _ _ Hi14.out).mono ?_
          rintro e wz ⟨rfl, rfl⟩
          rw [Hv.out]
          go_wp2_with fail
          refine (acyclic_any l N _ _ E14.out.he hN hle (fun j hj => (Hok.out j hj).1) ac Hac.out).mono ?_
          rintro e wy ⟨rfl, hby⟩
          rw [HS.out]
          have Ey := Lib.hid (E14.out.below hby)
          clear hby
          go_wp2
          go_ret
          exact ⟨rfl, Ey.out.hb⟩
        · have hsg : sg N = -1 := if_neg (by omega)
          have hv : wI (horD (fun i => polO (freeB l N) (pow2 N) (N + 1) i) (-1) (N + 1) (N + 1)) = -S := by
            rw [Hst.out, hsg, Int.neg_mul, Int.one_mul, wI_64]; unfold wrap64; omega
          have hp2 : (N : Int) % 2 = 1 := by omega
          have hp3 : (N : Int).tmod 2 = 1 := by rw [Int.tmod_eq_emod_of_nonneg (by omega)]; omega
          have Hv := Lib.hid hv
          clear hv hsg hpar
          go_wp2_with fail
          refine (at_any (fun i => polO (freeB l N) (pow2 N) (N + 1) i) (N + 1) (by omega) (-1) _ _ Hi14.out).mono ?_
          rintro e wz ⟨rfl, rfl⟩
          rw [Hv.out]
          go_wp2_with fail
          refine (acyclic_any l N _ _ E14.out.he hN hle (fun j hj => (Hok.out j hj).1) ac Hac.out).mono ?_
          rintro e wy ⟨rfl, hby⟩
          rw [HS.out]
          have Ey := Lib.hid (E14.out.below hby)
          clear hby
          go_wp2
          go_ret
          exact ⟨rfl, Ey.out.hb⟩
  · have q : (c != 0) = true := by simp [hz]
    rcases R11.out with ⟨-, rfl⟩ | ⟨h, -⟩
    · have Hz := Lib.hid hz
      clear hz
      go_wp2
      go_ret
      exact ⟨rfl, E13.out.hb⟩
    · exact absurd h hz

end Go.Proofs.YtfflnpcbpcldeaaDoor
