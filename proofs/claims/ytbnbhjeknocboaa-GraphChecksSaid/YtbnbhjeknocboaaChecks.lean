/- arborlaw.GraphChecks answers true. (Printed by tools/genchecks.py.) -/
import Derived.Test.YtbnbhjeknocboaaNear
import Derived.Test.YtbnbhjeknocboaaMakesP
import Derived.Test.YtbnbhjeknocboaaOf
namespace Go.Proofs.Ytbnbhjeknocboaa
open Go.RowKit

abbrev FormR (l : List (Int × Int)) (N : Nat) (N' : Int) (L' : List (Int × Int)) (c' a' : Int) : Prop := N' = (N : Int) ∧ L' = formL N l ∧ c' = 0 ∧ a' = 0
theorem form_is {n : Int} {l : List (Int × Int)} {N' : Int} {L' : List (Int × Int)} {c' a' : Int} (hs : GSpec (FormR l) n l N' L' c' a') (s : Value) (w : World) (h : IsEdges w s l) :
    Calls Try.prog 30 #[.agg #[.int .i64 n, s]] w (TwoPost N' L' c' a' w) := by
  rcases hs.cases with ⟨c, a, h0, hc, rfl, rfl, rfl, rfl⟩ | ⟨N, rfl, hg, rfl, rfl, rfl, rfl⟩
  · exact form_bad h0 hc s w h
  · exact form_ok hg s w h
/-- What graph.Near answers, at whatever graph. -/
def NearG (n : Int) (l : List (Int × Int)) (v : Int) (L : List Int) (c' a' : Int) : Prop :=
  ∃ c a, GraphSpec n l c a ∧ ((c ≠ 0 ∧ L = [] ∧ c' = c ∧ a' = a) ∨ (c = 0 ∧ NearR l v n.toNat L c' a'))
theorem NearG.bad {n : Int} {l : List (Int × Int)} {v : Int} {L : List Int} {c' a' c a : Int} (h : NearG n l v L c' a') (hs : GraphSpec n l c a) (hc : c ≠ 0) : L = [] ∧ c' = c ∧ a' = a := by
  obtain ⟨c0, a0, h0, h | h⟩ := h
  · obtain ⟨rfl, rfl⟩ := h0.uniq hs
    exact h.2
  · obtain ⟨rfl, _⟩ := h0.uniq hs
    exact absurd h.1 hc
theorem NearG.good {N : Nat} {l : List (Int × Int)} {v : Int} {L : List Int} {c' a' : Int} (h : NearG N l v L c' a') (hg : GoodGraph N l) : NearR l v N L c' a' := by
  obtain ⟨c0, a0, h0, h | h⟩ := h
  · obtain ⟨rfl, _⟩ := h0.uniq hg.spec
    exact absurd rfl h.1
  · simpa using h.2
theorem NearR.ex (l : List (Int × Int)) (v : Int) (N : Nat) : ∃ L c a, NearR l v N L c a := by
  by_cases h : v < 0 ∨ (N : Int) ≤ v
  · exact ⟨[], 3, 0, Or.inl ⟨h, rfl, rfl, rfl⟩⟩
  · exact ⟨_, 0, 0, Or.inr ⟨by omega, by omega, rfl, rfl, rfl⟩⟩
theorem NearG.ex (n : Int) (l : List (Int × Int)) (v : Int) : ∃ L c a, NearG n l v L c a := by
  obtain ⟨c, a, h⟩ := GraphSpec.ex n l
  by_cases hc : c = 0
  · obtain ⟨L, c', a', h'⟩ := NearR.ex l v n.toNat
    exact ⟨L, c', a', c, a, h, Or.inr ⟨hc, h'⟩⟩
  · exact ⟨[], c, a, c, a, h, Or.inl ⟨hc, rfl, rfl, rfl⟩⟩
theorem near_is {n : Int} {l : List (Int × Int)} {v : Int} {L : List Int} {c' a' : Int} (hs : NearG n l v L c' a') (s : Value) (w : World) (h : IsEdges w s l) :
    Calls Try.prog 31 #[.agg #[.int .i64 n, s], .int .i64 v] w (NearPost L c' a' w) := by
  obtain ⟨c, a, h0, ⟨hc, rfl, rfl, rfl⟩ | ⟨rfl, hr⟩⟩ := hs
  · exact near_bad h0 hc s v w h
  · obtain ⟨hg, _⟩ := h0.good
    obtain ⟨N, rfl⟩ := Int.eq_ofNat_of_zero_le hg.lo
    exact near_ok hg v (by simpa using hr) s w h

/-- What stands throughout. -/
structure CE (w wr : World) (n : Int) (s : Value) (l : List (Int × Int)) (B : Nat) (v2 : Value) : Prop where
  hb : Below w.heap.size w wr
  cn : wr.cell? ⟨w.heap.size, 0, none⟩ = some (.int .i64 n)
  cs : wr.cell? ⟨w.heap.size, 1, none⟩ = some s
  own : VarG wr B n v2 l
  he : IsEdges wr s l
theorem CE.below {w wr w' : World} {n : Int} {s : Value} {l : List (Int × Int)} {B : Nat} {v2 : Value} (h : CE w wr n s l B v2) (hb : Below wr.heap.size wr w') : CE w w' n s l B v2 :=
  ⟨h.hb.trans (hb.mono h.hb.size), below_cell hb h.cn, below_cell hb h.cs, h.own.below hb, h.he.below hb⟩
theorem CE.facts {w wr : World} {n : Int} {s : Value} {l : List (Int × Int)} {B : Nat} {v2 : Value} (h : CE w wr n s l B v2) :
    wr.cell? ⟨w.heap.size, 0, none⟩ = some (.int .i64 n) ∧ wr.cell? ⟨w.heap.size, 1, none⟩ = some s ∧ wr.cell? ⟨B, 0, none⟩ = some (.int .i64 n) ∧ wr.cell? ⟨B, 1, none⟩ = some v2 ∧ w.heap.size < wr.heap.size ∧ B < wr.heap.size :=
  ⟨h.cn, h.cs, h.own.c0, h.own.c1, World.block_lt_of_cell? _ _ h.cn, h.own.lt⟩
/-- What the loads of one statement find. -/
def SC (A : Nat) (n : Int) (s : Value) (B : Nat) (v2 : Value) (P Q : Nat) (c a : Int) (w' : World) : Prop :=
  w'.cell? ⟨A, 0, none⟩ = some (.int .i64 n) ∧ w'.cell? ⟨A, 1, none⟩ = some s ∧ w'.cell? ⟨B, 0, none⟩ = some (.int .i64 n) ∧ w'.cell? ⟨B, 1, none⟩ = some v2 ∧ w'.cell? ⟨P, 0, none⟩ = some (.int .i64 c) ∧ w'.cell? ⟨P, 1, none⟩ = some (.int .i64 a) ∧ w'.cell? ⟨Q, 0, none⟩ = some (.int .i64 c) ∧ w'.cell? ⟨Q, 1, none⟩ = some (.int .i64 a)
theorem SC.below {A : Nat} {n : Int} {s : Value} {B : Nat} {v2 : Value} {P Q : Nat} {c a : Int} {w w' : World} (h : SC A n s B v2 P Q c a w) (hb : Below w.heap.size w w') : SC A n s B v2 P Q c a w' := by
  obtain ⟨h1, h2, h3, h4, h5, h6, h7, h8⟩ := h
  exact ⟨below_cell hb h1, below_cell hb h2, below_cell hb h3, below_cell hb h4, below_cell hb h5, below_cell hb h6, below_cell hb h7, below_cell hb h8⟩

set_option maxHeartbeats 6400000 in
set_option maxRecDepth 100000 in
theorem checks_any (n v : Int) (l : List (Int × Int)) (hl : l.length * 16 ≤ 140737488351232) (s : Value) (w : World) (h : IsEdges w s l) :
    Calls Try.prog 5 #[.agg #[.int .i64 n, s], .int .i64 v] w fun e w' => e = .returned (.bool true) ∧ Below w.heap.size w w' := by
  obtain ⟨ad, cap, rfl⟩ := h.form
  obtain ⟨c, a, hs⟩ := GraphSpec.ex n l
  obtain ⟨N1, L1, c1, d1, h1⟩ := GSpec.ex n l (R := FormR l) (fun N => ⟨_, _, _, _, rfl, rfl, rfl, rfl⟩)
  obtain ⟨L2, c2, d2, h2⟩ := NearG.ex n l v
  obtain ⟨e1, e2⟩ : c1 = c ∧ d1 = a := by
    by_cases hc : c = 0
    · subst hc
      obtain ⟨hg, rfl⟩ := hs.good
      obtain ⟨N, rfl⟩ := Int.eq_ofNat_of_zero_le hg.lo
      obtain ⟨-, -, rfl, rfl⟩ := h1.good hg
      exact ⟨rfl, rfl⟩
    · obtain ⟨-, -, rfl, rfl⟩ := h1.bad hs hc
      exact ⟨rfl, rfl⟩
  subst e1 e2
  have Hs := Lib.hid hs; have H1 := Lib.hid h1; have H2 := Lib.hid h2
  have hb1 := below1 w (Obj.cells #[.int .i64 n, .slice ad l.length cap] 24)
  have c0 := two_cells w (.int .i64 n) (.slice ad l.length cap) 24
  have cn := c0.1
  have cs := c0.2
  have he := h.below hb1
  clear c0 h hs h1 h2
  go_enter Try.func5, Try.ntmps5
  go_upto_region 1 with fail
  generalize w.alloc (Obj.cells #[.int .i64 n, .slice ad l.length cap] 24) = w1 at *
  have Cn := Lib.hid (And.intro cn cs); have He := Lib.hid he; have Hb1 := Lib.hid hb1
  clear he hb1
  go_wp2_with fail
  refine (own_any l n (.slice ad l.length cap) _ He.out hl).mono ?_
  rintro e w2 ⟨v2, rfl, ho2, hb2⟩
  obtain ⟨a2, k2, rfl⟩ := ho2.form
  have b3 := upb hb2 (below1 w2 (Obj.cells #[.int .i64 n, .slice a2 l.length k2] 24))
  have E3 := Lib.hid (show CE w (w2.alloc (Obj.cells #[.int .i64 n, .slice a2 l.length k2] 24)) n (.slice ad l.length cap) l w2.heap.size (.slice a2 l.length k2) from ⟨upb Hb1.out b3, below_cell b3 Cn.out.1, below_cell b3 Cn.out.2, VarG.new (n := n) 24 ho2.edges, He.out.below b3⟩)
  clear cn cs ho2 hb2 b3 He Hb1 Cn
  go_upto_region 2 with fail
  generalize w2.alloc (Obj.cells #[.int .i64 n, .slice a2 l.length k2] 24) = w3 at *
  generalize w2.heap.size = B at *
  obtain ⟨u0, u1, u2, u3, u4, u5⟩ := E3.out.facts
  go_wp2_with fail
  refine (rcheck_is Hs.out _ _ E3.out.he).mono ?_
  rintro e w4 ⟨rfl, hb4⟩
  have b5 := upb hb4 (below1 w4 (Obj.cells #[.int .i64 c1, .int .i64 d1] 28))
  have W5 := Lib.hid (VarF.new w4 c1 d1 28)
  have E5 := Lib.hid (E3.out.below b5)
  clear hb4 b5 u0 u1 u2 u3 u4 u5
  go_upto_region 3 with fail
  generalize w4.alloc (Obj.cells #[.int .i64 c1, .int .i64 d1] 28) = w5 at *
  generalize w4.heap.size = PF at *
  obtain ⟨u0, u1, u2, u3, u4, u5⟩ := E5.out.facts
  go_wp2_with fail
  refine (form_is H1.out _ _ E5.out.own.he).mono ?_
  rintro e w6 ⟨v6, ho6, hb6, rfl⟩
  obtain ⟨a6, k6, rfl⟩ := ho6.form
  have b7 := below2 w6 (Obj.cells #[.int .i64 N1, .slice a6 L1.length k6] 24) (Obj.cells #[.int .i64 c1, .int .i64 d1] 28)
  have X7 := Lib.hid ((VarG.new (n := N1) 24 ho6.edges).below (below1 _ (Obj.cells #[.int .i64 c1, .int .i64 d1] 28)))
  have f7 := VarF.new (w6.alloc (Obj.cells #[.int .i64 N1, .slice a6 L1.length k6] 24)) c1 d1 28
  rw [World.size_alloc] at f7
  have F7 := Lib.hid f7
  have E7 := Lib.hid (E5.out.below (upb hb6 b7))
  have W7 := Lib.hid (W5.out.below (upb hb6 b7))
  clear u0 u1 u2 u3 u4 u5 f7 b7 hb6 ho6
  go_upto_region 4 with fail
  generalize (w6.alloc (Obj.cells #[.int .i64 N1, .slice a6 L1.length k6] 24)).alloc (Obj.cells #[.int .i64 c1, .int .i64 d1] 28) = w7 at *
  generalize w6.heap.size = P1 at *
  obtain ⟨u0, u1, u2, u3, u4, u5⟩ := E7.out.facts
  go_wp2_with fail
  refine (near_is H2.out _ _ E7.out.own.he).mono ?_
  rintro e w8 ⟨v8, rfl, hi8, hb8⟩
  obtain ⟨a8, k8, o8, q8, rfl, -⟩ := id hi8
  have b9 := upb hb8 (below1 w8 (Obj.cells #[.int .i64 c2, .int .i64 d2] 28))
  have Y9 := Lib.hid (hi8.below (below1 w8 (Obj.cells #[.int .i64 c2, .int .i64 d2] 28)))
  have G9 := Lib.hid (VarF.new w8 c2 d2 28)
  have E9 := Lib.hid (E7.out.below b9)
  have W9 := Lib.hid (W7.out.below b9)
  have X9 := Lib.hid (X7.out.below b9)
  have F9 := Lib.hid (F7.out.below b9)
  clear u0 u1 u2 u3 u4 u5 b9 hb8 hi8
  go_upto_region 5 with fail
  generalize w8.alloc (Obj.cells #[.int .i64 c2, .int .i64 d2] 28) = w9 at *
  generalize w8.heap.size = P2 at *
  have q0 : SC w.heap.size n (.slice ad l.length cap) B (.slice a2 l.length k2) PF (P1 + 1) c1 d1 w9.drew := ⟨E9.out.cn, E9.out.cs, E9.out.own.c0, E9.out.own.c1, W9.out.c0, W9.out.c1, F9.out.c0, F9.out.c1⟩
  have hd : Below w9.heap.size w9 w9.drew := (Below.refl _ _).drew
  go_cut [47] from 29 to 46 (fun s47 wx => s47 = .bool false ∧ Below w9.heap.size w9 wx)
  case first =>
    go_region_held3 (fun w' => w'.cell? ⟨w.heap.size, 0, none⟩ = some (.int .i64 n) ∧ w'.cell? ⟨w.heap.size, 1, none⟩ = some (.slice ad l.length cap) ∧ w'.cell? ⟨B, 0, none⟩ = some (.int .i64 n) ∧ w'.cell? ⟨B, 1, none⟩ = some (.slice a2 l.length k2) ∧ w'.cell? ⟨PF, 0, none⟩ = some (.int .i64 c1) ∧ w'.cell? ⟨PF, 1, none⟩ = some (.int .i64 d1) ∧ w'.cell? ⟨P1 + 1, 0, none⟩ = some (.int .i64 c1) ∧ w'.cell? ⟨P1 + 1, 1, none⟩ = some (.int .i64 d1))
      (first | exact q3 | exact q2 | exact q1 | exact q0)
      (first
        | (go_at_call 12; refine (begun_any _).mono ?_; rintro e wp ⟨rfl, hbp⟩; have h1 := upb hd hbp; have q1 := SC.below q0 hbp)
        | (go_at_call 32; refine (gcheck_is Hs.out _ _ (E9.out.own.he.below h1)).mono ?_; rintro e wq ⟨rfl, hbq⟩; have h2 := upb h1 hbq; have q2 := SC.below q1 hbq)
        | (go_at_call 13; refine (kept_is (decide_eq_true ⟨rfl, rfl⟩) _ _ _ (E9.out.own.he.below h2) (E9.out.he.below h2)).mono ?_; rintro e wr ⟨rfl, hbr⟩; have h3 := upb h2 hbr; have q3 := SC.below q2 hbr))
    all_goals
      go_wp2_with fail
      go_meet
      exact ⟨rfl, h3⟩
  case rest =>
  obtain ⟨w10, rfl⟩ : ∃ w10 : World, w10 = wc := ⟨_, rfl⟩
  obtain ⟨rfl, hb10⟩ := hcut
  have E10 := Lib.hid (E9.out.below hb10)
  have W10 := Lib.hid (W9.out.below hb10)
  have X10 := Lib.hid (X9.out.below hb10)
  have G10 := Lib.hid (G9.out.below hb10)
  have Y10 := Lib.hid (Y9.out.below hb10)
  clear hb10 hd q0 E9 W9 X9 G9 Y9 F9
  have k0 := W10.out.c0
  have k1 := W10.out.c1
  go_upto_region 7 with fail
  by_cases hc : c1 = 0
  · subst hc
    obtain ⟨hg, rfl⟩ := Hs.out.good
    obtain ⟨N, rfl⟩ := Int.eq_ofNat_of_zero_le hg.lo
    obtain ⟨rfl, rfl, -, -⟩ := H1.out.good hg
    have hr2 := H2.out.good hg
    have hN : N ≤ 100 := by have := hg.hi; omega
    have hok : ∀ j, j < l.length → EndsOk (N : Int) (l.getD j (0, 0)) ∧ (l.getD j (0, 0)).1 ≠ (l.getD j (0, 0)).2 := fun j hj => ⟨(hg.fine j hj).1, (hg.fine j hj).2.1⟩
    have Hok := Lib.hid hok
    have HR2 := Lib.hid hr2
    clear hok hr2 H1 H2 Hs hg
    have cn := E10.out.cn
    have cs := E10.out.cs
    go_upto_region 9 with fail
    clear k0 k1
    go_wp2_with fail
    refine (gridOf_any l N _ _ E10.out.he hN Hok.out).mono ?_
    rintro e w11 ⟨v11, rfl, hg11, hb11⟩
    obtain ⟨a11, k11, rfl⟩ := HasGrid.form ⟨_, hg11⟩
    have T11 := Lib.hid (show HasGrid w11 (.slice a11 N k11) N (adj l) from ⟨_, hg11⟩)
    have E11 := Lib.hid (E10.out.below hb11)
    have X11 := Lib.hid (X10.out.below hb11)
    have G11 := Lib.hid (G10.out.below hb11)
    have Y11 := Lib.hid (Y10.out.below hb11)
    clear hg11 hb11 cn cs E10 W10 X10 G10 Y10
    go_upto_region 10 with fail
    have q0 : w11.drew.cell? ⟨P1, 0, none⟩ = some (.int .i64 (N : Int)) ∧ w11.drew.cell? ⟨P1, 1, none⟩ = some (.slice a6 (formL N l).length k6) := ⟨X11.out.c0, X11.out.c1⟩
    have hd : Below w11.heap.size w11 w11.drew := (Below.refl _ _).drew
    go_cut [76] from 72 to 75 (fun s76 wx => s76 = .bool false ∧ Below w11.heap.size w11 wx)
    case first =>
      go_region_held3 (fun w' => w'.cell? ⟨P1, 0, none⟩ = some (.int .i64 (N : Int)) ∧ w'.cell? ⟨P1, 1, none⟩ = some (.slice a6 (formL N l).length k6))
        (first | exact q2 | exact q1 | exact q0)
        (first
          | (go_at_call 19; refine (of_any N (adj l) _ _ hN (T11.out.below hd)).mono ?_; rintro e wp ⟨vp, hop, hbp, rfl⟩; have h1 := upb hd hbp; have q1 := And.intro (below_cell hbp q0.1) (below_cell hbp q0.2); obtain ⟨ap, kp, rfl⟩ := hop.form)
          | (go_at_call 18; refine (same_any (formL N l) (formL N l) (N : Int) (N : Int) _ _ _ (X11.out.he.below h1) hop.edges).mono ?_; rintro e wq ⟨rfl, hbq⟩; have h2 := upb h1 hbq; have q2 := And.intro (below_cell hbq q1.1) (below_cell hbq q1.2); rw [decide_eq_true (show (N : Int) = N ∧ formL N l = formL N l from ⟨rfl, rfl⟩)]))
      all_goals
        go_wp2_with fail
        go_meet
        exact ⟨rfl, h2⟩
    case rest =>
    obtain ⟨w12, rfl⟩ : ∃ w12 : World, w12 = wc := ⟨_, rfl⟩
    obtain ⟨rfl, hb12⟩ := hcut
    have E12 := Lib.hid (E11.out.below hb12)
    have G12 := Lib.hid (G11.out.below hb12)
    have Y12 := Lib.hid (Y11.out.below hb12)
    have T12 := Lib.hid (T11.out.below hb12)
    clear hb12 hd q0 E11 X11 G11 Y11 T11
    have cn := E12.out.cn
    rcases HR2.out with ⟨hout, rfl, rfl, rfl⟩ | ⟨hv0, hvN, rfl, rfl, rfl⟩
    · have q0 : w12.drew.cell? ⟨P2, 0, none⟩ = some (.int .i64 3) ∧ w12.drew.cell? ⟨P2, 1, none⟩ = some (.int .i64 0) := ⟨G12.out.c0, G12.out.c1⟩
      have hd : Below w12.heap.size w12 w12.drew := (Below.refl _ _).drew
      by_cases hlo : v < 0
      · clear hout
        go_upto_region 13 with fail
        go_region_held3 (fun w' => w'.cell? ⟨P2, 0, none⟩ = some (.int .i64 3) ∧ w'.cell? ⟨P2, 1, none⟩ = some (.int .i64 0))
          (first | exact q1 | exact q0)
          (first | (go_at_call 20; refine (F_any _ _ _).mono ?_; rintro e wp ⟨rfl, rfl⟩; have h1 := upb hd (below1 w12.drew (Obj.cells #[.int .i64 3, .int .i64 0] 28)); have q1 := And.intro (below_cell (below1 w12.drew (Obj.cells #[.int .i64 3, .int .i64 0] 28)) q0.1) (below_cell (below1 w12.drew (Obj.cells #[.int .i64 3, .int .i64 0] 28)) q0.2)))
        all_goals
          go_wp2
          go_ret
          exact ⟨rfl, upb E12.out.hb h1⟩
      · have hhi : (N : Int) ≤ v := by omega
        clear hout
        go_upto_region 13 with fail
        go_region_held3 (fun w' => w'.cell? ⟨P2, 0, none⟩ = some (.int .i64 3) ∧ w'.cell? ⟨P2, 1, none⟩ = some (.int .i64 0))
          (first | exact q1 | exact q0)
          (first | (go_at_call 20; refine (F_any _ _ _).mono ?_; rintro e wp ⟨rfl, rfl⟩; have h1 := upb hd (below1 w12.drew (Obj.cells #[.int .i64 3, .int .i64 0] 28)); have q1 := And.intro (below_cell (below1 w12.drew (Obj.cells #[.int .i64 3, .int .i64 0] 28)) q0.1) (below_cell (below1 w12.drew (Obj.cells #[.int .i64 3, .int .i64 0] 28)) q0.2)))
        all_goals
          go_wp2
          go_ret
          exact ⟨rfl, upb E12.out.hb h1⟩
    · obtain ⟨x, rfl⟩ := Int.eq_ofNat_of_zero_le hv0
      have hx : x < N := by omega
      simp only [Int.toNat_natCast] at Y12 ⊢
      have n1 : ¬ (x : Int) < 0 := by omega
      have n2 : ¬ (N : Int) ≤ (x : Int) := by omega
      clear hv0 hvN HR2
      go_upto_region 16 with fail
      obtain ⟨wo, rfl⟩ : ∃ wo : World, wo = w12 := ⟨_, rfl⟩
      clear cn
      go_loopg [12, 13] N (fun g s12 s13 wr => ∃ (i : Nat), i ≤ N ∧ g = N - i ∧ s13 = .int .i64 i ∧ wr.ownsRow wo.heap.size 3 1 s12 (nbrs l i x).length (nvals (nbrs l i x)) ∧ Below wo.heap.size wo wr)
      case atStart => exact ⟨0, Nat.zero_le _, rfl, rfl, World.ownsRow_nil _ _ _ _, Below.refl _ _⟩
      case round =>
        obtain ⟨i, hi, rfl, rfl, ho, hb⟩ := hrel
        have cn := below_cell hb E12.out.cn
        obtain ⟨ai, ki, rfl⟩ := ownsRow_form ho
        have HO := Lib.hid ho
        have HB := Lib.hid hb
        have hlen : (nbrs l i x).length ≤ i := by rw [nbrs_length]; exact cnt_le _ _
        by_cases hlt : i < N
        · obtain ⟨gb, gof, gc, gr, eg, g1, g2⟩ := (T12.out.below hb).entry hx hlt
          simp only [Value.slice.injEq] at eg
          obtain ⟨rfl, -, rfl⟩ := eg
          have hsz := hb.size
          cases ha : adj l x i with
          | true =>
            rw [ha] at g2
            have hs : nbrs l (i + 1) x = nbrs l i x ++ [i] := by unfold nbrs; rw [List.range_succ, List.filter_append]; simp [ha]
            have Hs := Lib.hid hs
            clear ha hs ho hb
            go_wp2_with (at_builtin; refine wpList_append_has rfl (.tmp 106) (.tmp 108) 25 rfl wo.heap.size 3 (.int .i64 0) 8 Try.underlying25 info3 rfl _ (nbrs l i x).length (nvals (nbrs l i x)) rfl (HO.out.alloc _) _ 1 (nvals [i]) rfl (HasCells.one _ _ _ rfl) (by omega) (by omega) (by simp; omega) ?_; intro a4 c4 w4 hown4 hg4; have Ho4 := Lib.hid hown4; have Hg4 := Lib.hid hg4; clear hown4 hg4)
            go_roundg (N - (i + 1))
            case measure => go_light; omega
            case rel =>
              refine ⟨i + 1, by omega, rfl, by go_num, ?_, ?_⟩
              · have h9 := Ho4.out
                rw [Hs.out]
                simp only [List.length_append, List.length_cons, List.length_nil, Nat.zero_add]
                have e9 : nvals (nbrs l i x ++ [i]) = nvals (nbrs l i x) ++ nvals [i] := by simp [nvals, ints]
                rw [e9]
                exact h9
              · have hb2 := (HB.out.alloc HB.out.size (Obj.cells #[.int .i64 (i : Int)] 3))
                exact hb2.grown Hg4.out hb2.size (fun g e => (HO.out.lt g e).1)
          | false =>
            rw [ha] at g2
            have hs : nbrs l (i + 1) x = nbrs l i x := by unfold nbrs; rw [List.range_succ, List.filter_append]; simp [ha]
            have Hs := Lib.hid hs
            clear ha hs ho hb
            go_wp2
            go_roundg (N - (i + 1))
            case measure => go_light; omega
            case rel => exact ⟨i + 1, by omega, rfl, by go_num, by rw [Hs.out]; exact HO.out, HB.out⟩
        · obtain rfl : i = N := by omega
          have hg2 := G12.out.below hb
          have g0 := hg2.c0
          have g1 := hg2.c1
          have hy2 := Y12.out.below hb
          clear ho hb hg2
          go_wp2_with fail
          refine (ints_is (c := true) (ints (nbrs l i x)) (ints (nbrs l i x)) _ _ _ hy2 (IsInts.owned HO.out) (decide_eq_true rfl)).mono ?_
          rintro e w14 ⟨rfl, hb14⟩
          have HB14 : Hid (Below wr.heap.size wr w14) := Lib.hid hb14.below
          clear hb14
          go_wp2
          go_ret
          exact ⟨rfl, upb (upb E12.out.hb HB.out) HB14.out⟩
  · have q : (c1 != 0) = true := by simp [hc]
    obtain ⟨rfl, rfl, -, -⟩ := H1.out.bad Hs.out hc
    obtain ⟨rfl, rfl, rfl⟩ := H2.out.bad Hs.out hc
    have x0 := X10.out.c0; have x1 := X10.out.c1
    have g0 := G10.out.c0; have g1 := G10.out.c1
    have Hc := Lib.hid hc
    clear hc
    go_wp2
    go_ret
    exact ⟨rfl, E10.out.hb⟩

end Go.Proofs.Ytbnbhjeknocboaa
