/- arborlaw.ChordsIntervals answers true: the walk. -/
import Derived.Test.YtnhhohhhpaejmaaCBeg
import Derived.Test.YtnhhohhhpaejmaaIntvW
import Derived.Test.YtnhhohhhpaejmaaHolW
import Derived.Test.YtnhhohhhpaejmaaPQ
import Derived.Test.YtnhhohhhpaejmaaSmallF
import Derived.Test.YtnhhohhhpaejmaaPR
import Derived.Test.YtnhhohhhpaejmaaPT
import Derived.Test.YtnhhohhhpaejmaaGOwn
import Derived.Test.YtnhhohhhpaejmaaPH
import Derived.Test.YtnhhohhhpaejmaaPF
import Derived.Test.YtnhhohhhpaejmaaGridOf
import Derived.Deep.RegionHeld3
namespace Go.Proofs.Ytnhhohhhpaejmaa
open Go Go.RowKit

theorem upp9 {a b c : World} (h : Below a.heap.size a b) (k : Below b.heap.size b c) : Below a.heap.size a c := h.trans (k.mono h.size)
set_option maxHeartbeats 6400000 in
set_option maxRecDepth 100000 in
theorem intervalsLaw_any (n : Int) (l : List (Int × Int)) (hl : l.length * 16 ≤ 140737488351232) (sv : Value) (w : World) (h : IsEdges w sv l) :
    Calls Try.prog 6 #[.agg #[.int .i64 n, sv]] w fun e w' => e = .returned (.bool true) ∧ Below w.heap.size w w' := by
  obtain ⟨ad, cap, rfl⟩ := h.form
  have hb1 := below1 w (Obj.cells #[.int .i64 n, .slice ad l.length cap] 24)
  have c0 := two_cells w (.int .i64 n) (.slice ad l.length cap) 24
  have cn := c0.1
  have cs := c0.2
  have he := h.below hb1
  have H0 := Lib.hid h
  clear c0 h
  go_enter Try.func6, Try.ntmps6
  go_upto_region 1 with fail
  generalize w.alloc (Obj.cells #[.int .i64 n, .slice ad l.length cap] 24) = w1 at *
  have Cn := Lib.hid (And.intro cn cs); have He := Lib.hid he; have Hb1 := Lib.hid hb1
  clear he hb1
  go_wp2_with fail
  refine (own_any l n (.slice ad l.length cap) _ He.out hl).mono ?_
  rintro e w2 ⟨v2, rfl, ho2, hb2⟩
  obtain ⟨a2, c2, rfl⟩ := ho2.form
  have hb3 := upp9 hb2 (below1 w2 (Obj.cells #[.int .i64 n, .slice a2 l.length c2] 24))
  have o0 := two_cells w2 (.int .i64 n) (.slice a2 l.length c2) 24
  have E3 := Lib.hid (show LB w (w2.alloc (Obj.cells #[.int .i64 n, .slice a2 l.length c2] 24)) n (.slice ad l.length cap) (.slice a2 l.length c2) l w2.heap.size from ⟨Hb1.out.trans (hb3.mono Hb1.out.size), below_cell hb3 Cn.out.1, below_cell hb3 Cn.out.2, o0.1, o0.2, He.out.below hb3, ho2.edges.below (below1 w2 _)⟩)
  have Ho3 := Lib.hid (ho2.below (below1 w2 (Obj.cells #[.int .i64 n, .slice a2 l.length c2] 24)))
  have Hlt := Lib.hid (show ∀ g, (Value.slice a2 l.length c2).ownBlock = some g → g < w2.heap.size from fun g e => (World.ownsRow.lt ho2 g e).2)
  have lB := Nat.lt_of_lt_of_le (show w.heap.size < w1.heap.size from World.block_lt_of_cell? _ _ cn) hb2.size
  clear cn cs ho2 hb2 hb3 o0 He Hb1 Cn
  go_upto_region 2 with fail
  generalize w2.alloc (Obj.cells #[.int .i64 n, .slice a2 l.length c2] 24) = w3 at *
  generalize w2.heap.size = B at *
  have cn := E3.out.cn
  have cs := E3.out.cs
  go_wp2_with fail
  refine (smallFault_any n 12 l _ _ E3.out.he).mono ?_
  rintro e w5 ⟨c, a, hsp, rfl, hb5⟩
  have Hsp := Lib.hid hsp
  have F6 := Lib.hid (FV.new w5 c a)
  have E6 := Lib.hid (E3.out.below (upp9 hb5 (below1 w5 (Obj.cells #[.int .i64 c, .int .i64 a] 27))))
  have lC : B < w5.heap.size := Nat.lt_of_lt_of_le (World.block_lt_of_cell? _ _ E3.out.on) hb5.size
  have Ho6 := Lib.hid (Ho3.out.below (upp9 hb5 (below1 w5 (Obj.cells #[.int .i64 c, .int .i64 a] 27))))
  clear hsp hb5 cn cs
  go_upto_region 3 with fail
  generalize w5.alloc (Obj.cells #[.int .i64 c, .int .i64 a] 27) = w6 at *
  generalize w5.heap.size = C at *
  have on := E6.out.on
  have os := E6.out.os
  have cn := E6.out.cn
  have cs := E6.out.cs
  obtain ⟨f0, f1, f2, f3, f4⟩ := F6.out.facts
  go_wp2_with fail
  refine (intervals_any n l _ _ E6.out.ho).mono ?_
  rintro e w10 ⟨c', a', v, rfl, hb10, hres⟩
  have b11 := upp9 hb10 (below1 w10 (Obj.cells #[.int .i64 c', .int .i64 a'] 27))
  have E11 := Lib.hid (E6.out.below b11)
  have F11 := Lib.hid (F6.out.below b11)
  have G11 := Lib.hid (FV.new w10 c' a')
  obtain ⟨P, av, cv, rfl, hcase⟩ : ∃ (P : Nat) (av : Option Addr) (cv : Nat), v = .slice av P cv ∧ ((c' ≠ 0 ∧ SmallSpec n l 12 c' a' ∧ P = 0) ∨ (SmallSpec n l 12 0 0 ∧ a' = 0 ∧ ∃ N : Nat, n = (N : Int) ∧ N ≤ 12 ∧ GoodGraph n l ∧
      ((c' = 9 ∧ P = 0 ∧ ((∃ m, HolR N (adj l) m) ∨ Tri3 N (adj l))) ∨ (c' = 0 ∧ P = N ∧ ∃ b lo hi, av = some ⟨b, 0, none⟩ ∧ IvRd (w10.alloc (Obj.cells #[.int .i64 c', .int .i64 a'] 27)) b N lo hi ∧ IvOk N (adj l) lo hi)))) := by
    rcases hres with ⟨h1, h2, rfl⟩ | ⟨h1, h2, N, h3, h4, h5, h6⟩
    · exact ⟨0, none, 0, rfl, .inl ⟨h1, h2, rfl⟩⟩
    · rcases h6 with ⟨h7, rfl, h8⟩ | ⟨h7, b, lo, hi, rfl, h8, h9⟩
      · exact ⟨0, none, 0, rfl, .inr ⟨h1, h2, N, h3, h4, h5, .inl ⟨h7, rfl, h8⟩⟩⟩
      · exact ⟨N, _, N, rfl, .inr ⟨h1, h2, N, h3, h4, h5, .inr ⟨h7, rfl, b, lo, hi, rfl, h8.below (below1 _ _), h9⟩⟩⟩
  have Hcase := Lib.hid hcase
  clear f0 f1 f2 f3 f4 on os cn cs b11 hb10 hres hcase
  go_upto_region 4 with fail
  generalize w10.alloc (Obj.cells #[.int .i64 c', .int .i64 a'] 27) = w11 at *
  generalize w10.heap.size = D at *
  go_wp2_with fail
  refine (chordsBegun_any w11).mono ?_
  rintro e w12 ⟨rfl, hb12⟩
  have E12 := Lib.hid (E11.out.below hb12); have F12 := Lib.hid (F11.out.below hb12); have G12 := Lib.hid (G11.out.below hb12); have B12 := Lib.hid hb12
  clear hb12 E11 F11 G11
  have on := E12.out.on
  have os := E12.out.os
  have cn := E12.out.cn
  have cs := E12.out.cs
  go_wp2_with fail
  refine (kept_is (r := true) (by simp) _ _ w12 E12.out.ho E12.out.he).mono ?_
  rintro e w13 ⟨rfl, hb13⟩
  have E13 := Lib.hid (E12.out.below hb13); have F13 := Lib.hid (F12.out.below hb13); have G13 := Lib.hid (G12.out.below hb13); have B13 := Lib.hid (upp9 B12.out hb13)
  clear hb13 on os cn cs E12 F12 G12 B12
  obtain ⟨h0, h1, -, -, -⟩ := F13.out.facts
  obtain ⟨g0, g1, -, -, -⟩ := G13.out.facts
  rcases Hcase.out with ⟨hc, hsp', rfl⟩ | ⟨hsp', rfl, N, rfl, hN12, hgood, hcase⟩
  · obtain ⟨e1, e2⟩ := SmallSpec.uniq hsp' Hsp.out
    subst e1 e2
    have q : (c' == 0) = false := by simp [hc]
    have q2 : (c' != 0) = true := by simp [hc]
    clear hc Hcase hsp'
    go_wp2
    go_ret
    exact ⟨rfl, E13.out.hb⟩
  · obtain ⟨e1, e2⟩ := SmallSpec.uniq Hsp.out hsp'
    subst e1 e2
    have Hg := Lib.hid hgood; have Hk := Lib.hid hcase
    have Hok := Lib.hid (show ∀ j, j < l.length → EndsOk (N : Int) (l.getD j (0, 0)) ∧ (l.getD j (0, 0)).1 ≠ (l.getD j (0, 0)).2 from fun j hj => ⟨(Hg.out.fine j hj).1, (Hg.out.fine j hj).2.1⟩)
    clear hgood hcase Hcase hsp'
    have cn := E13.out.cn
    have cs := E13.out.cs
    go_upto_region 8 with fail
    go_wp2_with fail
    refine (gridOf_any l N _ _ E13.out.he (by omega) Hok.out).mono ?_
    rintro e w14 ⟨v5, rfl, hg14, hb14⟩
    have Hg14 := Lib.hid (show HasGrid w14 v5 N (adj l) from ⟨_, hg14⟩)
    have E14 := Lib.hid (E13.out.below hb14); have G14 := Lib.hid (G13.out.below hb14); have B14 := Lib.hid (upp9 B13.out hb14)
    clear hg14 hb14 cn cs h0 h1 g0 g1 E13 F13 G13 B13
    obtain ⟨g0, g1, -, -, -⟩ := G14.out.facts
    rcases Hk.out with ⟨rfl, rfl, hno⟩ | ⟨rfl, hPN, b, lo, hi, rfl, hrd, hiv⟩
    · have Hno := Lib.hid hno
      clear hno Hk
      go_upto_region 10 with fail
      have q0 : w14.drew.cell? ⟨D, 0, none⟩ = some (.int .i64 9) ∧ w14.drew.cell? ⟨D, 1, none⟩ = some (.int .i64 0) := ⟨g0, g1⟩
      have hcur : Below w14.heap.size w14 w14.drew := (Below.refl _ _).drew
      by_cases htri : Tri3 N (adj l)
      · have Ht := Lib.hid htri
        clear htri
        refine wp_region_held_drew (S := fun w' => w'.cell? ⟨D, 0, none⟩ = some (.int .i64 9) ∧ w'.cell? ⟨D, 1, none⟩ = some (.int .i64 0)) (by kernel_rfl) q0 (fun hHeld => ?_)
        refine wpAnyH_take (i := 0) (oi := ?o_0) (v := .agg #[.int .i64 9, .int .i64 0]) ?ho_0 ?h1_0 ?h2_0 ?h3_0 ?hQ_0 ?hy_0 ?hS_0 ?rest_0
        case ho_0 => (simp only [List.getElem?_toArray, List.getElem?_cons_succ, List.getElem?_cons_zero]; exact rfl)
        case h1_0 => kernel_rfl
        case h2_0 => kernel_rfl
        case h3_0 => kernel_rfl
        case hy_0 => (refine Or.inl ⟨by rfl, fun w hSw => ?_⟩; (try dsimp only at hSw); obtain ⟨hs0, hs1⟩ := hSw; go_simp)
        case hQ_0 => exact fun _ _ _ h => h
        case hS_0 => assumption
        (try simp only [Act.put, List.setIfInBounds_toArray, List.set_cons_zero, List.set_cons_succ])
        refine wpAnyH_ready (rs := [1]) (by kernel_rfl) (by simp) ?_
        refine AllReadyH.cons (o := _) rfl (fun K hK => ?_) AllReadyH.nil
        go_simp
        go_at_call 21; refine (F_any _ _ _).mono ?_; rintro e wp ⟨rfl, rfl⟩; have hcur := upp9 hcur (below1 w14.drew (Obj.cells #[.int .i64 9, .int .i64 0] 27)); have q1 := And.intro (below_cell (below1 w14.drew (Obj.cells #[.int .i64 9, .int .i64 0] 27)) q0.1) (below_cell (below1 w14.drew (Obj.cells #[.int .i64 9, .int .i64 0] 27)) q0.2)
        (go_wp2_with fail)
        refine hK.out _ _ q1 (fun hHeld2 => ?_)
        clear hK K
        (try simp only [Act.put, List.setIfInBounds_toArray, List.set_cons_zero, List.set_cons_succ])
        refine wpAnyH_take (i := 2) (oi := ?o_2) (v := .bool true) ?ho_2 ?h1_2 ?h2_2 ?h3_2 ?hQ_2 ?hy_2 ?hS_2 ?rest_2
        case ho_2 => (simp only [List.getElem?_toArray, List.getElem?_cons_succ, List.getElem?_cons_zero]; exact rfl)
        case h1_2 => kernel_rfl
        case h2_2 => kernel_rfl
        case h3_2 => kernel_rfl
        case hy_2 => (refine Or.inl ⟨by rfl, fun w hSw => ?_⟩; (try dsimp only at hSw); obtain ⟨hs0, hs1⟩ := hSw; go_simp)
        case hQ_2 => exact fun _ _ _ h => h
        case hS_2 => assumption
        (try simp only [Act.put, List.setIfInBounds_toArray, List.set_cons_zero, List.set_cons_succ])
        refine wpAnyH_take (i := 3) (oi := ?o_3) (v := .bool true) ?ho_3 ?h1_3 ?h2_3 ?h3_3 ?hQ_3 ?hy_3 ?hS_3 ?rest_3
        case ho_3 => (simp only [List.getElem?_toArray, List.getElem?_cons_succ, List.getElem?_cons_zero]; exact rfl)
        case h1_3 => kernel_rfl
        case h2_3 => kernel_rfl
        case h3_3 => kernel_rfl
        case hy_3 => (refine Or.inl ⟨by rfl, fun w hSw => ?_⟩; (try dsimp only at hSw); obtain ⟨hs0, hs1⟩ := hSw; go_simp)
        case hQ_3 => exact fun _ _ _ h => h
        case hS_3 => assumption
        (try simp only [Act.put, List.setIfInBounds_toArray, List.set_cons_zero, List.set_cons_succ])
        refine wpAnyH_take (i := 4) (oi := ?o_4) (v := .slice av 0 cv) ?ho_4 ?h1_4 ?h2_4 ?h3_4 ?hQ_4 ?hy_4 ?hS_4 ?rest_4
        case ho_4 => (simp only [List.getElem?_toArray, List.getElem?_cons_succ, List.getElem?_cons_zero]; exact rfl)
        case h1_4 => kernel_rfl
        case h2_4 => kernel_rfl
        case h3_4 => kernel_rfl
        case hy_4 => (refine Or.inl ⟨by rfl, fun w hSw => ?_⟩; (try dsimp only at hSw); obtain ⟨hs0, hs1⟩ := hSw; go_simp)
        case hQ_4 => exact fun _ _ _ h => h
        case hS_4 => assumption
        (try simp only [Act.put, List.setIfInBounds_toArray, List.set_cons_zero, List.set_cons_succ])
        refine wpAnyH_take (i := 5) (oi := ?o_5) (v := .int .i64 0) ?ho_5 ?h1_5 ?h2_5 ?h3_5 ?hQ_5 ?hy_5 ?hS_5 ?rest_5
        case ho_5 => (simp only [List.getElem?_toArray, List.getElem?_cons_succ, List.getElem?_cons_zero]; exact rfl)
        case h1_5 => kernel_rfl
        case h2_5 => kernel_rfl
        case h3_5 => kernel_rfl
        case hy_5 => (refine Or.inl ⟨by rfl, fun w hSw => ?_⟩; (try dsimp only at hSw); obtain ⟨hs0, hs1⟩ := hSw; go_simp)
        case hQ_5 => exact fun _ _ _ h => h
        case hS_5 => assumption
        (try simp only [Act.put, List.setIfInBounds_toArray, List.set_cons_zero, List.set_cons_succ])
        refine wpAnyH_take (i := 6) (oi := ?o_6) (v := .bool true) ?ho_6 ?h1_6 ?h2_6 ?h3_6 ?hQ_6 ?hy_6 ?hS_6 ?rest_6
        case ho_6 => (simp only [List.getElem?_toArray, List.getElem?_cons_succ, List.getElem?_cons_zero]; exact rfl)
        case h1_6 => kernel_rfl
        case h2_6 => kernel_rfl
        case h3_6 => kernel_rfl
        case hy_6 => (refine Or.inl ⟨by rfl, fun w hSw => ?_⟩; (try dsimp only at hSw); obtain ⟨hs0, hs1⟩ := hSw; go_simp)
        case hQ_6 => exact fun _ _ _ h => h
        case hS_6 => assumption
        (try simp only [Act.put, List.setIfInBounds_toArray, List.set_cons_zero, List.set_cons_succ])
        refine wpAnyH_take (i := 7) (oi := ?o_7) (v := .bool true) ?ho_7 ?h1_7 ?h2_7 ?h3_7 ?hQ_7 ?hy_7 ?hS_7 ?rest_7
        case ho_7 => (simp only [List.getElem?_toArray, List.getElem?_cons_succ, List.getElem?_cons_zero]; exact rfl)
        case h1_7 => kernel_rfl
        case h2_7 => kernel_rfl
        case h3_7 => kernel_rfl
        case hy_7 => (refine Or.inl ⟨by rfl, fun w hSw => ?_⟩; (try dsimp only at hSw); obtain ⟨hs0, hs1⟩ := hSw; go_simp)
        case hQ_7 => exact fun _ _ _ h => h
        case hS_7 => assumption
        (try simp only [Act.put, List.setIfInBounds_toArray, List.set_cons_zero, List.set_cons_succ])
        refine wpAnyH_take (i := 8) (oi := ?o_8) (v := .bool true) ?ho_8 ?h1_8 ?h2_8 ?h3_8 ?hQ_8 ?hy_8 ?hS_8 ?rest_8
        case ho_8 => (simp only [List.getElem?_toArray, List.getElem?_cons_succ, List.getElem?_cons_zero]; exact rfl)
        case h1_8 => kernel_rfl
        case h2_8 => kernel_rfl
        case h3_8 => kernel_rfl
        case hy_8 => (refine Or.inl ⟨by rfl, fun w hSw => ?_⟩; (try dsimp only at hSw); obtain ⟨hs0, hs1⟩ := hSw; go_simp)
        case hQ_8 => exact fun _ _ _ h => h
        case hS_8 => assumption
        (try simp only [Act.put, List.setIfInBounds_toArray, List.set_cons_zero, List.set_cons_succ])
        refine wpAnyH_take (i := 9) (oi := ?o_9) (v := v5) ?ho_9 ?h1_9 ?h2_9 ?h3_9 ?hQ_9 ?hy_9 ?hS_9 ?rest_9
        case ho_9 => (simp only [List.getElem?_toArray, List.getElem?_cons_succ, List.getElem?_cons_zero]; exact rfl)
        case h1_9 => kernel_rfl
        case h2_9 => kernel_rfl
        case h3_9 => kernel_rfl
        case hy_9 => (refine Or.inl ⟨by rfl, fun w hSw => ?_⟩; (try dsimp only at hSw); obtain ⟨hs0, hs1⟩ := hSw; go_simp)
        case hQ_9 => exact fun _ _ _ h => h
        case hS_9 => assumption
        (try simp only [Act.put, List.setIfInBounds_toArray, List.set_cons_zero, List.set_cons_succ])
        refine wpAnyH_ready (rs := [10]) (by kernel_rfl) (by simp) ?_
        refine AllReadyH.cons (o := _) rfl (fun K hK => ?_) AllReadyH.nil
        go_simp
        go_at_call 26; refine (stars_any N (adj l) _ _ (by omega) (Hg14.out.below hcur)).mono ?_; rintro e wp ⟨⟨x, rfl, hx⟩, hbs⟩; obtain rfl : x = true := (hx.2 Ht.out); have hcur := upp9 hcur hbs; have q2 := And.intro (below_cell hbs q1.1) (below_cell hbs q1.2); clear hx hbs
        (go_wp2_with fail)
        refine hK.out _ _ q2 (fun hHeld3 => ?_)
        clear hK K
        (try simp only [Act.put, List.setIfInBounds_toArray, List.set_cons_zero, List.set_cons_succ])
        refine wpAnyH_take (i := 11) (oi := ?o_11) (v := .bool true) ?ho_11 ?h1_11 ?h2_11 ?h3_11 ?hQ_11 ?hy_11 ?hS_11 ?rest_11
        case ho_11 => (simp only [List.getElem?_toArray, List.getElem?_cons_succ, List.getElem?_cons_zero]; exact rfl)
        case h1_11 => kernel_rfl
        case h2_11 => kernel_rfl
        case h3_11 => kernel_rfl
        case hy_11 => (refine Or.inl ⟨by rfl, fun w hSw => ?_⟩; (try dsimp only at hSw); obtain ⟨hs0, hs1⟩ := hSw; go_simp)
        case hQ_11 => exact fun _ _ _ h => h
        case hS_11 => assumption
        (try simp only [Act.put, List.setIfInBounds_toArray, List.set_cons_zero, List.set_cons_succ])
        refine wpAnyH_take (i := 12) (oi := ?o_12) (v := undef) ?ho_12 ?h1_12 ?h2_12 ?h3_12 ?hQ_12 ?hy_12 ?hS_12 ?rest_12
        case ho_12 => (simp only [List.getElem?_toArray, List.getElem?_cons_succ, List.getElem?_cons_zero]; exact rfl)
        case h1_12 => kernel_rfl
        case h2_12 => kernel_rfl
        case h3_12 => kernel_rfl
        case hy_12 => exact Or.inr ⟨by kernel_rfl, rfl⟩
        case hQ_12 => exact fun _ _ _ h => h
        case hS_12 => assumption
        (try simp only [Act.put, List.setIfInBounds_toArray, List.set_cons_zero, List.set_cons_succ])
        refine wpAnyH_take (i := 13) (oi := ?o_13) (v := undef) ?ho_13 ?h1_13 ?h2_13 ?h3_13 ?hQ_13 ?hy_13 ?hS_13 ?rest_13
        case ho_13 => (simp only [List.getElem?_toArray, List.getElem?_cons_succ, List.getElem?_cons_zero]; exact rfl)
        case h1_13 => kernel_rfl
        case h2_13 => kernel_rfl
        case h3_13 => kernel_rfl
        case hy_13 => exact Or.inr ⟨by kernel_rfl, rfl⟩
        case hQ_13 => exact fun _ _ _ h => h
        case hS_13 => assumption
        (try simp only [Act.put, List.setIfInBounds_toArray, List.set_cons_zero, List.set_cons_succ])
        refine wpAnyH_take (i := 14) (oi := ?o_14) (v := .bool true) ?ho_14 ?h1_14 ?h2_14 ?h3_14 ?hQ_14 ?hy_14 ?hS_14 ?rest_14
        case ho_14 => (simp only [List.getElem?_toArray, List.getElem?_cons_succ, List.getElem?_cons_zero]; exact rfl)
        case h1_14 => kernel_rfl
        case h2_14 => kernel_rfl
        case h3_14 => kernel_rfl
        case hy_14 => (refine Or.inl ⟨by rfl, fun w hSw => ?_⟩; (try dsimp only at hSw); obtain ⟨hs0, hs1⟩ := hSw; go_simp)
        case hQ_14 => exact fun _ _ _ h => h
        case hS_14 => assumption
        (try simp only [Act.put, List.setIfInBounds_toArray, List.set_cons_zero, List.set_cons_succ])
        refine wpAnyH_take (i := 15) (oi := ?o_15) (v := .bool true) ?ho_15 ?h1_15 ?h2_15 ?h3_15 ?hQ_15 ?hy_15 ?hS_15 ?rest_15
        case ho_15 => (simp only [List.getElem?_toArray, List.getElem?_cons_succ, List.getElem?_cons_zero]; exact rfl)
        case h1_15 => kernel_rfl
        case h2_15 => kernel_rfl
        case h3_15 => kernel_rfl
        case hy_15 => (refine Or.inl ⟨by rfl, fun w hSw => ?_⟩; (try dsimp only at hSw); obtain ⟨hs0, hs1⟩ := hSw; go_simp)
        case hQ_15 => exact fun _ _ _ h => h
        case hS_15 => assumption
        (try simp only [Act.put, List.setIfInBounds_toArray, List.set_cons_zero, List.set_cons_succ])
        refine wpAnyH_take (i := 16) (oi := ?o_16) (v := .bool true) ?ho_16 ?h1_16 ?h2_16 ?h3_16 ?hQ_16 ?hy_16 ?hS_16 ?rest_16
        case ho_16 => (simp only [List.getElem?_toArray, List.getElem?_cons_succ, List.getElem?_cons_zero]; exact rfl)
        case h1_16 => kernel_rfl
        case h2_16 => kernel_rfl
        case h3_16 => kernel_rfl
        case hy_16 => (refine Or.inl ⟨by rfl, fun w hSw => ?_⟩; (try dsimp only at hSw); obtain ⟨hs0, hs1⟩ := hSw; go_simp)
        case hQ_16 => exact fun _ _ _ h => h
        case hS_16 => assumption
        (try simp only [Act.put, List.setIfInBounds_toArray, List.set_cons_zero, List.set_cons_succ])
        refine wpAnyH_done (by kernel_rfl) ?_ _
        go_wp2
        go_ret
        exact ⟨rfl, upp9 E14.out.hb hcur⟩
      · have Ht := Lib.hid htri
        have Hh := Lib.hid (show ∃ m, HolR N (adj l) m from Hno.out.resolve_right Ht.out)
        clear htri g0 g1
        go_region_held3 (fun w' => w'.cell? ⟨D, 0, none⟩ = some (.int .i64 9) ∧ w'.cell? ⟨D, 1, none⟩ = some (.int .i64 0))
          (first | exact q3 | exact q2 | exact q1 | exact q0)
          (first
            | (go_at_call 21; refine (F_any _ _ _).mono ?_; rintro e wp ⟨rfl, rfl⟩; have hcur := upp9 hcur (below1 w14.drew (Obj.cells #[.int .i64 9, .int .i64 0] 27)); have q1 := And.intro (below_cell (below1 w14.drew (Obj.cells #[.int .i64 9, .int .i64 0] 27)) q0.1) (below_cell (below1 w14.drew (Obj.cells #[.int .i64 9, .int .i64 0] 27)) q0.2))
            | (go_at_call 26; refine (stars_any N (adj l) _ _ (by omega) (Hg14.out.below hcur)).mono ?_; rintro e wp ⟨⟨x, rfl, hx⟩, hbs⟩; obtain rfl : x = false := (by cases x with | false => rfl | true => exact absurd (hx.1 rfl) Ht.out); have hcur := upp9 hcur hbs; have q2 := And.intro (below_cell hbs q1.1) (below_cell hbs q1.2); clear hx hbs)
            | (go_at_call 27; refine (hole_any N (adj l) _ _ hN12 (fun i j => adj_symm l i j) (good_irrC Hg.out) (Hg14.out.below hcur)).mono ?_; rintro e wp ⟨⟨x, rfl, hx⟩, hbh⟩; obtain rfl : x = true := hx Hh.out; have hcur := upp9 hcur hbh; have q3 := And.intro (below_cell hbh q2.1) (below_cell hbh q2.2); clear hx hbh))
        all_goals
          go_wp2
          go_ret
          exact ⟨rfl, upp9 E14.out.hb hcur⟩
    · obtain rfl : N = P := hPN.symm
      have Hrd := Lib.hid (hrd.below B14.out)
      have Hiv := Lib.hid hiv
      clear hrd hiv Hk B14
      have cn := E14.out.cn
      obtain ⟨Bg, ga, gc, gb, go', R, rfl, hgc, hga, hgrid⟩ := Hg14.out
      have Hga := Lib.hid hga; have Hgr := Lib.hid hgrid
      clear hga hgrid
      go_upto_region 14 with fail
      clear g0 g1
      go_loopg [8, 9] N (fun g s8 s9 wr => ∃ v mm : Nat, v ≤ N ∧ g = N - v ∧ s8 = .int .i64 v ∧ wr = w14.drewN mm)
      case atStart => exact ⟨0, 0, Nat.zero_le _, rfl, rfl, rfl⟩
      case round =>
        obtain ⟨v, mm, hv, rfl, rfl, rfl⟩ := hrel
        by_cases hvl : v < N
        · obtain rfl := (Hga.out (by omega)).1
          have l1 := Hrd.out.lo v hvl
          have l2 := Hrd.out.hi v hvl
          have hle := (Hiv.out v v hvl hvl).1
          have Hm := Lib.hid (fun u (hu : u < N) => (Hiv.out u v hu hvl).2)
          have Hlu := Lib.hid (fun u (hu : u < N) => Hrd.out.lo u hu)
          have Hhu := Lib.hid (fun u (hu : u < N) => Hrd.out.hi u hu)
          generalize lo v = lv at *
          generalize hi v = hv2 at *
          go_wp2
          go_loopg [9] N (fun g s9 wr => ∃ u m2 : Nat, u ≤ N ∧ g = N - u ∧ s9 = .int .i64 u ∧ wr = w14.drewN m2)
          case atStart => exact ⟨0, mm, Nat.zero_le _, rfl, rfl, rfl⟩
          case round =>
            obtain ⟨u, m2, hu, rfl, rfl, rfl⟩ := hrel
            by_cases hul : u < N
            · have k1 := Hlu.out u hul
              have k2 := Hhu.out u hul
              have hmt := Hm.out u hul
              have t1 := Hgr.out.head u hul
              have t2 := Hgr.out.cell hul hvl
              have z1 : decide ((hv2 : Int) < (lv : Int)) = false := decide_eq_false (by omega)
              have z2 : decide (hv2 < lv) = false := decide_eq_false (by omega)
              by_cases e : u = v
              · subst e
                have z3 : decide ((lv : Int) ≤ (hv2 : Int)) = true := decide_eq_true (by omega)
                have z4 : decide (lv ≤ hv2) = true := decide_eq_true hle
                have z5 : ((u : Int) != (u : Int)) = false := by simp
                clear k1 k2 hmt hle
                go_wp2
                go_quiet (fail)
                go_wp2
                go_quiet (fail)
                go_wp2
                go_roundg (N - (u + 1))
                case measure => go_light; omega
                case rel => exact ⟨u + 1, _, by omega, rfl, by go_num, rfl⟩
              · have z5 : ((u : Int) != (v : Int)) = true := by simp; omega
                have hmt2 := hmt e
                clear hmt hle e
                generalize lo u = lu at *
                generalize hi u = hu2 at *
                obtain ⟨gx, hgx⟩ : ∃ gx, adj l u v = gx := ⟨_, rfl⟩
                rw [hgx] at t2 hmt2
                clear hgx
                by_cases e1 : lu ≤ hv2
                · by_cases e2 : lv ≤ hu2
                  · have z6 : decide ((lu : Int) ≤ (hv2 : Int)) = true := decide_eq_true (by omega)
                    have z7 : decide (lu ≤ hv2) = true := decide_eq_true e1
                    have z8 : decide ((lv : Int) ≤ (hu2 : Int)) = true := decide_eq_true (by omega)
                    have z9 : decide (lv ≤ hu2) = true := decide_eq_true e2
                    obtain rfl : gx = true := hmt2.1 ⟨e1, e2⟩
                    clear e1 e2 hmt2
                    go_wp2
                    go_quiet (fail)
                    go_wp2
                    go_quiet (fail)
                    go_wp2
                    go_roundg (N - (u + 1))
                    case measure => go_light; omega
                    case rel => exact ⟨u + 1, _, by omega, rfl, by go_num, rfl⟩
                  · have z6 : decide ((lu : Int) ≤ (hv2 : Int)) = true := decide_eq_true (by omega)
                    have z7 : decide (lu ≤ hv2) = true := decide_eq_true e1
                    have z8 : decide ((lv : Int) ≤ (hu2 : Int)) = false := decide_eq_false (by omega)
                    have z9 : decide (lv ≤ hu2) = false := decide_eq_false e2
                    obtain rfl : gx = false := by cases gx with | false => rfl | true => exact absurd (hmt2.2 rfl).2 e2
                    clear e1 e2 hmt2
                    go_wp2
                    go_quiet (fail)
                    go_wp2
                    go_quiet (fail)
                    go_wp2
                    go_roundg (N - (u + 1))
                    case measure => go_light; omega
                    case rel => exact ⟨u + 1, _, by omega, rfl, by go_num, rfl⟩
                · by_cases e2 : lv ≤ hu2
                  · have z6 : decide ((lu : Int) ≤ (hv2 : Int)) = false := decide_eq_false (by omega)
                    have z7 : decide (lu ≤ hv2) = false := decide_eq_false e1
                    have z8 : decide ((lv : Int) ≤ (hu2 : Int)) = true := decide_eq_true (by omega)
                    have z9 : decide (lv ≤ hu2) = true := decide_eq_true e2
                    obtain rfl : gx = false := by cases gx with | false => rfl | true => exact absurd (hmt2.2 rfl).1 e1
                    clear e1 e2 hmt2
                    go_wp2
                    go_quiet (fail)
                    go_wp2
                    go_quiet (fail)
                    go_wp2
                    go_roundg (N - (u + 1))
                    case measure => go_light; omega
                    case rel => exact ⟨u + 1, _, by omega, rfl, by go_num, rfl⟩
                  · have z6 : decide ((lu : Int) ≤ (hv2 : Int)) = false := decide_eq_false (by omega)
                    have z7 : decide (lu ≤ hv2) = false := decide_eq_false e1
                    have z8 : decide ((lv : Int) ≤ (hu2 : Int)) = false := decide_eq_false (by omega)
                    have z9 : decide (lv ≤ hu2) = false := decide_eq_false e2
                    obtain rfl : gx = false := by cases gx with | false => rfl | true => exact absurd (hmt2.2 rfl).1 e1
                    clear e1 e2 hmt2
                    go_wp2
                    go_quiet (fail)
                    go_wp2
                    go_quiet (fail)
                    go_wp2
                    go_roundg (N - (u + 1))
                    case measure => go_light; omega
                    case rel => exact ⟨u + 1, _, by omega, rfl, by go_num, rfl⟩
            · obtain rfl : N = u := by omega
              go_wp2
              go_roundg (N - (v + 1))
              case measure => go_light; omega
              case rel => exact ⟨v + 1, m2, by omega, rfl, by go_num, rfl⟩
        · obtain rfl : N = v := by omega
          go_wp2
          go_ret
          exact ⟨rfl, Below.drewN' E14.out.hb _⟩

end Go.Proofs.Ytnhhohhhpaejmaa
