/- arborlaw.ColourNumber answers true: the walk. -/
import Derived.Test.YtfflnpcbpcldeaaDoorNumW
import Derived.Test.YtfflnpcbpcldeaaDoorCBegun
import Derived.Test.YtfflnpcbpcldeaaDoorColg
import Derived.Test.YtfflnpcbpcldeaaDoorSparseT
import Derived.Test.YtfflnpcbpcldeaaDoorKeptS
import Derived.Test.YtfflnpcbpcldeaaDoorGOwn
import Derived.Test.YtfflnpcbpcldeaaDoorGridOf
import Derived.Test.YtfflnpcbpcldeaaDoorLBox
namespace Go.Proofs.YtfflnpcbpcldeaaDoor
open Go Go.RowKit

set_option maxHeartbeats 3200000 in
set_option maxRecDepth 100000 in
theorem numberLaw_any (n : Int) (l : List (Int × Int)) (hl : l.length * 16 ≤ 140737488351232) (sv : Value) (w : World) (h : IsEdges w sv l) (hT : TabAt 1 Lib.deBruijn64tab w) :
    Calls Tryd.prog 4 #[.agg #[.int .i64 n, sv]] w fun e w' => e = .returned (.bool true) ∧ Below w.heap.size w w' := by
  have HT := Lib.hid hT
  clear hT
  obtain ⟨ad, cap, rfl⟩ := h.form
  have hb1 := below1 w (Obj.cells #[.int .i64 n, .slice ad l.length cap] 24)
  have c0 := two_cells w (.int .i64 n) (.slice ad l.length cap) 24
  have cn := c0.1
  have cs := c0.2
  have he := h.below hb1
  clear c0 h
  go_enter Tryd.func4, Tryd.ntmps4
  go_upto_region 1 with fail
  generalize w.alloc (Obj.cells #[.int .i64 n, .slice ad l.length cap] 24) = w1 at *
  have Cn := Lib.hid (And.intro cn cs); have He := Lib.hid he; have Hb1 := Lib.hid hb1
  clear he hb1
  go_wp2_with fail
  refine (own_any l n (.slice ad l.length cap) _ He.out hl).mono ?_
  rintro e w2 ⟨v2, rfl, ho2, hb2⟩
  obtain ⟨a2, c2, rfl⟩ := ho2.form
  have hb3 := upc hb2 (below1 w2 (Obj.cells #[.int .i64 n, .slice a2 l.length c2] 24))
  have o0 := two_cells w2 (.int .i64 n) (.slice a2 l.length c2) 24
  have E3 := Lib.hid (show LB w (w2.alloc (Obj.cells #[.int .i64 n, .slice a2 l.length c2] 24)) n (.slice ad l.length cap) (.slice a2 l.length c2) l w2.heap.size from ⟨Hb1.out.trans (hb3.mono Hb1.out.size), below_cell hb3 Cn.out.1, below_cell hb3 Cn.out.2, o0.1, o0.2, He.out.below hb3, ho2.edges.below (below1 w2 _)⟩)
  clear cn cs ho2 hb2 hb3 o0 He Hb1 Cn
  go_upto_region 2 with fail
  generalize w2.alloc (Obj.cells #[.int .i64 n, .slice a2 l.length c2] 24) = w3 at *
  generalize w2.heap.size = B at *
  have cn := E3.out.cn
  have cs := E3.out.cs
  go_wp2_with fail
  refine (smallFault_any n 12 l _ _ E3.out.he).mono ?_
  rintro e w5 ⟨c, a, hsp, rfl, hb5⟩
  have Hsp := Lib.hid hsp
  have F6 := Lib.hid (FV.new w5 c a)
  have E6 := Lib.hid (E3.out.below (upc hb5 (below1 w5 (Obj.cells #[.int .i64 c, .int .i64 a] 27))))
  clear hsp hb5 cn cs
  go_upto_region 3 with fail
  generalize w5.alloc (Obj.cells #[.int .i64 c, .int .i64 a] 27) = w6 at *
  generalize w5.heap.size = C at *
  have on := E6.out.on
  have os := E6.out.os
  go_wp2_with fail
  refine (number_any n l _ _ E6.out.ho (TabAt.below (g := 1) HT.out E6.out.hb)).mono ?_
  rintro e w10 ⟨c', a', kv, cv, rfl, hsp', hb10, hres⟩
  obtain ⟨e1, e2⟩ := SmallSpec.uniq Hsp.out hsp'
  subst e1
  subst e2
  have b11 := upc hb10 (below1 w10 (Obj.cells #[.int .i64 c, .int .i64 a] 27))
  have E11 := Lib.hid (E6.out.below b11)
  have F11 := Lib.hid (F6.out.below b11)
  have G11 := Lib.hid (FV.new w10 c a)
  have R11 := Lib.hid (show (c ≠ 0 ∧ kv = 0 ∧ cv = .slice none 0 0) ∨ (c = 0 ∧ a = 0 ∧ ∃ (N K : Nat) (f : Nat → Nat), n = N ∧ kv = K ∧ NumOk l N K f ∧ IsInts (w10.alloc (Obj.cells #[.int .i64 c, .int .i64 a] 27)) cv ((List.range N).map fun i => (f i : Int))) from by
    rcases hres with h | ⟨h1, h2, N, K, f, h3, h4, h5, h6⟩
    · exact Or.inl h
    · exact Or.inr ⟨h1, h2, N, K, f, h3, h4, h5, h6.below (below1 _ _)⟩)
  clear on os hb10 hsp' hres b11 E6 F6
  go_upto_region 4 with fail
  generalize w10.alloc (Obj.cells #[.int .i64 c, .int .i64 a] 27) = w11 at *
  generalize w10.heap.size = D at *
  go_wp2_with fail
  refine (colourBegun_any _ (TabAt.below (g := 1) HT.out E11.out.hb)).mono ?_
  rintro e w12 ⟨rfl, hb12⟩
  have Hb12 := Lib.hid hb12
  have E12 := Lib.hid (E11.out.below hb12); have F12 := Lib.hid (F11.out.below hb12); have G12 := Lib.hid (G11.out.below hb12)
  clear hb12 F11 G11
  have on := E12.out.on
  have os := E12.out.os
  have cn := E12.out.cn
  have cs := E12.out.cs
  obtain ⟨f0, f1, -, -, -⟩ := F12.out.facts
  obtain ⟨g0, g1, -, -, -⟩ := G12.out.facts
  go_wp2_with fail
  refine (kept_is (decide_eq_true ⟨rfl, rfl⟩) _ _ _ E12.out.ho E12.out.he).mono ?_
  rintro e w13 ⟨rfl, hb13⟩
  have E13 := Lib.hid (E12.out.below hb13); have F13 := Lib.hid (F12.out.below hb13)
  have Hb13 := Lib.hid (upc Hb12.out hb13)
  clear hb13 E12 F12 G12 Hb12 on os cn cs f0 f1 g0 g1
  obtain ⟨f0, f1, -, -, -⟩ := F13.out.facts
  have cn := E13.out.cn
  have cs := E13.out.cs
  by_cases hz : c = 0
  · subst hz
    obtain ⟨rfl, hn0, hn1, hl2, hok⟩ := small_good Hsp.out
    obtain ⟨N, K, f, rfl, rfl, hnum, hi⟩ : ∃ (N K : Nat) (f : Nat → Nat), n = N ∧ kv = K ∧ NumOk l N K f ∧ IsInts w13 cv ((List.range N).map fun i => (f i : Int)) := by
      rcases R11.out with ⟨h, -⟩ | ⟨-, -, N, K, f, h1, h2, h3, h4⟩
      · exact absurd rfl h
      · exact ⟨N, K, f, h1, h2, h3, h4.below Hb13.out⟩
    have hN : N ≤ 100 := by omega
    have Hok := Lib.hid hok; have Hnum := Lib.hid hnum; have Hi := Lib.hid hi
    have hirr := adj_self (l := l) (fun j hj => (Hok.out j hj).2)
    have Hirr := Lib.hid hirr
    clear hok hnum hi hirr R11
    go_wp2_with fail
    refine (gridOf_any l N _ _ E13.out.he hN Hok.out).mono ?_
    rintro e w14 ⟨gv, rfl, hg14, hb14⟩
    have HG := Lib.hid (show HasGrid w14 gv N (adj l) from ⟨_, hg14⟩)
    have E14 := Lib.hid (E13.out.below hb14)
    have Hi14 := Lib.hid (Hi.out.below hb14)
    clear hg14 hb14 f0 f1 cn cs
    go_wp2_with fail
    refine (colouring_yes N K (adj l) f gv cv _ hN HG.out Hi14.out Hnum.out.below Hnum.out.ok).mono ?_
    rintro e w15 ⟨rfl, hb15⟩
    have E15 := Lib.hid (E14.out.below hb15)
    have HG15 := Lib.hid (HG.out.below hb15)
    clear hb15
    have hKN : K ≤ N := by
      rcases Nat.lt_or_ge N K with e | e
      · exact absurd ⟨fun v => v, fun u hu => hu, fun u _ v _ ha e2 => by
          simp only at e2
          subst e2
          rw [Hirr.out] at ha; cases ha⟩ (Hnum.out.no N e)
      · exact e
    rcases Nat.lt_or_ge 0 K with hK0 | hK0
    · have q1 : ((K : Int) == 0) = false := by simp; omega
      have hwK : IntKind.i64.wrap ((K : Int) - 1) = ((K - 1 : Nat) : Int) := by rw [show (K : Int) - 1 = ((K - 1 : Nat) : Int) by omega]; exact wrap_nat (by omega)
      go_wp2_with fail
      refine (sparseTop_no N (K - 1) (adj l) hN (by omega) (adj_sy l) Hirr.out gv _ HG15.out (fun L hL hx hp => Hnum.out.no (K - 1) (by omega) ⟨fun i => L.getD i 0, fun u hu => hx _ (by
        have : L.getD u 0 = L[u]'(by omega) := by simp [List.getD, show u < L.length by omega]
        show L.getD u 0 ∈ L
        rw [this]; exact List.getElem_mem _), fun u hu v hv ha => hp u (by omega) v (by omega) ha⟩)).mono ?_
      rintro e w16 ⟨rfl, hb16⟩
      have E16 := Lib.hid (E15.out.below hb16)
      clear hb16
      go_wp2
      go_ret
      exact ⟨rfl, E16.out.hb⟩
    · have q1 : ((K : Int) == 0) = true := by simp; omega
      have hK1 : K < 1 := by omega
      clear hK0
      go_wp2
      go_ret
      exact ⟨rfl, E15.out.hb⟩
  · have q : (c != 0) = true := by simp [hz]
    rcases R11.out with ⟨-, rfl, rfl⟩ | ⟨h, -⟩
    · have Hz := Lib.hid hz
      clear hz
      go_wp2
      go_ret
      exact ⟨rfl, E13.out.hb⟩
    · exact absurd h hz

end Go.Proofs.YtfflnpcbpcldeaaDoor
