/- arborlaw.ColourClique answers true: the walk. -/
import Derived.Test.YtfflnpcbpcldeaaDoorNumW
import Derived.Test.YtfflnpcbpcldeaaDoorCBegun
import Derived.Test.YtfflnpcbpcldeaaDoorCliqW
import Derived.Test.YtfflnpcbpcldeaaDoorCliqR
import Derived.Test.YtfflnpcbpcldeaaDoorKeptS
import Derived.Test.YtfflnpcbpcldeaaDoorGOwn
import Derived.Test.YtfflnpcbpcldeaaDoorGridOf
import Derived.Test.YtfflnpcbpcldeaaDoorLBox
namespace Go.Proofs.YtfflnpcbpcldeaaDoor
open Go Go.RowKit

theorem small24 {n : Int} {l : List (Int × Int)} {a : Int} (h : SmallSpec n l 24 0 a) : a = 0 ∧ 0 ≤ n ∧ n ≤ 24 ∧ l.length ≤ 1000 ∧ ∀ j, j < l.length → EndsOk n (l.getD j (0, 0)) ∧ (l.getD j (0, 0)).1 ≠ (l.getD j (0, 0)).2 := by
  rcases h with ⟨_, h⟩ | ⟨h, ⟨_, h2, _⟩ | ⟨h1, _, h2⟩⟩
  · exact absurd rfl h
  · cases h2
  · obtain ⟨-, h3, -, h4, h5⟩ := graph_good h
    exact ⟨h2, h3, h1, h4, h5⟩
/-- A colouring needs a colour for each node of a clique. -/
theorem clique_colours {l : List (Int × Int)} {N K S : Nat} {f : Nat → Nat} (hS : FamA (adj l) 0 (2 ^ N - 1) S) (hf : NumOk l N K f) (hN : N ≤ 24) : card N S ≤ K := by
  have hSN : ∀ u, S.testBit u = true → u < N := fun u hu => by
    have := hS.2.1 u hu
    rw [lor_bit, all_bit] at this
    simpa using this
  exact card_colours (f := f) K S (fun u hu => ⟨hSN u hu, hf.below u (hSN u hu)⟩) fun u v hu hv hne => hf.ok u (hSN u hu) v (hSN v hv) (hS.2.2 u v hu hv hne)

set_option maxHeartbeats 3200000 in
set_option maxRecDepth 100000 in
theorem cliqueLaw_any (n : Int) (l : List (Int × Int)) (hl : l.length * 16 ≤ 140737488351232) (sv : Value) (w : World) (h : IsEdges w sv l) (hT : TabAt 1 Lib.deBruijn64tab w) :
    Calls Tryd.prog 5 #[.agg #[.int .i64 n, sv]] w fun e w' => e = .returned (.bool true) ∧ Below w.heap.size w w' := by
  have HT := Lib.hid hT
  clear hT
  obtain ⟨ad, cap, rfl⟩ := h.form
  have hb1 := below1 w (Obj.cells #[.int .i64 n, .slice ad l.length cap] 24)
  have c0 := two_cells w (.int .i64 n) (.slice ad l.length cap) 24
  have cn := c0.1
  have cs := c0.2
  have he := h.below hb1
  clear c0 h
  go_enter Tryd.func5, Tryd.ntmps5
  go_upto_region 1 with fail
  generalize w.alloc (Obj.cells #[.int .i64 n, .slice ad l.length cap] 24) = w1 at *
  have Cn := Lib.hid (And.intro cn cs); have He := Lib.hid he; have Hb1 := Lib.hid hb1
  clear he hb1
  go_wp2_with fail
  refine (own_any l n (.slice ad l.length cap) _ He.out hl).mono ?_
  rintro e w2 ⟨v2, rfl, ho2, hb2⟩
  obtain ⟨a2, c2, rfl⟩ := ho2.form
  have hb3 := upc hb2 (below1 w2 (Obj.cells #[.int .i64 n, .slice a2 l.length c2] 24))
  have o0 := two_cells w2 (.int .i64 n) (.slice a2 l.length c2) 24
  have E3 := Lib.hid (show LB w (w2.alloc (Obj.cells #[.int .i64 n, .slice a2 l.length c2] 24)) n (.slice ad l.length cap) (.slice a2 l.length c2) l w2.heap.size from ⟨Hb1.out.trans (hb3.mono Hb1.out.size), below_cell hb3 Cn.out.1, below_cell hb3 Cn.out.2, o0.1, o0.2, He.out.below hb3, ho2.edges.below (below1 w2 _)⟩)
  clear cn cs ho2 hb2 hb3 o0 He Hb1 Cn
  go_upto_region 2 with fail
  generalize w2.alloc (Obj.cells #[.int .i64 n, .slice a2 l.length c2] 24) = w3 at *
  generalize w2.heap.size = B at *
  have cn := E3.out.cn
  have cs := E3.out.cs
  go_wp2_with fail
  refine (smallFault_any n 24 l _ _ E3.out.he).mono ?_
  rintro e w5 ⟨c, a, hsp, rfl, hb5⟩
  have Hsp := Lib.hid hsp
  have F6 := Lib.hid (FV.new w5 c a)
  have E6 := Lib.hid (E3.out.below (upc hb5 (below1 w5 (Obj.cells #[.int .i64 c, .int .i64 a] 27))))
  clear hsp hb5 cn cs
  go_upto_region 3 with fail
  generalize w5.alloc (Obj.cells #[.int .i64 c, .int .i64 a] 27) = w6 at *
  generalize w5.heap.size = C at *
  have on := E6.out.on
  have os := E6.out.os
  go_wp2_with fail
  refine (clique_any n l _ _ E6.out.ho (TabAt.below (g := 1) HT.out E6.out.hb)).mono ?_
  rintro e w10 ⟨c', a', cv, rfl, hsp', hb10, hres⟩
  obtain ⟨e1, e2⟩ := SmallSpec.uniq Hsp.out hsp'
  subst e1
  subst e2
  have b11 := upc hb10 (below1 w10 (Obj.cells #[.int .i64 c, .int .i64 a] 27))
  have E11 := Lib.hid (E6.out.below b11)
  have F11 := Lib.hid (F6.out.below b11)
  have G11 := Lib.hid (FV.new w10 c a)
  have R11 := Lib.hid (show (c ≠ 0 ∧ cv = .slice none 0 0) ∨ (c = 0 ∧ a = 0 ∧ ∃ N S : Nat, n = N ∧ Best (card 24) (FamA (adj l) 0 (2 ^ N - 1)) S ∧ IsInts (w10.alloc (Obj.cells #[.int .i64 c, .int .i64 a] 27)) cv (ints (bitsL N S))) from by
    rcases hres with h | ⟨h1, h2, N, S, h3, h4, h5⟩
    · exact Or.inl h
    · exact Or.inr ⟨h1, h2, N, S, h3, h4, h5.below (below1 _ _)⟩)
  have HD := Lib.hid (Nat.le_trans E6.out.hb.size hb10.size)
  clear on os hb10 hsp' hres b11 E6 F6
  go_upto_region 4 with fail
  generalize w10.alloc (Obj.cells #[.int .i64 c, .int .i64 a] 27) = w11 at *
  generalize w10.heap.size = D at *
  go_wp2_with fail
  refine (colourBegun_any _ (TabAt.below (g := 1) HT.out E11.out.hb)).mono ?_
  rintro e w12 ⟨rfl, hb12⟩
  have Hb12 := Lib.hid hb12
  have E12 := Lib.hid (E11.out.below hb12); have F12 := Lib.hid (F11.out.below hb12); have G12 := Lib.hid (G11.out.below hb12)
  clear hb12 F11 G11
  have on := E12.out.on
  have os := E12.out.os
  have cn := E12.out.cn
  have cs := E12.out.cs
  obtain ⟨f0, f1, -, -, -⟩ := F12.out.facts
  obtain ⟨g0, g1, -, -, -⟩ := G12.out.facts
  go_wp2_with fail
  refine (kept_is (decide_eq_true ⟨rfl, rfl⟩) _ _ _ E12.out.ho E12.out.he).mono ?_
  rintro e w13 ⟨rfl, hb13⟩
  have E13 := Lib.hid (E12.out.below hb13); have F13 := Lib.hid (F12.out.below hb13); have G13 := Lib.hid (G12.out.below hb13)
  have Hb13 := Lib.hid (upc Hb12.out hb13)
  clear hb13 E12 F12 G12 Hb12 on os cn cs f0 f1 g0 g1
  obtain ⟨f0, f1, -, -, -⟩ := F13.out.facts
  have cn := E13.out.cn
  have cs := E13.out.cs
  by_cases hz : c = 0
  · subst hz
    obtain ⟨rfl, hn0, hn1, hl2, hok⟩ := small24 Hsp.out
    obtain ⟨N, S, rfl, hbest, hi⟩ : ∃ N S : Nat, n = N ∧ Best (card 24) (FamA (adj l) 0 (2 ^ N - 1)) S ∧ IsInts w13 cv (ints (bitsL N S)) := by
      rcases R11.out with ⟨h, -⟩ | ⟨-, -, N, S, h1, h2, h3⟩
      · exact absurd rfl h
      · exact ⟨N, S, h1, h2, h3.below Hb13.out⟩
    have hN : N ≤ 100 := by omega
    have hN24 : N ≤ 24 := by omega
    have Hok := Lib.hid hok; have Hbest := Lib.hid hbest; have Hi := Lib.hid hi
    have hirr := adj_self (l := l) (fun j hj => (Hok.out j hj).2)
    have Hirr := Lib.hid hirr
    clear hok hbest hi hirr R11
    by_cases h14 : 14 < N
    · have h14i : (14 : Int) < (N : Int) := by omega
      go_wp2
      go_ret
      exact ⟨rfl, E13.out.hb⟩
    · have h14i : ¬ (14 : Int) < (N : Int) := by omega
      go_wp2_with fail
      refine (gridOf_any l N _ _ E13.out.he hN Hok.out).mono ?_
      rintro e w14 ⟨gv, rfl, hg14, hb14⟩
      have HG := Lib.hid (show HasGrid w14 gv N (adj l) from ⟨_, hg14⟩)
      have E14 := Lib.hid (E13.out.below hb14)
      have Hi14 := Lib.hid (Hi.out.below hb14)
      have G14 := Lib.hid (G13.out.below hb14)
      clear hg14 hb14 f0 f1 cn cs
      go_wp2_with fail
      refine (cliqueRef_any hN24 (adj_sy l) gv _ HG.out).mono ?_
      rintro e w15 ⟨rv, S', rfl, hi15, hbest2, hb15⟩
      obtain rfl := Best.uniq (fun T => fam_same (G := adj l) (N := N) T) Hbest.out hbest2
      have E15 := Lib.hid (E14.out.below hb15)
      have G15 := Lib.hid (G14.out.below hb15)
      have Hi15 := Lib.hid (Hi14.out.below hb15)
      have Hr15 := Lib.hid hi15
      clear hb15 hi15 hbest2
      go_wp2_with fail
      refine (ints_is (c := true) (ints (bitsL N S)) (ints (bitsL N S)) _ _ _ Hi15.out Hr15.out (decide_eq_true rfl)).mono ?_
      rintro e w16 ⟨rfl, hd⟩
      have E16 := Lib.hid (E15.out.below hd.below)
      have G16 := Lib.hid (G15.out.below hd.below)
      have Hi16 := Lib.hid (Hi15.out.below hd.below)
      clear hd
      have cn := E16.out.cn
      have cs := E16.out.cs
      go_wp2_with fail
      refine (number_any N l _ _ E16.out.he (TabAt.below (g := 1) HT.out E16.out.hb)).mono ?_
      rintro e w17 ⟨c', a', kv, nv, rfl, hsp', hb17, hres⟩
      have E17 := Lib.hid (E16.out.below hb17)
      have G17 := Lib.hid (G16.out.below hb17)
      obtain ⟨ia, ic, ib, io, rfl, -, -, -, -, -⟩ := id Hi16.out
      have Hres := Lib.hid hres
      obtain ⟨g0, g1, g2, g3, g4⟩ := G17.out.facts
      have hb18 : Below w.heap.size w ((w17.setCell ⟨D, 0, none⟩ (.int .i64 c')).setCell ⟨D, 1, none⟩ (.int .i64 a')) := (E17.out.hb.setCell HD.out _).setCell HD.out _
      have Hb18 := Lib.hid hb18
      have G18 := Lib.hid (G17.out.put c' a')
      obtain ⟨p0, p1, -, -, -⟩ := G18.out.facts
      have P0 := Lib.hid p0
      clear hb17 hres hsp' cn cs hb18 p0 p1
      go_upto_region 13 with fail
      clear g0 g1 g2 g3 g4
      have p0 := P0.out
      generalize (w17.setCell ⟨D, 0, none⟩ (.int .i64 c')).setCell ⟨D, 1, none⟩ (.int .i64 a') = w18 at *
      rcases Hres.out with ⟨h1, rfl, -⟩ | ⟨h1, -, N', K, f, h2, h3, h4, -⟩
      · have q : (c' != 0) = true := by simp [h1]
        have H1 := Lib.hid h1
        clear h1
        go_wp2
        go_ret
        exact ⟨rfl, Hb18.out⟩
      · subst h1
        obtain rfl : N = N' := by omega
        subst h3
        have hck : (ints (bitsL N S)).length ≤ K := by rw [ints_length, bitsL_len]; exact clique_colours Hbest.out.mem h4 hN24
        have hcki : ((ints (bitsL N S)).length : Int) ≤ (K : Int) := by omega
        generalize (ints (bitsL N S)).length = L at *
        clear h2 h4
        go_wp2
        go_ret
        exact ⟨rfl, Hb18.out⟩
  · have q : (c != 0) = true := by simp [hz]
    rcases R11.out with ⟨-, rfl⟩ | ⟨h, -⟩
    · have Hz := Lib.hid hz
      clear hz
      go_wp2
      go_ret
      exact ⟨rfl, E13.out.hb⟩
    · exact absurd h hz

end Go.Proofs.YtfflnpcbpcldeaaDoor
