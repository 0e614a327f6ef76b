/- arborlaw.WidthFits answers true: the walk. -/
import Derived.Test.YtnmljgjegodkaaaDoorFitsW
import Derived.Test.YtnmljgjegodkaaaDoorWBegun
import Derived.Test.YtnmljgjegodkaaaDoorKeptS
import Derived.Test.YtnmljgjegodkaaaDoorGOwn
import Derived.Test.YtnmljgjegodkaaaDoorLBox
import Derived.Test.YtnmljgjegodkaaaDoorPQ
namespace Go.Proofs.YtnmljgjegodkaaaDoor
open Go Go.RowKit

/-- The graphs, the bags and the links up, twice. -/
structure FB (w wr : World) (n : Int) (v v2 : Value) (l : List (Int × Int)) (B : Nat) (m : List (List Int)) (bv rv : Value) (u : List Int) (uv av : Value) : Prop where
  lb : LB w wr n v v2 l B
  hm : IsRows wr bv m
  hr : IsRows wr rv m
  hu : IsInts wr uv u
  ha : IsInts wr av u
theorem FB.below {w wr w' : World} {n : Int} {v v2 : Value} {l : List (Int × Int)} {B : Nat} {m : List (List Int)} {bv rv : Value} {u : List Int} {uv av : Value} (h : FB w wr n v v2 l B m bv rv u uv av) (hb : Below wr.heap.size wr w') : FB w w' n v v2 l B m bv rv u uv av :=
  ⟨h.lb.below hb, h.hm.below hb, h.hr.below hb, h.hu.below hb, h.ha.below hb⟩
theorem lists_same {m : List (List Int)} (s t : Value) (w : World) (h : IsRows w s m) (h' : IsRows w t m) :
    Calls Tryd.prog 18 #[s, t] w fun e w' => e = .returned (.bool true) ∧ Drew w w' := by
  have := lists_any m m s t w h h'
  rwa [decide_eq_true rfl] at this

set_option maxHeartbeats 1600000 in
set_option maxRecDepth 100000 in
theorem wfitsLaw_any (n : Int) (l : List (Int × Int)) (m : List (List Int)) (u : List Int) (hl : l.length * 16 ≤ 140737488351232) (hm1 : m.length * 24 ≤ 140737488351232) (hm2 : ∀ j, j < m.length → (m.getD j []).length * 8 ≤ 140737488351232) (hul : u.length * 8 ≤ 140737488351232)
    (sv bv uv : Value) (w : World) (h : IsEdges w sv l) (hm : IsRows w bv m) (hu : IsInts w uv u) (hT : TabAt 1 Lib.deBruijn64tab w) :
    Calls Tryd.prog 4 #[.agg #[.int .i64 n, sv], bv, uv] w fun e w' => e = .returned (.bool true) ∧ Below w.heap.size w w' := by
  have HT := Lib.hid hT
  have Hm2 := Lib.hid hm2
  clear hT hm2
  obtain ⟨ad, cap, rfl⟩ := h.form
  obtain ⟨ab, cb, rfl⟩ : ∃ ab cb, bv = .slice ab m.length cb := by
    obtain ⟨a, c, _, _, rfl, _⟩ := hm
    exact ⟨a, c, rfl⟩
  obtain ⟨au, cu, rfl⟩ : ∃ au cu, uv = .slice au u.length cu := by
    obtain ⟨a, c, _, _, rfl, _⟩ := hu
    exact ⟨a, c, rfl⟩
  have hb1 := below1 w (Obj.cells #[.int .i64 n, .slice ad l.length cap] 24)
  have c0 := two_cells w (.int .i64 n) (.slice ad l.length cap) 24
  have cn := c0.1
  have cs := c0.2
  have he := h.below hb1
  have Hm := Lib.hid (hm.below hb1); have Hu := Lib.hid (hu.below hb1)
  clear c0 h hm hu
  go_enter Tryd.func4, Tryd.ntmps4
  go_upto_region 1 with fail
  generalize w.alloc (Obj.cells #[.int .i64 n, .slice ad l.length cap] 24) = w1 at *
  have Cn := Lib.hid (And.intro cn cs); have He := Lib.hid he; have Hb1 := Lib.hid hb1
  clear he hb1
  go_wp2_with fail
  refine (own_any l n (.slice ad l.length cap) _ He.out hl).mono ?_
  rintro e w2 ⟨v2, rfl, ho2, hb2⟩
  obtain ⟨a2, c2, rfl⟩ := ho2.form
  have Ho2 := Lib.hid ho2.edges; have Hb2 := Lib.hid hb2
  have Hm2' := Lib.hid (Hm.out.below hb2); have Hu2 := Lib.hid (Hu.out.below hb2)
  clear cn cs ho2 hb2
  go_wp2_with fail
  refine (rows_any m _ w2 Hm2'.out hm1 Hm2.out).mono ?_
  rintro e w3 ⟨rv, rfl, hr3, hb3⟩
  obtain ⟨a3, c3, rfl⟩ : ∃ a c, rv = .slice a m.length c := by
    obtain ⟨a, c, _, _, rfl, _⟩ := hr3
    exact ⟨a, c, rfl⟩
  have Ho3 := Lib.hid (Ho2.out.below hb3)
  have Hb3 := Lib.hid (upc Hb2.out hb3)
  have Hr3 := Lib.hid hr3
  have hu3 := Hu2.out.below hb3
  clear hr3 hb3
  go_upto_region 2 with (at_builtin; refine wpList_append_has rfl (.const (.slice none 0 0)) (.tmp 17) 30 rfl w3.heap.size 3 (.int .i64 0) 8 Tryd.underlying30 info3 rfl _ 0 [] rfl (World.ownsRow_nil _ _ _ _) _ u.length (u.map (Value.int .i64)) rfl hu3.cells (by omega) (by omega) (by omega) ?_; intro a4 c4 w4 hown4 hg4; simp only [Nat.zero_add, List.nil_append] at hown4; have hb4 := below_grown0 hg4; have hu4 := IsInts.owned hown4; have Hb5 := Lib.hid (upc (upc Hb3.out hb4) (below1 w4 (Obj.cells #[.int .i64 n, .slice a2 l.length c2] 24))); have Hb45 := Lib.hid (upc hb4 (below1 w4 (Obj.cells #[.int .i64 n, .slice a2 l.length c2] 24))); have o0 := two_cells w4 (.int .i64 n) (.slice a2 l.length c2) 24; have E4 := Lib.hid (show FB w (w4.alloc (Obj.cells #[.int .i64 n, .slice a2 l.length c2] 24)) n (.slice ad l.length cap) (.slice a2 l.length c2) l w4.heap.size m (.slice ab m.length cb) (.slice a3 m.length c3) u (.slice au u.length cu) (.slice a4 u.length c4) from ⟨⟨Hb1.out.trans (Hb5.out.mono Hb1.out.size), below_cell Hb5.out Cn.out.1, below_cell Hb5.out Cn.out.2, o0.1, o0.2, He.out.below Hb5.out, Ho3.out.below Hb45.out⟩, Hm.out.below Hb5.out, Hr3.out.below Hb45.out, Hu.out.below Hb5.out, hu4.below (below1 _ _)⟩); clear hown4 hg4 hb4 hu4 Hb5 Hb45 o0)
  generalize w4.alloc (Obj.cells #[.int .i64 n, .slice a2 l.length c2] 24) = w5 at *
  generalize w4.heap.size = B at *
  clear hu3 Hr3 Hb3 Ho3 Hu2 Hm2' Hb2 Ho2 Hb1 He Cn Hu Hm
  have cn := E4.out.lb.cn
  have cs := E4.out.lb.cs
  go_wp2_with fail
  refine (fitsFault_any n l m u _ _ _ w5 E4.out.lb.he E4.out.hm E4.out.hu).mono ?_
  rintro e w6 ⟨c, a, hfs, rfl, hb6⟩
  have Hfs := Lib.hid hfs
  have F6 := Lib.hid (FV.new w6 c a)
  have E6 := Lib.hid (E4.out.below (upc hb6 (below1 w6 (Obj.cells #[.int .i64 c, .int .i64 a] 27))))
  clear hfs hb6 cn cs E4
  go_upto_region 3 with fail
  generalize w6.alloc (Obj.cells #[.int .i64 c, .int .i64 a] 27) = w7 at *
  generalize w6.heap.size = C at *
  have on := E6.out.lb.on
  have os := E6.out.lb.os
  go_wp2_with fail
  refine (fits_any n l m u _ _ _ w7 E6.out.lb.ho E6.out.hr E6.out.ha).mono ?_
  rintro e w8 ⟨ok, c', a', rfl, hfs', hb8, hz8, hg8⟩
  obtain ⟨e1, e2⟩ := FitsSpec.uniq Hfs.out hfs'
  subst e1
  subst e2
  have Hz8 := Lib.hid hz8; have Hg8 := Lib.hid hg8
  have b9 := upc hb8 (below1 w8 (Obj.cells #[.int .i64 c, .int .i64 a] 27))
  have E9 := Lib.hid (E6.out.below b9)
  have F9 := Lib.hid (F6.out.below b9)
  have G9 := Lib.hid (FV.new w8 c a)
  clear on os hb8 hfs' hz8 hg8 b9 E6 F6
  go_upto_region 4 with fail
  generalize w8.alloc (Obj.cells #[.int .i64 c, .int .i64 a] 27) = w9 at *
  generalize w8.heap.size = D at *
  go_wp2_with fail
  refine (widthBegun_any _ (TabAt.below (g := 1) HT.out E9.out.lb.hb)).mono ?_
  rintro e w10 ⟨rfl, hb10⟩
  have E10 := Lib.hid (E9.out.below hb10); have F10 := Lib.hid (F9.out.below hb10); have G10 := Lib.hid (G9.out.below hb10)
  clear hb10 E9 F9 G9
  have on := E10.out.lb.on
  have os := E10.out.lb.os
  have cn := E10.out.lb.cn
  have cs := E10.out.lb.cs
  obtain ⟨f0, f1, -, -, -⟩ := F10.out.facts
  obtain ⟨g0, g1, -, -, -⟩ := G10.out.facts
  go_wp2_with fail
  refine (kept_is (decide_eq_true ⟨rfl, rfl⟩) _ _ _ E10.out.lb.ho E10.out.lb.he).mono ?_
  rintro e w11 ⟨rfl, hb11⟩
  have E11 := Lib.hid (E10.out.below hb11); have F11 := Lib.hid (F10.out.below hb11)
  clear hb11 E10 F10 G10 on os cn cs f0 f1 g0 g1
  go_wp2_with fail
  refine (lists_same _ _ w11 E11.out.hr E11.out.hm).mono ?_
  rintro e w12 ⟨rfl, hd12⟩
  have E12 := Lib.hid (E11.out.below hd12.below); have F12 := Lib.hid (F11.out.below hd12.below)
  clear hd12 E11 F11
  go_wp2_with fail
  refine (ints_is (c := true) u u _ _ w12 E12.out.ha E12.out.hu (decide_eq_true rfl)).mono ?_
  rintro e w13 ⟨rfl, hd13⟩
  have E13 := Lib.hid (E12.out.below hd13.below); have F13 := Lib.hid (F12.out.below hd13.below)
  clear hd13 E12 F12
  obtain ⟨f0, f1, -, -, -⟩ := F13.out.facts
  have cn := E13.out.lb.cn
  have cs := E13.out.lb.cs
  by_cases hz : c = 0
  · subst hz
    obtain ⟨rfl, hsp, hM, hUM, hbo⟩ := FitsSpec.good Hfs.out
    obtain ⟨N, bs, rfl, hmb, hok⟩ := Hg8.out rfl
    obtain ⟨-, hn100, -, hends⟩ := graph_good hsp
    have hbl : bs.length = m.length := by rw [hmb, List.length_map]
    have Hov := Lib.hid (over_any N l bs u _ (.slice ab m.length cb) _ w13 E13.out.lb.he (by rw [← hmb]; exact E13.out.hm) E13.out.hu (by omega) hends (by omega) (by omega))
    have Hok := Lib.hid hok
    clear hok hends hbo hsp hM hUM hm1 Hz8 Hg8 Hfs hmb hbl
    go_wp2_with fail
    apply Calls.mono Hov.out
    rintro e w14 ⟨bo, hbo, rfl, hb14⟩
    obtain rfl : ok = bo := by rw [Bool.eq_iff_iff]; exact Hok.out.trans hbo.symm
    have E14 := Lib.hid (E13.out.below hb14)
    clear hbo hb14 Hok f0 f1 cn cs
    go_wp2
    go_ret
    exact ⟨by simp, E14.out.lb.hb⟩
  · obtain rfl : ok = false := Hz8.out hz
    have hcb : (c != 0) = true := by simp [hz]
    clear Hz8 Hg8
    go_wp2
    go_ret
    exact ⟨rfl, E13.out.lb.hb⟩
end Go.Proofs.YtnmljgjegodkaaaDoor
