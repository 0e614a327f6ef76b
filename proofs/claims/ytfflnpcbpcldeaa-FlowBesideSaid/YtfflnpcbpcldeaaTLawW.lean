/- arborlaw.FlowTree answers true: the walk. -/
import Derived.Test.YtfflnpcbpcldeaaTreeW
import Derived.Test.YtfflnpcbpcldeaaLCut
import Derived.Test.YtfflnpcbpcldeaaBetw
import Derived.Test.YtfflnpcbpcldeaaSame
import Derived.Test.YtfflnpcbpcldeaaGOwn
import Derived.Test.YtfflnpcbpcldeaaFBegun
import Derived.Deep.CutBlock
namespace Go.Proofs.Ytfflnpcbpcldeaa
open Go.RowKit

/-- Two graphs in two boxes. -/
theorem below_two {w : World} {n m : Int} {s t : Value} {l k : List (Int × Int)} (h : IsEdges w s l) (h' : IsEdges w t k) (o o' : Obj) : IsEdges ((w.alloc o).alloc o') s l ∧ IsEdges ((w.alloc o).alloc o') t k := ⟨h.below (below2 w o o'), h'.below (below2 w o o')⟩

set_option maxHeartbeats 800000 in
theorem kept_yes {n : Int} {l : List (Int × Int)} (s t : Value) (w : World) (h : IsEdges w s l) (h' : IsEdges w t l) :
    Calls Try.prog 16 #[.agg #[.int .i64 n, s], .agg #[.int .i64 n, t]] w fun e w' => e = .returned (.bool true) ∧ Below w.heap.size w w' := by
  have hb := below2 w (Obj.cells #[.int .i64 n, s] 24) (Obj.cells #[.int .i64 n, t] 24)
  have h1 := h.below hb
  have h2 := h'.below hb
  have c0 := two_cells w (.int .i64 n) s 24
  have c1 := two_cells (w.alloc (Obj.cells #[.int .i64 n, s] 24)) (.int .i64 n) t 24
  rw [World.size_alloc] at c1
  have a0 := below_cell (below1 _ (Obj.cells #[.int .i64 n, t] 24)) c0.1
  have a1 := below_cell (below1 _ (Obj.cells #[.int .i64 n, t] 24)) c0.2
  have a2 := c1.1
  have a3 := c1.2
  have H1 := Lib.hid h1; have H2 := Lib.hid h2; have Hb := Lib.hid hb
  clear h h' h1 h2 hb c0 c1
  go_enter Try.func16, Try.ntmps16
  go_upto_region 1 with fail
  generalize (w.alloc (Obj.cells #[.int .i64 n, s] 24)).alloc (Obj.cells #[.int .i64 n, t] 24) = w1 at *
  go_wp2_with fail
  refine (same_any l l n n _ _ _ H1.out H2.out).mono ?_
  rintro e w2 ⟨rfl, hb2⟩
  rw [decide_eq_true (show n = n ∧ l = l from ⟨rfl, rfl⟩)]
  go_wp2
  go_ret
  exact ⟨rfl, Hb.out.trans (hb2.mono Hb.out.size)⟩

/-- What stands throughout: the argument's box, one's own copy's box, both graphs' edges, both lists of weights. -/
structure LG (w wr : World) (n : Int) (v v2 : Value) (l : List (Int × Int)) (B : Nat) (u u2 : Value) (ws : List Int) : Prop where
  hb : Below w.heap.size w wr
  cn : wr.cell? ⟨w.heap.size, 0, none⟩ = some (.int .i64 n)
  cs : wr.cell? ⟨w.heap.size, 1, none⟩ = some v
  on : wr.cell? ⟨B, 0, none⟩ = some (.int .i64 n)
  os : wr.cell? ⟨B, 1, none⟩ = some v2
  he : IsEdges wr v l
  ho : IsEdges wr v2 l
  hu : IsInts wr u ws
  hu2 : IsInts wr u2 ws
theorem LG.below {w wr w' : World} {n : Int} {v v2 : Value} {l : List (Int × Int)} {B : Nat} {u u2 : Value} {ws : List Int} (h : LG w wr n v v2 l B u u2 ws) (hb : Below wr.heap.size wr w') : LG w w' n v v2 l B u u2 ws :=
  ⟨h.hb.trans (hb.mono h.hb.size), below_cell hb h.cn, below_cell hb h.cs, below_cell hb h.on, below_cell hb h.os, h.he.below hb, h.ho.below hb, h.hu.below hb, h.hu2.below hb⟩

/-- The fault so far. -/
def PreT (n : Int) (l : List (Int × Int)) (ws : List Int) (i : Nat) (c a : Int) : Prop :=
  (TreeSpec n l ws c a ∧ c ≠ 0) ∨ (c = 0 ∧ a = 0 ∧ GraphSpec n l 0 0 ∧ ws.length = l.length ∧ ∀ j, j < i → WOk ws j)
theorem PreT.done {n : Int} {l : List (Int × Int)} {ws : List Int} {i : Nat} {c a : Int} (h : PreT n l ws i c a) (hi : i = ws.length ∨ c ≠ 0) : TreeSpec n l ws c a := by
  rcases h with ⟨h, -⟩ | ⟨rfl, rfl, h1, h2, h3⟩
  · exact h
  · rcases hi with rfl | hi
    · exact Or.inr ⟨h1, Or.inr ⟨h2, Or.inr ⟨h3, rfl, rfl⟩⟩⟩
    · exact absurd rfl hi
theorem PreT.good {n : Int} {l : List (Int × Int)} {ws : List Int} {i : Nat} {a : Int} (h : PreT n l ws i 0 a) (hz : WOk ws i) : PreT n l ws (i + 1) 0 a := by
  rcases h with ⟨-, h⟩ | ⟨-, rfl, h1, h2, h3⟩
  · exact absurd rfl h
  · refine Or.inr ⟨rfl, rfl, h1, h2, fun j hj => ?_⟩
    by_cases e : j = i
    · rw [e]; exact hz
    · exact h3 j (by omega)
theorem PreT.bad {n : Int} {l : List (Int × Int)} {ws : List Int} {i : Nat} {a : Int} (h : PreT n l ws i 0 a) (hi : i < ws.length) (hz : ¬ WOk ws i) : PreT n l ws (i + 1) 3 i := by
  rcases h with ⟨-, h⟩ | ⟨-, rfl, h1, h2, h3⟩
  · exact absurd rfl h
  · exact Or.inl ⟨Or.inr ⟨h1, Or.inr ⟨h2, Or.inl ⟨i, hi, h3, hz, rfl, rfl⟩⟩⟩, by omega⟩

/-- The fault lies in a variable. -/
def TCut (w2 : World) (n : Int) (l : List (Int × Int)) (ws : List Int) (C : Nat) (wx : World) : Prop := ∃ c a, PreT n l ws 0 c a ∧ FV wx C c a ∧ Below w2.heap.size w2 wx

/-- What flow.Tree has answered. -/
def TreeRes (w : World) (n : Int) (l : List (Int × Int)) (ws : List Int) (c a : Int) (uv cv : Value) : Prop :=
  (c ≠ 0 ∧ uv = .slice none 0 0 ∧ cv = .slice none 0 0) ∨ (c = 0 ∧ a = 0 ∧ ∃ (N : Nat) (up cut : Nat → Nat), n = N ∧ TreeOk N l ws up cut ∧ IsInts w uv (upL N up) ∧ IsInts w cv (cutV N cut))
theorem TreeRes.below {w w' : World} {n : Int} {l : List (Int × Int)} {ws : List Int} {c a : Int} {uv cv : Value} (h : TreeRes w n l ws c a uv cv) (hb : Below w.heap.size w w') : TreeRes w' n l ws c a uv cv := by
  rcases h with h | ⟨h1, h2, N, up, cut, h3, h4, h5, h6⟩
  · exact Or.inl h
  · exact Or.inr ⟨h1, h2, N, up, cut, h3, h4, h5.below hb, h6.below hb⟩

set_option maxHeartbeats 6400000 in
set_option maxRecDepth 100000 in
theorem treeLaw_any (n : Int) (l : List (Int × Int)) (ws : List Int) (hl : l.length * 16 ≤ 140737488351232) (hwl : ws.length * 8 ≤ 140737488351232) (s u : Value) (w : World) (h : IsEdges w s l) (hw : IsInts w u ws) :
    Calls Try.prog 8 #[.agg #[.int .i64 n, s], u] w fun e w' => e = .returned (.bool true) ∧ Below w.heap.size w w' := by
  obtain ⟨ad, cap, rfl⟩ := h.form
  obtain ⟨wa, wk, wb, wo, rfl, hwcap, hwmax, hwadr, -, -⟩ := id hw
  have hb1 := below1 w (Obj.cells #[.int .i64 n, .slice ad l.length cap] 24)
  have c0 := two_cells w (.int .i64 n) (.slice ad l.length cap) 24
  have cn := c0.1
  have cs := c0.2
  have he := h.below hb1
  have hu := hw.below hb1
  clear c0 h hw
  go_enter Try.func8, Try.ntmps8
  go_upto_region 1 with fail
  generalize w.alloc (Obj.cells #[.int .i64 n, .slice ad l.length cap] 24) = w1 at *
  have Cn := Lib.hid (And.intro cn cs); have He := Lib.hid he; have Hu := Lib.hid hu; have Hb1 := Lib.hid hb1
  clear he hu hb1
  go_wp2_with fail
  refine (own_any l n (.slice ad l.length cap) _ He.out hl).mono ?_
  rintro e w2 ⟨v2, rfl, ho2, hb2⟩
  obtain ⟨a2, c2, rfl⟩ := ho2.form
  have hb3 := upt hb2 (below1 w2 (Obj.cells #[.int .i64 n, .slice a2 l.length c2] 24))
  have o0 := two_cells w2 (.int .i64 n) (.slice a2 l.length c2) 24
  have Ho := Lib.hid (ho2.edges.below (below1 w2 (Obj.cells #[.int .i64 n, .slice a2 l.length c2] 24)))
  have O0 := Lib.hid o0; have Hb3 := Lib.hid hb3
  clear cn cs ho2 hb2 hb3 o0
  go_upto_region 2 with fail
  generalize w2.alloc (Obj.cells #[.int .i64 n, .slice a2 l.length c2] 24) = w3 at *
  generalize w2.heap.size = B at *
  have hu3 := Hu.out.below Hb3.out
  go_upto_region 3 with (at_builtin; refine wpList_append_has rfl (.const (.slice none 0 0)) (.tmp 19) 51 rfl w3.heap.size 3 (.int .i64 0) 8 Try.underlying51 info3 rfl _ 0 [] rfl (World.ownsRow_nil _ _ _ _) _ ws.length (ws.map (Value.int .i64)) rfl hu3.cells (by omega) (by omega) (by omega) ?_; intro a4 c4 w4 hown4 hg4; simp only [Nat.zero_add, List.nil_append] at hown4; have hb4 := below_grown0 hg4; have hu4 := IsInts.owned hown4; have E4 := Lib.hid (show LG w w4 n (.slice ad l.length cap) (.slice a2 l.length c2) l B (.slice wa ws.length wk) (.slice a4 ws.length c4) ws from ⟨Hb1.out.trans ((upt Hb3.out hb4).mono Hb1.out.size), below_cell (upt Hb3.out hb4) Cn.out.1, below_cell (upt Hb3.out hb4) Cn.out.2, below_cell hb4 O0.out.1, below_cell hb4 O0.out.2, He.out.below (upt Hb3.out hb4), Ho.out.below hb4, hu3.below hb4, hu4⟩); clear hown4 hg4 hb4 hu4)
  clear hu3 Hu He Ho O0 Cn Hb1 Hb3
  have cn := E4.out.cn
  have cs := E4.out.cs
  go_wp2_with fail
  refine (rcheck_any l n _ _ E4.out.he).mono ?_
  rintro e w5 ⟨c, a, hsp, rfl, hb5⟩
  have Hsp := Lib.hid hsp
  have hsz5 := hb5.size
  have b6 := upt hb5 (below1 w5 (Obj.cells #[.int .i64 c, .int .i64 a] 27))
  have B6 := Lib.hid b6
  have F6 := Lib.hid (FV.new w5 c a)
  have E6 := Lib.hid (E4.out.below b6)
  clear hsp hb5 b6 cn cs
  go_upto_region 4 with fail
  generalize w5.alloc (Obj.cells #[.int .i64 c, .int .i64 a] 27) = w6 at *
  generalize w5.heap.size = C at *
  have cs := E6.out.cs
  obtain ⟨f0, f1, g0, g1, lf⟩ := F6.out.facts
  go_cut [33] from 23 to 33 (fun s33 wx => s33 = .bool (decide (c = 0 ∧ ws.length ≠ l.length)) ∧ w6 = wx)
  case first =>
    by_cases hz : c = 0
    · subst hz
      by_cases hlen : ws.length = l.length
      · have q : ((ws.length : Int) != (l.length : Int)) = false := by simp; omega
        have e := Lib.hid (decide_eq_false (p := (0 : Int) = 0 ∧ ws.length ≠ l.length) (fun h => h.2 hlen))
        clear hlen
        go_wp2
        go_meet
        exact ⟨by rw [e.out], rfl⟩
      · have q : ((ws.length : Int) != (l.length : Int)) = true := by simp; omega
        have e := Lib.hid (decide_eq_true (p := (0 : Int) = 0 ∧ ws.length ≠ l.length) ⟨rfl, hlen⟩)
        clear hlen
        go_wp2
        go_meet
        exact ⟨by rw [e.out], rfl⟩
    · have q : (c == 0) = false := by simp [hz]
      have e := Lib.hid (decide_eq_false (p := c = 0 ∧ ws.length ≠ l.length) (fun h => hz h.1))
      clear hz
      go_wp2
      go_meet
      exact ⟨by rw [e.out], rfl⟩
  case rest =>
  obtain ⟨rfl, rfl⟩ := hcut
  go_upto_if 33 with fail
  go_cut [] from 33 to 34 (fun wx => TCut w4 n l ws C wx)
  case first =>
    by_cases hP : c = 0 ∧ ws.length ≠ l.length
    · rw [decide_eq_true hP]
      obtain ⟨rfl, hlen⟩ := hP
      obtain ⟨rfl, -⟩ := tree_good Hsp.out
      have Hlen := Lib.hid hlen
      clear hlen
      go_wp2_with (go_at_call 18; refine (F_any _ _ _).mono ?_; rintro e wf ⟨rfl, rfl⟩)
      go_meet
      have F7 := F6.out.put 6 0
      have B7 := (B6.out.setCell (p := ⟨C, 0, none⟩) hsz5 (.int .i64 6)).setCell (p := ⟨C, 1, none⟩) hsz5 (.int .i64 0)
      exact ⟨6, 0, Or.inl ⟨Or.inr ⟨Hsp.out, Or.inl ⟨Hlen.out, rfl, rfl⟩⟩, by omega⟩, F7.below (below1 _ _), upt B7 (below1 _ _)⟩
    · rw [decide_eq_false hP]
      have HP := Lib.hid hP
      clear hP
      go_wp2
      go_meet
      by_cases hz : c = 0
      · subst hz
        obtain ⟨rfl, -⟩ := tree_good Hsp.out
        exact ⟨0, 0, Or.inr ⟨rfl, rfl, Hsp.out, Classical.byContradiction fun h => HP.out ⟨rfl, h⟩, fun j hj => absurd hj (Nat.not_lt_zero _)⟩, F6.out, B6.out⟩
      · exact ⟨c, a, Or.inl ⟨Or.inl ⟨Hsp.out, hz⟩, hz⟩, F6.out, B6.out⟩
  case rest =>
  obtain ⟨c0, a0, hpre, hf7, hb7⟩ := hcut
  clear f0 f1 g0 g1 lf cs Hsp F6 E6 B6
  obtain ⟨w7, rfl⟩ : ∃ w7 : World, w7 = wc := ⟨_, rfl⟩
  have Hpre := Lib.hid hpre; have Hf7 := Lib.hid hf7; have Hb7 := Lib.hid hb7
  clear hpre hf7 hb7
  go_upto_block 0 with fail
  go_cut [8] from 35 to 59 (fun _s8 wx => ∃ c a, TreeSpec n l ws c a ∧ FV wx C c a ∧ Below w4.heap.size w4 wx)
  case first =>
    go_wp2_with fail
    go_loopg [8] ws.length (fun g s8 wr => ∃ (i : Nat) (c a : Int), i ≤ ws.length ∧ g = ws.length - i ∧ s8 = .int .i64 (i : Int) ∧ PreT n l ws i c a ∧ FV wr C c a ∧ Below w4.heap.size w4 wr)
    case atStart => exact ⟨0, c0, a0, Nat.zero_le _, rfl, rfl, Hpre.out, Hf7.out, Hb7.out⟩
    case round =>
      obtain ⟨i, c, a, hi, rfl, rfl, hpre, hf, hb⟩ := hrel
      have Hp := Lib.hid hpre; have Hf := Lib.hid hf; have Hb := Lib.hid hb
      obtain ⟨f0, f1, g0, g1, lf⟩ := hf.facts
      clear hpre hf
      by_cases hil : i < ws.length
      · by_cases hc : c = 0
        · subst hc
          obtain rfl := hwadr (by omega)
          have hu := (E4.out.below hb).hu
          obtain ⟨wa', wk', wb', wo', ew, -, -, hwadr', -, hwcell⟩ := hu
          obtain ⟨z, Hz, cz⟩ := ints_at hwcell (Below.refl _ _) hil
          obtain ⟨rfl, rfl⟩ : wb = wb' ∧ wo = wo' := by
            have e := hwadr' (by omega)
            simp only [Value.slice.injEq] at ew
            rw [← ew.1] at e
            simpa using e
          clear hwcell hwadr' ew hb
          by_cases hz0 : z < 0
          · have Hbad := Lib.hid (show ¬ WOk ws i by unfold WOk; rw [Hz.out]; omega)
            go_wp2_with (go_at_call 18; refine (F_any _ _ _).mono ?_; rintro e wf ⟨rfl, rfl⟩)
            go_roundg (ws.length - (i + 1))
            case measure => go_light; omega
            case rel => exact ⟨i + 1, 3, i, by omega, rfl, by go_num, Hp.out.bad hil Hbad.out, (Hf.out.put 3 i).below (below1 _ _), upt ((Hb.out.setCell (p := ⟨C, 0, none⟩) hsz5 (.int .i64 3)).setCell (p := ⟨C, 1, none⟩) hsz5 (.int .i64 (i : Int))) (below1 _ _)⟩
          · by_cases hz1 : 1000000 < z
            · have Hbad := Lib.hid (show ¬ WOk ws i by unfold WOk; rw [Hz.out]; omega)
              go_wp2_with (go_at_call 18; refine (F_any _ _ _).mono ?_; rintro e wf ⟨rfl, rfl⟩)
              go_roundg (ws.length - (i + 1))
              case measure => go_light; omega
              case rel => exact ⟨i + 1, 3, i, by omega, rfl, by go_num, Hp.out.bad hil Hbad.out, (Hf.out.put 3 i).below (below1 _ _), upt ((Hb.out.setCell (p := ⟨C, 0, none⟩) hsz5 (.int .i64 3)).setCell (p := ⟨C, 1, none⟩) hsz5 (.int .i64 (i : Int))) (below1 _ _)⟩
            · have Hgood := Lib.hid (show WOk ws i by unfold WOk; rw [Hz.out]; omega)
              go_wp2
              go_roundg (ws.length - (i + 1))
              case measure => go_light; omega
              case rel => exact ⟨i + 1, 0, a, by omega, rfl, by go_num, Hp.out.good Hgood.out, Hf.out, Hb.out⟩
        · have q : (c == 0) = false := by simp [hc]
          have Hsp := Lib.hid (Hp.out.done (Or.inr hc))
          clear hc hb
          go_wp2
          go_meet
          exact ⟨c, a, Hsp.out, Hf.out, Hb.out⟩
      · have Hsp := Lib.hid (Hp.out.done (Or.inl (by omega)))
        clear hb
        go_wp2
        go_meet
        exact ⟨c, a, Hsp.out, Hf.out, Hb.out⟩

  case rest =>
  obtain ⟨c, a, hsp, hf8, hb8⟩ := hcut
  obtain ⟨w8, rfl⟩ : ∃ w8 : World, w8 = wc := ⟨_, rfl⟩
  have Hsp := Lib.hid hsp; have F8 := Lib.hid hf8; have E8 := Lib.hid (E4.out.below hb8)
  clear hsp hf8 hb8 Hpre Hf7 Hb7 E4
  have on := E8.out.on
  have os := E8.out.os
  go_wp2_with fail
  refine (tree_any n l ws _ _ _ E8.out.ho E8.out.hu2).mono ?_
  rintro e w9 ⟨c', a', uv, cv, rfl, hsp', hb9, hres⟩
  obtain ⟨e1, e2⟩ := Hsp.out.uniq hsp'
  subst e1
  subst e2
  have b10 := upt hb9 (below1 w9 (Obj.cells #[.int .i64 c, .int .i64 a] 27))
  have E10 := Lib.hid (E8.out.below b10)
  have F10 := Lib.hid (F8.out.below b10)
  have G10 := Lib.hid (FV.new w9 c a)
  have R10 := Lib.hid (TreeRes.below (show TreeRes w9 n l ws c a uv cv from hres) (below1 w9 (Obj.cells #[.int .i64 c, .int .i64 a] 27)))
  clear on os hb9 hsp' hres b10 E8 F8
  go_upto_region 12 with fail
  generalize w9.alloc (Obj.cells #[.int .i64 c, .int .i64 a] 27) = w10 at *
  generalize w9.heap.size = D at *
  go_wp2_with fail
  refine (flowBegun_any _).mono ?_
  rintro e w11 ⟨rfl, hb11⟩
  have E11 := Lib.hid (E10.out.below hb11); have F11 := Lib.hid (F10.out.below hb11); have G11 := Lib.hid (G10.out.below hb11); have R11 := Lib.hid (R10.out.below hb11)
  clear hb11 E10 F10 G10 R10
  have on := E11.out.on
  have os := E11.out.os
  have cn := E11.out.cn
  have cs := E11.out.cs
  obtain ⟨f0, f1, -, -, -⟩ := F11.out.facts
  obtain ⟨g0, g1, -, -, -⟩ := G11.out.facts
  go_wp2_with fail
  refine (kept_yes _ _ _ E11.out.ho E11.out.he).mono ?_
  rintro e w12 ⟨rfl, hb12⟩
  have E12 := Lib.hid (E11.out.below hb12); have F12 := Lib.hid (F11.out.below hb12); have R12 := Lib.hid (R11.out.below hb12)
  clear hb12 E11 F11 G11 R11 on os cn cs f0 f1 g0 g1
  go_wp2_with fail
  refine (ints_is ws ws _ _ _ E12.out.hu2 E12.out.hu (c := true) (by simp)).mono ?_
  rintro e w13 ⟨rfl, hd13⟩
  have hb13 : Below w12.heap.size w12 w13 := hd13.below
  have E13 := Lib.hid (E12.out.below hb13); have F13 := Lib.hid (F12.out.below hb13); have R13 := Lib.hid (R12.out.below hb13)
  clear hb13 hd13 E12 F12 R12
  obtain ⟨f0, f1, -, -, -⟩ := F13.out.facts
  have cn := E13.out.cn
  by_cases hz : c = 0
  · subst hz
    obtain ⟨rfl, N, up, cut, rfl, hT, hiu, hic⟩ : a = 0 ∧ ∃ (N : Nat) (up cut : Nat → Nat), n = N ∧ TreeOk N l ws up cut ∧ IsInts w13 uv (upL N up) ∧ IsInts w13 cv (cutV N cut) := by
      rcases R13.out with ⟨h, -⟩ | ⟨-, h⟩
      · exact absurd rfl h
      · exact h
    have HT := Lib.hid hT
    obtain ⟨au, ku, bu, ou, rfl, -, -, hau, -, hcu⟩ := id hiu
    obtain ⟨ac, kc, bc, oc, rfl, -, -, hac, -, hcc⟩ := id hic
    have hul : (upL N up).length = N := by simp [upL]
    have hcl : (cutV N cut).length = N := by simp [cutV]
    have HCu := Lib.hid (show ∀ v, v < N → w13.cell? ⟨bu, ou + v, none⟩ = some (.int .i64 (upV up v)) from fun v hv => by rw [hcu v (by omega), upL_get up hv])
    have HCc := Lib.hid (show ∀ v, v < N → w13.cell? ⟨bc, oc + v, none⟩ = some (.int .i64 (cut v : Int)) from fun v hv => by rw [hcc v (by omega), cutV_get cut hv])
    rw [hul] at hau hiu ⊢
    rw [hcl] at hac hic ⊢
    have Hiu := Lib.hid hiu; have Hic := Lib.hid hic
    have hspec : GraphSpec (N : Int) l 0 0 ∧ ws.length = l.length ∧ ∀ j, j < ws.length → WOk ws j := by
      rcases Hsp.out with ⟨-, h⟩ | ⟨h1, ⟨-, h, -⟩ | ⟨h2, ⟨i, -, -, -, h, -⟩ | ⟨h3, -⟩⟩⟩
      · exact absurd rfl h
      · cases h
      · cases h
      · exact ⟨h1, h2, h3⟩
    obtain ⟨-, -, hn1, hl1, hok⟩ := tree_good hspec.1
    have hN : N ≤ 100 := by omega
    have Hok := Lib.hid hok; have Hlen := Lib.hid hspec.2.1; have Hz := Lib.hid hspec.2.2
    obtain ⟨f, S, hf, hG, hc0⟩ := hT
    have Hf := Lib.hid hf; have HG := Lib.hid hG; have Hc0 := Lib.hid hc0
    clear R13 hiu hic hcu hcc hspec hok Hsp hn1 hf hG hc0 HT
    go_wp2
    clear cn f0 f1
    go_loopg [12] N (fun g s12 wr => ∃ v : Nat, v ≤ N ∧ g = N - v ∧ s12 = .int .i64 (v : Int) ∧ Below w13.heap.size w13 wr)
    case atStart => exact ⟨0, Nat.zero_le _, rfl, rfl, Below.refl _ _⟩
    case round =>
      obtain ⟨v, hv, rfl, rfl, hb⟩ := hrel
      have Hb := Lib.hid hb
      have cn := (E13.out.below hb).cn
      by_cases hlt : v < N
      · obtain rfl := hau (by omega)
        obtain rfl := hac (by omega)
        have hGus := HG.out (by omega)
        have cu := below_cell hb (HCu.out v hlt)
        have cc := below_cell hb (HCc.out v hlt)
        have Hup := Lib.hid hGus.up_lt
        clear hb hGus
        go_upto_region 21 with fail
        go_cut [148] from 113 to 148 (fun s148 wx => s148 = .bool false ∧ Below w13.heap.size w13 wx)
        case first =>
          by_cases hv0 : v = 0
          · subst hv0
            rw [Hc0.out] at cc
            simp only [upV, if_true, Nat.add_zero] at cu cc
            go_quiet (fail)
            go_wp2
            go_meet
            exact ⟨rfl, Below.drewN' Hb.out _⟩
          · have hu := Hup.out v (by omega) hlt
            simp only [upV, if_neg hv0] at cu
            have q1 : ((v : Int) == 0) = false := by simp; omega
            have p1 : decide (((up v : Nat) : Int) < 0) = false := decide_eq_false (by omega)
            have p2 : decide (N ≤ up v) = false := decide_eq_false (by omega)
            have p3 : decide (0 < v) = true := decide_eq_true (by omega)
            go_quiet (fail)
            go_wp2
            go_meet
            exact ⟨rfl, Below.drewN' Hb.out _⟩
        case rest =>
        obtain ⟨rfl, hb2⟩ := hcut
        obtain ⟨w14, rfl⟩ : ∃ w14 : World, w14 = wc := ⟨_, rfl⟩
        have Hb2 := Lib.hid hb2
        clear cu cc cn hb2
        go_wp2
        go_loopg [13, 14] v (fun g s13 s14 wx => ∃ k st : Nat, st + k ≤ v ∧ k = g ∧ s13 = .int .i64 (k : Int) ∧ s14 = .int .i64 (st : Int) ∧ Below w13.heap.size w13 wx)
        case atStart => exact ⟨v, 0, by omega, rfl, rfl, rfl, Hb2.out⟩
        case round =>
          obtain ⟨k, st, hks, rfl, rfl, rfl, hb3⟩ := hrel
          have Hb3 := Lib.hid hb3
          have cn := (E13.out.below hb3).cn
          by_cases hk0 : 0 < k
          · have hu := Hup.out k hk0 (by omega)
            have cu := below_cell hb3 (HCu.out k (by omega))
            rw [upV, if_neg (by omega)] at cu
            clear hb3
            go_wp2
            go_roundg (up k)
            case measure => go_light; omega
            case rel => exact ⟨up k, st + 1, by omega, rfl, rfl, by go_num, Hb3.out⟩
          · obtain rfl : k = 0 := by omega
            clear hb3
            go_wp2
            go_roundg (N - (v + 1))
            case measure => go_light; omega
            case rel => exact ⟨v + 1, by omega, rfl, by go_num, Hb3.out⟩
      · obtain rfl : N = v := by omega
        have B14 := Lib.hid (E13.out.below hb).hb
        obtain ⟨w14, rfl⟩ : ∃ w14 : World, w14 = wr := ⟨_, rfl⟩
        clear hb
        by_cases h9 : 9 < N
        · go_wp2
          go_ret
          exact ⟨rfl, B14.out⟩
        · clear B14
          have hcapf : ∀ a b, a ≠ b → f a b ≤ 1099511627776 := fun a b hab => by
            obtain ⟨⟨T, -, -, hT⟩, -⟩ := Hf.out.least a b hab
            have := capE_few (l := l) (ws := ws) (fun j hj => Hz.out j (by rw [Hlen.out]; exact hj)) T l.length (Nat.le_refl _)
            show f a b ≤ _
            rw [← hT]
            show capE l ws T l.length ≤ _
            omega
          have Hcapf := Lib.hid hcapf
          clear hcapf
          go_wp2
          clear cn
          go_loopg [15] N (fun g s15 wr => ∃ x : Nat, x ≤ N ∧ g = N - x ∧ s15 = .int .i64 (x : Int) ∧ Below w13.heap.size w13 wr)
          case atStart => exact ⟨0, Nat.zero_le _, rfl, rfl, Hb.out⟩
          case round =>
            obtain ⟨x, hx, rfl, rfl, hb4⟩ := hrel
            have Hb4 := Lib.hid hb4
            have cn := (E13.out.below hb4).cn
            by_cases hxN : x < N
            · clear hb4
              go_wp2
              clear cn
              go_loopg [16] x (fun g s16 wx => ∃ y : Nat, y ≤ x ∧ g = x - y ∧ s16 = .int .i64 (y : Int) ∧ Below w13.heap.size w13 wx)
              case atStart => exact ⟨0, Nat.zero_le _, rfl, rfl, Hb4.out⟩
              case round =>
                obtain ⟨y, hy, rfl, rfl, hb5⟩ := hrel
                have Hb5 := Lib.hid hb5
                have cn := (E13.out.below hb5).cn
                have cs := (E13.out.below hb5).cs
                by_cases hyx : y < x
                · have hne : x ≠ y := by omega
                  have E14 := Lib.hid (E13.out.below hb5)
                  clear hb5
                  go_wp2_with fail
                  refine (leastCut_any l ws N x y (f x y) _ _ _ E14.out.he E14.out.hu Hlen.out (by omega) hxN (by omega) hne hl1 Hok.out (fun j hj => Hz.out j (by rw [Hlen.out]; exact hj)) (Hf.out.least x y hne)).mono ?_
                  rintro e w15 ⟨rfl, hb6⟩
                  have Hb6 := Lib.hid (Hb5.out.trans (hb6.mono Hb5.out.size))
                  clear hb6 E14 cn cs
                  go_wp2_with fail
                  refine (between_any N x y (f x y) up cut _ _ _ _ _ (Hiu.out.below Hb6.out) (Hic.out.below Hb6.out) (by simp [upL]) (by simp [cutV]) hN hxN (by omega) (fun v hv => upL_get up hv) (fun v hv => cutV_get cut hv) (fun v h0 hv => (HG.out (by omega)).up_lt v h0 hv) (Hcapf.out x y hne) (fun m => (HG.out (by omega)).way Hf.out m _ x y rfl hxN (by omega) hne)).mono ?_
                  rintro e w16 ⟨rfl, hb7⟩
                  have Hb7 := Lib.hid (Hb6.out.trans (hb7.mono Hb6.out.size))
                  clear hb7
                  go_wp2
                  go_roundg (x - (y + 1))
                  case measure => go_light; omega
                  case rel => exact ⟨y + 1, by omega, rfl, by go_num, Hb7.out⟩
                · obtain rfl : x = y := by omega
                  clear hb5
                  go_wp2
                  go_roundg (N - (x + 1))
                  case measure => go_light; omega
                  case rel => exact ⟨x + 1, by omega, rfl, by go_num, Hb5.out⟩
            · obtain rfl : N = x := by omega
              have B15 := Lib.hid (E13.out.below hb4).hb
              clear hb4
              go_wp2
              go_ret
              exact ⟨rfl, B15.out⟩
  · have q : (c != 0) = true := by simp [hz]
    obtain ⟨rfl, rfl⟩ : uv = .slice none 0 0 ∧ cv = .slice none 0 0 := by
      rcases R13.out with ⟨-, h⟩ | ⟨h, -⟩
      · exact h
      · exact absurd h hz
    have B13 := Lib.hid E13.out.hb
    clear R13 hz
    go_wp2
    go_ret
    exact ⟨rfl, B13.out⟩

end Go.Proofs.Ytfflnpcbpcldeaa
