/- arborlaw.FlowMost answers true: the walk. -/
import Derived.Test.YtfflnpcbpcldeaaFLawM
namespace Go.Proofs.Ytfflnpcbpcldeaa
open Go.RowKit

theorem upw {a b c : World} (h : Below a.heap.size a b) (k : Below b.heap.size b c) : Below a.heap.size a c := h.trans (k.mono h.size)

theorem net_row {w1 w2 : World} (hb : Below (w1.alloc (Obj.cells #[Value.int .i64 0, Value.slice none 0 0] 48)).drew.heap.size (w1.alloc (Obj.cells #[Value.int .i64 0, Value.slice none 0 0] 48)).drew w2) : w2.rowIs w1.heap.size 48 2 (fun i => if i = 0 then .int .i64 0 else .slice none 0 0) :=
  (World.rowIs_alloc w1 #[Value.int .i64 0, .slice none 0 0] 48 (fun i => if i = 0 then .int .i64 0 else .slice none 0 0) (fun i hi => by
    match i, hi with
    | 0, _ => rfl
    | 1, _ => rfl)).of_block (hb.block _ (by rw [World.size_drew, World.size_alloc]; omega))

/-- One's own copy lies in a box. -/
def LCut (w : World) (n : Int) (v : Value) (l : List (Int × Int × Int)) (s7 : Value) (wx : World) : Prop := ∃ B v2, s7 = .pointer (some ⟨B, 0, none⟩) ∧ LS w wx n v v2 l B

section
variable {w w1 w2 : World} {n : Int} {v v2 : Value} {l : List (Int × Int × Int)}
theorem LCut.alloc {base : Nat} (hb1 : Below w.heap.size w w1) (cn : w1.cell? ⟨w.heap.size, 0, none⟩ = some (.int .i64 n)) (cs : w1.cell? ⟨w.heap.size, 1, none⟩ = some v) (he : IsArcs w1 v l) (hb2 : Below w1.heap.size w1 w2) (ho : OwnA w2 base v2 l) :
    LCut w n v l (.pointer (some ⟨w2.heap.size, 0, none⟩)) (w2.alloc (Obj.cells #[.int .i64 n, v2] 48)) := by
  have hb := upw hb2 (below1 w2 (Obj.cells #[.int .i64 n, v2] 48))
  have c0 := two_cells w2 (.int .i64 n) v2 48
  exact ⟨_, v2, rfl, hb1.trans (hb.mono hb1.size), below_cell hb cn, below_cell hb cs, c0.1, c0.2, he.below hb, ho.arcs.below (below1 _ _)⟩
theorem LCut.put {f : Nat → Value} (hb1 : Below w.heap.size w w1) (cn : w1.cell? ⟨w.heap.size, 0, none⟩ = some (.int .i64 n)) (cs : w1.cell? ⟨w.heap.size, 1, none⟩ = some v) (he : IsArcs w1 v l) (hb2 : Below w1.heap.size w1 w2) (ho : OwnA w2 (w1.heap.size + 1) v2 l) (hr : w2.rowIs w1.heap.size 48 2 f) :
    LCut w n v l (.pointer (some ⟨w1.heap.size, 0, none⟩)) ((w2.setCell ⟨w1.heap.size, 0, none⟩ (.int .i64 n)).setCell ⟨w1.heap.size, 1, none⟩ v2) := by
  have hb : Below w1.heap.size w1 ((w2.setCell ⟨w1.heap.size, 0, none⟩ (.int .i64 n)).setCell ⟨w1.heap.size, 1, none⟩ v2) := (hb2.setCell (Nat.le_refl _) _).setCell (Nat.le_refl _) _
  exact ⟨_, v2, rfl, hb1.trans (hb.mono hb1.size), below_cell hb cn, below_cell hb cs, ((hr.set 0 _).set 1 _).cell (show 0 < 2 by omega), ((hr.set 0 _).set 1 _).cell (show 1 < 2 by omega), he.below hb, ((ho.set (by omega) 0 _).set (by omega) 1 _).arcs⟩
end

/-- What a region reads. -/
def Q4 (B C : Nat) (n : Int) (v2 : Value) (c a : Int) (w : World) : Prop := w.cell? ⟨B, 0, none⟩ = some (.int .i64 n) ∧ w.cell? ⟨B, 1, none⟩ = some v2 ∧ w.cell? ⟨C, 0, none⟩ = some (.int .i64 c) ∧ w.cell? ⟨C, 1, none⟩ = some (.int .i64 a)
theorem Q4.below {B C : Nat} {n : Int} {v2 : Value} {c a : Int} {w w' : World} (h : Q4 B C n v2 c a w) (hb : Below w.heap.size w w') : Q4 B C n v2 c a w' := ⟨below_cell hb h.1, below_cell hb h.2.1, below_cell hb h.2.2.1, below_cell hb h.2.2.2⟩

/-- The fault that must come lies in a variable. -/
def MCut (w2 : World) (n : Int) (l : List (Int × Int × Int)) (s t : Int) (C : Nat) (wx : World) : Prop := ∃ c a, MostSpec n l s t c a ∧ FV wx C c a ∧ Below w2.heap.size w2 wx

theorem arcs_is {w wr : World} {b o k : Nat} {l : List (Int × Int × Int)} {x y z : Int} (h : ∀ j, j < l.length → w.cell? ⟨b, o + j * 3, none⟩ = some (.int .i64 (l.getD j (0, 0, 0)).1) ∧ w.cell? ⟨b, o + j * 3 + 1, none⟩ = some (.int .i64 (l.getD j (0, 0, 0)).2.1) ∧ w.cell? ⟨b, o + j * 3 + 2, none⟩ = some (.int .i64 (l.getD j (0, 0, 0)).2.2)) (hb : Below w.heap.size w wr) (hk : k < l.length) (he : l.getD k (0, 0, 0) = (x, y, z)) :
    wr.cell? ⟨b, o + k * 3, none⟩ = some (.int .i64 x) ∧ wr.cell? ⟨b, o + k * 3 + 1, none⟩ = some (.int .i64 y) ∧ wr.cell? ⟨b, o + k * 3 + 2, none⟩ = some (.int .i64 z) := by
  obtain ⟨h0, h1, h2⟩ := h k hk
  rw [he] at h0 h1 h2
  exact ⟨below_cell hb h0, below_cell hb h1, below_cell hb h2⟩

theorem out_step {l : List (Int × Int × Int)} {fl : Nat → Nat} {k X Y F : Nat} {W : Int} (eX : fromL l k = X) (eY : toL l k = Y) (hF : fl k = F) (hW : (if Y = X then outL l fl X k + (F : Int) else outL l fl Y k) = W) (u : Nat) :
    (if u = Y then W - (F : Int) else if u = X then outL l fl X k + (F : Int) else outL l fl u k) = outL l fl u (k + 1) := by
  rw [outL_succ, eX, eY, hF, ← hW]
  by_cases e1 : u = Y
  · subst e1
    by_cases e2 : u = X
    · subst e2; simp only [if_true]; omega
    · simp only [if_true, if_neg e2, if_neg (Ne.symm e2)]; omega
  · by_cases e2 : u = X
    · subst e2; simp only [if_true, if_neg e1, if_neg (Ne.symm e1)]; omega
    · simp only [if_neg e1, if_neg e2, if_neg (Ne.symm e1), if_neg (Ne.symm e2)]; omega
theorem far_cell {w : World} {b k : Nat} {u : Value} (B j : Nat) (x : Value) (hne : b ≠ B) (h : w.cell? ⟨b, k, none⟩ = some u) : (w.setCell ⟨B, j, none⟩ x).cell? ⟨b, k, none⟩ = some u := by
  rw [World.cell?_setCell_far _ _ _ _ (show B ≠ b from Ne.symm hne)]; exact h
theorem three_cells (w : World) (x y z : Value) (t : TypeId) : (w.alloc (Obj.cells #[x, y, z] t)).cell? ⟨w.heap.size, 0, none⟩ = some x ∧ (w.alloc (Obj.cells #[x, y, z] t)).cell? ⟨w.heap.size, 1, none⟩ = some y ∧ (w.alloc (Obj.cells #[x, y, z] t)).cell? ⟨w.heap.size, 2, none⟩ = some z :=
  ⟨by rw [World.cell?_alloc_at _ _ _ _ rfl]; rfl, by rw [World.cell?_alloc_at _ _ _ _ rfl]; rfl, by rw [World.cell?_alloc_at _ _ _ _ rfl]; rfl⟩

set_option maxHeartbeats 6400000 in
set_option maxRecDepth 100000 in
theorem mostLaw_any (n s t : Int) (l : List (Int × Int × Int)) (hl : l.length * 24 ≤ 140737488351232) (v : Value) (w : World) (h : IsArcs w v l) :
    Calls Try.prog 5 #[.agg #[.int .i64 n, v], .int .i64 s, .int .i64 t] w fun e w' => e = .returned (.bool true) ∧ Below w.heap.size w w' := by
  obtain ⟨ad, cap, rfl⟩ : ∃ ad cap, v = .slice ad l.length cap := by
    obtain ⟨a, c, _, _, rfl, _⟩ := h
    exact ⟨a, c, rfl⟩
  have hb1 := below1 w (Obj.cells #[.int .i64 n, .slice ad l.length cap] 48)
  have c0 := two_cells w (.int .i64 n) (.slice ad l.length cap) 48
  have cn := c0.1
  have cs := c0.2
  have he := h.below hb1
  clear c0 h
  go_enter Try.func5, Try.ntmps5
  go_upto_region 1 with fail
  have hlt : w.heap.size < (w.alloc (Obj.cells #[.int .i64 n, .slice ad l.length cap] 48)).heap.size := by rw [World.size_alloc]; omega
  generalize w.alloc (Obj.cells #[.int .i64 n, .slice ad l.length cap] 48) = w1 at *
  have He := Lib.hid he; have Hb1 := Lib.hid hb1
  clear he hb1
  go_cut [7] from 21 to 26 (fun s7 wx => LCut w n (.slice ad l.length cap) l s7 wx)
  case first =>
    go_region_law (first | (refine step_append_arcs rfl _ _ 46 rfl (w1.heap.size + 1) Try.underlying46 infoA _ [] rfl (OwnA.nil _ _) _ l rfl (He.out.below ((below1 w1 (Obj.cells #[Value.int .i64 0, Value.slice none 0 0] 48)).drew)) _ (List.nil_append l) (by simp; omega) (by rw [World.size_drew, World.size_alloc]; omega) ?_; intro a2 c2 w2 ho2 hg2; have hb2 := upw ((below1 w1 (Obj.cells #[Value.int .i64 0, Value.slice none 0 0] 48)).drew) (below_grown0 hg2); have r2 := net_row (below_grown0 hg2); have z0 := r2.cell (show 0 < 2 by omega); have z1 := r2.cell (show 1 < 2 by omega); have f0 := r2.frozen 0; have f1 := r2.frozen 1; have lr := r2.lt; simp only [if_true, show ¬ (1 : Nat) = 0 by omega, if_false] at z0 z1; have cn2 := below_cell hb2 cn; have cs2 := below_cell hb2 cs; have hs2 := hb2.size; have hlt2 := Nat.lt_of_lt_of_le hlt hs2; have hne2 := Nat.ne_of_lt hlt2; have hne3 := Nat.ne_of_gt hlt2; have hown2 := World.ownsRow.lt ho2) | (refine step_append_arcs rfl _ _ 46 rfl w1.heap.size Try.underlying46 infoA _ [] rfl (OwnA.nil _ _) _ l rfl (He.out.below ((Below.refl w1.heap.size w1).drew)) _ (List.nil_append l) (by simp; omega) (by rw [World.size_drew]; omega) ?_; intro a2 c2 w2 ho2 hg2; have hb2 := upw ((Below.refl w1.heap.size w1).drew) (below_grown0 hg2); have cn2 := below_cell hb2 cn; have cs2 := below_cell hb2 cs; have hs2 := hb2.size; have hlt2 := Nat.lt_of_lt_of_le hlt hs2; have hne2 := Nat.ne_of_lt hlt2; have hne3 := Nat.ne_of_gt hlt2; have hown2 := World.ownsRow.lt ho2))
    all_goals
      go_wp2
      go_meet
      first
        | exact LCut.alloc Hb1.out cn cs He.out hb2 ho2
        | exact LCut.put Hb1.out cn cs He.out hb2 ho2 r2
  case rest =>
  obtain ⟨B, v2, rfl, hls⟩ := hcut
  obtain ⟨w2, rfl⟩ : ∃ w2 : World, w2 = wc := ⟨_, rfl⟩
  have E2 := Lib.hid hls
  clear cn cs hlt hls
  have cn := E2.out.cn
  have cs := E2.out.cs
  have on := E2.out.on
  have os := E2.out.os
  have He2 := Lib.hid E2.out.arcs; have Ho2 := Lib.hid E2.out.own
  go_wp2_with fail
  refine (rnet_any l n _ _ He2.out).mono ?_
  rintro e w3 ⟨c, a, hsp, rfl, hb3⟩
  have Hsp := Lib.hid hsp
  have hsz3 := hb3.size
  have b4 := upw hb3 (below1 w3 (Obj.cells #[.int .i64 c, .int .i64 a] 27))
  have B4 := Lib.hid b4
  clear b4
  have E4 := Lib.hid (E2.out.below (upw hb3 (below1 w3 (Obj.cells #[.int .i64 c, .int .i64 a] 27))))
  have F4 := Lib.hid (FV.new w3 c a)
  clear cn cs on os hsp hb3
  have cn := E4.out.cn
  have cs := E4.out.cs
  have on := E4.out.on
  have os := E4.out.os
  obtain ⟨f0, f1, g0, g1, lf⟩ := F4.out.facts
  have Ho4 := Lib.hid E4.out.own
  go_upto_region 3 with fail
  generalize w3.alloc (Obj.cells #[.int .i64 c, .int .i64 a] 27) = w4 at *
  generalize w3.heap.size = C at *
  have hd : Below w4.heap.size w4 w4.drew := (Below.refl _ _).drew
  go_cut [36] from 29 to 36 (fun s36 wx => s36 = .bool false ∧ Below w4.heap.size w4 wx)
  case first =>
    have q0 : Q4 B C n v2 c a w4 := ⟨on, os, f0, f1⟩
    go_region_held3 (fun w' => w'.cell? ⟨B, 0, none⟩ = some (.int .i64 n) ∧ w'.cell? ⟨B, 1, none⟩ = some v2 ∧ w'.cell? ⟨C, 0, none⟩ = some (.int .i64 c) ∧ w'.cell? ⟨C, 1, none⟩ = some (.int .i64 a))
      (first | exact q0 | exact q1 | exact q2)
      (first
        | (go_at_call 28; refine (fcheck_any l n v2 _ (Ho4.out.below hd)).mono ?_; rintro e w5 ⟨c', a', hsp', rfl, hb5⟩; obtain ⟨e1, e2⟩ := Hsp.out.uniq hsp'; subst e1; subst e2; have hb45 := upw hd hb5; have q1 := q0.below hb45; obtain ⟨k0, k1, k2, k3⟩ := id q1)
        | (go_at_call 29; refine (flowBegun_any _).mono ?_; rintro e w6 ⟨rfl, hb6⟩; have hb46 := upw hb45 hb6; have q2 := q0.below hb46; obtain ⟨m0, m1, m2, m3⟩ := id q2))
    all_goals
      go_wp2
      go_meet
      exact ⟨rfl, hb46⟩
  case rest =>
  obtain ⟨rfl, hb5⟩ := hcut
  obtain ⟨w5, rfl⟩ : ∃ w5 : World, w5 = wc := ⟨_, rfl⟩
  have E5 := Lib.hid (E4.out.below hb5)
  have F5 := Lib.hid (F4.out.below hb5)
  have B5 := Lib.hid (upw B4.out hb5)
  clear cn cs on os f0 f1 g0 g1 lf hd hb5 E4 F4 B4
  have cn := E5.out.cn
  obtain ⟨f0, f1, g0, g1, lf⟩ := F5.out.facts
  go_upto_if 39 with fail
  go_cut [] from 39 to 44 (fun wx => MCut w2 n l s t C wx)
  case first =>
    by_cases hz : c = 0
    · subst hz
      obtain ⟨rfl, -⟩ := Hsp.out.zero
      go_wp2_with fail
      refine (rends_any n s t _).mono ?_
      rintro e w6 ⟨c', a', hsp', rfl, hb6⟩
      have hF := F5.out.below hb6
      have b6 : Below w2.heap.size w2 ((w6.setCell ⟨C, 0, none⟩ (.int .i64 c')).setCell ⟨C, 1, none⟩ (.int .i64 a')) := ((upw B5.out hb6).setCell hsz3 _).setCell hsz3 _
      have B6 := Lib.hid b6; have F6 := Lib.hid (hF.put c' a'); have Hsp' := Lib.hid hsp'
      clear f0 f1 g0 g1 lf
      obtain ⟨f0, f1, g0, g1, lf⟩ := hF.facts
      clear hb6 hF b6 hsp'
      go_wp2
      go_meet
      exact ⟨_, _, Or.inr ⟨Hsp.out, Hsp'.out⟩, F6.out, B6.out⟩
    · have q : (c == 0) = false := by simp [hz]
      have Hz := Lib.hid hz
      clear hz
      go_wp2
      go_meet
      exact ⟨_, _, Or.inl ⟨Hsp.out, Hz.out⟩, F5.out, B5.out⟩
  case rest =>
  obtain ⟨c', a', hsp', hf6, hb6⟩ := hcut
  clear f0 f1 Hsp F5 E5 B5
  obtain ⟨w6, rfl⟩ : ∃ w6 : World, w6 = wc := ⟨_, rfl⟩
  obtain ⟨c, rfl⟩ : ∃ c : Int, c = c' := ⟨_, rfl⟩
  obtain ⟨a, rfl⟩ : ∃ a : Int, a = a' := ⟨_, rfl⟩
  have Hsp := Lib.hid hsp'
  have E6 := Lib.hid (E2.out.below hb6)
  have F6 := Lib.hid hf6
  clear hf6 hb6 hsp' cn
  have on := E6.out.on
  have os := E6.out.os
  go_wp2_with fail
  refine (fflow_any l n s t v2 _ E6.out.own).mono ?_
  rintro e w7 ⟨c', a', v, fv, sv, rfl, hsp', hb7, hres⟩
  obtain ⟨e1, e2⟩ := Hsp.out.uniq hsp'
  subst e1
  subst e2
  have b8 := upw hb7 (below1 w7 (Obj.cells #[.int .i64 c, .int .i64 a] 27))
  have E8 := Lib.hid (E6.out.below b8)
  have F8 := Lib.hid (F6.out.below b8)
  have G8 := Lib.hid (FV.new w7 c a)
  have R8 := Lib.hid (MostRes.below (show MostRes w7 w6.heap.size n l s t c a v fv sv from hres) (below1 w7 (Obj.cells #[.int .i64 c, .int .i64 a] 27)))
  clear on os g0 g1 lf hb7 hsp' hres b8 E6 F6 Ho4 He2 Ho2 Hb1 He
  obtain ⟨ax, cx, bx, ox, ev, hcx, hmx, hax, -, hcellx⟩ := E8.out.arcs
  obtain ⟨ay, cy, by', oy, ev2, hcy, hmy, hay, -, hcelly⟩ := E8.out.own
  obtain ⟨rfl, -, rfl⟩ : ad = ax ∧ l.length = l.length ∧ cap = cx := by simpa using ev
  subst ev2
  have HX := Lib.hid hcellx; have HY := Lib.hid hcelly
  clear hcellx hcelly ev
  go_upto_region 8 with fail
  generalize w7.alloc (Obj.cells #[.int .i64 c, .int .i64 a] 27) = w8 at *
  generalize w7.heap.size = D at *
  go_wp2
  go_loopg [13] l.length (fun g s13 wr => ∃ k : Nat, k ≤ l.length ∧ g = l.length - k ∧ s13 = .int .i64 (k : Int) ∧ Below w8.heap.size w8 wr)
  case atStart => exact ⟨0, Nat.zero_le _, rfl, rfl, Below.refl _ _⟩
  case round =>
    obtain ⟨k, hk, rfl, rfl, hb⟩ := hrel
    have Hb := Lib.hid hb
    have E9 := Lib.hid (E8.out.below hb)
    have cs := E9.out.cs
    have os := E9.out.os
    by_cases hlt : k < l.length
    · obtain rfl := hax (by omega)
      obtain rfl := hay (by omega)
      obtain ⟨x, y, z, He, cx0, cx1, cx2⟩ := arcs_at HX.out hb hlt
      obtain ⟨cy0, cy1, cy2⟩ := arcs_is HY.out hb hlt He.out
      clear hb
      go_wp2
      go_quiet (fail)
      go_wp2
      go_roundg (l.length - (k + 1))
      case measure => go_light; omega
      case rel => exact ⟨k + 1, by omega, rfl, by go_num, Below.drewN' Hb.out _⟩
    · obtain rfl : l.length = k := by omega
      clear hb
      have G9 := Lib.hid (G8.out.below Hb.out); have F9 := Lib.hid (F8.out.below Hb.out); have R9 := Lib.hid (R8.out.below Hb.out)
      obtain ⟨f0, f1, -, -, -⟩ := F9.out.facts
      obtain ⟨g0, g1, -, -, -⟩ := G9.out.facts
      have cn := E9.out.cn
      have B9 := Lib.hid E9.out.hb
      have b89 := Hb.out
      clear E8 F8 G8 R8 Hb os
      by_cases hz : c = 0
      · subst hz
        obtain ⟨rfl, N, s, t, sum, fl, lev, rfl, rfl, rfl, rfl, hin⟩ := LawIn.of R9.out Hsp.out
        obtain ⟨w9, rfl⟩ : ∃ w9 : World, w9 = wr := ⟨_, rfl⟩
        have Hin := Lib.hid hin
        have hN := hin.hN
        have hll := hin.hl
        have hs := hin.hs
        have ht := hin.ht
        clear R9 Hsp hin
        obtain ⟨af, cf, aw, cw, rfl, rfl⟩ := Hin.out.forms
        have hsl := sideL_length lev N
        have hmk1 := run_make_row' (P := Try.prog) 51 3 (.int .i64 0) 8 Try.underlying51 info3 rfl .i64 .i64 N (by omega) (by omega)
        have hmk2 := run_make_row' (P := Try.prog) 38 4 (.bool false) 1 Try.underlying38 info4 rfl .i64 .i64 N (by omega) (by omega)
        go_wp2_with fail
        refine (rising_up (sideL lev N) N _ _ (by omega) Hin.out.side (fun i hi => (sideL_at hi).1) (sideL_up lev N) (by omega)).mono ?_
        rintro e w10 ⟨rfl, hb10⟩
        have E10 := Lib.hid (E9.out.below hb10)
        have L10 := Lib.hid (Hin.out.below hb10)
        have HbX := Lib.hid (upw b89 hb10)
        have T10 := Lib.hid (TS.start w10 N)
        clear f0 f1 g0 g1 cn cs hb10 b89 Hin E9 F9 G9 B9
        have cn := E10.out.cn
        have lw := World.block_lt_of_cell? _ _ cn
        go_upto_region 21 with fail
        clear hmk1 hmk2 cn lw
        generalize (w10.alloc (.cells (madeCells #[Value.int .i64 0] N) 3)).alloc (.cells (madeCells #[Value.bool false] N) 4) = w11 at *
        have hIO : w10.heap.size + 1 = w10.heap.size + 1 := rfl
        generalize w10.heap.size + 1 = bI at *
        clear hIO
        go_wp2
        go_loopg [16] (sideL lev N).length (fun g s16 wr => ∃ k : Nat, k ≤ (sideL lev N).length ∧ g = (sideL lev N).length - k ∧ s16 = .int .i64 (k : Int) ∧ TS w10 wr w10.heap.size bI N (fun _ => 0) (fun u => decide (u ∈ (sideL lev N).take k)))
        case atStart => exact ⟨0, Nat.zero_le _, rfl, rfl, T10.out.congr (fun _ _ => rfl) (fun k _ => by simp)⟩
        case round =>
          obtain ⟨k, hk, rfl, rfl, hts⟩ := hrel
          have Hts := Lib.hid hts
          by_cases hlt : k < (sideL lev N).length
          · obtain ⟨bs, os, rfl, h1⟩ := ints_at' L10.out.side hts.hb hlt
            have hx := (sideL_at hlt).1
            have hI := hts.rn.cell hx
            have hIf := hts.rn.frozen ((sideL lev N).getD k 0)
            have hIl := hts.rn.lt
            have hmem : ∀ u, u ∈ (sideL lev N).take (k + 1) ↔ u ∈ (sideL lev N).take k ∨ u = (sideL lev N).getD k 0 := fun u => by
              rw [List.take_succ_eq_append_getElem hlt, List.mem_append, List.mem_singleton]
              simp [List.getD, hlt]
            generalize hxx : (sideL lev N).getD k 0 = x at *
            have Hmem := Lib.hid hmem
            clear hts hxx hmem
            simp only [rb] at hI
            go_wp2
            go_roundg ((sideL lev N).length - (k + 1))
            case measure => go_light; omega
            case rel => exact ⟨k + 1, by omega, rfl, by go_num, (Hts.out.setI x true).congr (fun _ _ => rfl) (fun u _ => by
              by_cases e : u = x
              · rw [if_pos e]; exact (decide_eq_true ((Hmem.out u).2 (Or.inr e))).symm
              · rw [if_neg e]
                have := Hmem.out u
                simp only [e, or_false] at this
                simp only [this])⟩
          · obtain rfl : (sideL lev N).length = k := by omega
            clear hts
            have hT := Hts.out.congr (g := fun u => outL l fl u 0) (J := fun u => decide (0 ≤ lev u)) (fun _ _ => rfl) (fun u hu => by
              rw [List.take_length]
              simp only [sideL_mem, hu, true_and])
            have HT := Lib.hid hT
            clear hT Hts T10 hk hsl hlt
            obtain ⟨w12, rfl⟩ : ∃ w12 : World, w12 = wr := ⟨_, rfl⟩
            generalize w10.heap.size = bO at *
            go_wp2
            go_loopg [17, 18] l.length (fun g s17 s18 wr => ∃ k : Nat, k ≤ l.length ∧ g = l.length - k ∧ s18 = .int .i64 (k : Int) ∧ s17 = .int .i64 (cutL l lev k) ∧ TS w10 wr bO bI N (fun u => outL l fl u k) (fun u => decide (0 ≤ lev u)))
            case atStart => exact ⟨0, Nat.zero_le _, rfl, rfl, rfl, HT.out⟩
            case round =>
              obtain ⟨k, hk, rfl, rfl, rfl, hts⟩ := hrel
              by_cases hlt : k < l.length
              · have Hts := Lib.hid hts
                obtain rfl := hax (by omega)
                have hbx := upw HbX.out hts.hb
                obtain ⟨x, y, z, He, cx0, cx1, cx2⟩ := arcs_at HX.out hbx hlt
                obtain ⟨o1, o2, o3, o4, o5, o6⟩ := (show ArcOk N (x, y, z) from He.out ▸ L10.out.ok k hlt)
                simp only at o1 o2 o3 o4 o5 o6
                obtain ⟨X, rfl⟩ : ∃ q : Nat, x = q := ⟨x.toNat, by omega⟩
                obtain ⟨Y, rfl⟩ : ∃ q : Nat, y = q := ⟨y.toNat, by omega⟩
                obtain ⟨Z, rfl⟩ : ∃ q : Nat, z = q := ⟨z.toNat, by omega⟩
                have hX : X < N := by omega
                have hY : Y < N := by omega
                have eX : fromL l k = X := by show (l.getD k (0, 0, 0)).1.toNat = X; rw [He.out]; rfl
                have eY : toL l k = Y := by show (l.getD k (0, 0, 0)).2.1.toNat = Y; rw [He.out]; rfl
                have eZ : capL l k = Z := by show (l.getD k (0, 0, 0)).2.2.toNat = Z; rw [He.out]; rfl
                have EXY := Lib.hid (And.intro eX (And.intro eY eZ))
                obtain ⟨bf, of, rfl, cf1⟩ := ints_at' L10.out.fls hts.hb (k := k) (by rw [List.length_map, List.length_range]; exact hlt)
                rw [range_map_getD fl hlt] at cf1
                have lb0 : bf < bO := by
                  obtain ⟨bf', of', e', c0⟩ := ints_at' L10.out.fls (Below.refl _ _) (k := k) (by rw [List.length_map, List.length_range]; exact hlt)
                  have e1 : bf = bf' := by simp only [Option.some.injEq, Addr.mk.injEq] at e'; exact e'.1
                  have := World.block_lt_of_cell? _ _ c0
                  have := hts.hO
                  simp only at *
                  omega
                have lbf := World.block_lt_of_cell? _ _ cf1
                have lbx := World.block_lt_of_cell? _ _ cx0
                simp only at lbf lbx
                have hle := L10.out.law.le k hlt
                have hfew := L10.out.few hlt
                rw [eZ] at hle hfew
                have ho1 := L10.out.out_few X hk
                have ho2 := L10.out.out_few Y hk
                have hcf := L10.out.cut_few hk
                have p1 : decide (((fl k : Nat) : Int) < 0) = false := decide_eq_false (by omega)
                have p2 : decide (Z < fl k) = false := decide_eq_false (by omega)
                generalize hfk : fl k = F at *
                have Hfk := Lib.hid hfk
                have cs := (E10.out.below hts.hb).cs
                have hz0 := hts.facts
                clear hts hbx o1 o2 o3 o4 o5 o6 eX eY eZ hfk
                go_upto_region 30 with fail
                have TA := Hts.out.below (below1 wr (Obj.cells #[.int .i64 (X : Int), .int .i64 (Y : Int), .int .i64 (Z : Int)] 55))
                obtain ⟨ce0, ce1, ce2⟩ := three_cells wr (.int .i64 (X : Int)) (.int .i64 (Y : Int)) (.int .i64 (Z : Int)) 55
                have cfA := below_cell (below1 wr (Obj.cells #[.int .i64 (X : Int), .int .i64 (Y : Int), .int .i64 (Z : Int)] 55)) cf1
                have nO : bO ≠ wr.heap.size := by omega
                have nI : bI ≠ wr.heap.size := by omega
                have HTA := Lib.hid TA
                clear TA cf1 cx0 cx1 cx2 cs lbf lbx
                generalize wr.alloc (Obj.cells #[.int .i64 (X : Int), .int .i64 (Y : Int), .int .i64 (Z : Int)] 55) = wA at *
                generalize wr.heap.size = E at *
                go_quiet (fail)
                have hAB := Below.drewN' (Below.refl wA.heap.size wA) nq
                have ce0 := below_cell hAB ce0
                have ce1 := below_cell hAB ce1
                have ce2 := below_cell hAB ce2
                have cfA := below_cell hAB cfA
                have HTB := Lib.hid (HTA.out.below hAB)
                clear hAB HTA
                generalize wA.drewN nq = wB at *
                go_wp2_with fail
                refine region_tail 11 (by kernel_rfl) (by kernel_rfl) ?_
                have hd : Below wB.heap.size wB wB.drew := (Below.refl _ _).drew
                have ce0 := below_cell hd ce0
                have ce1 := below_cell hd ce1
                have ce2 := below_cell hd ce2
                have cfA := below_cell hd cfA
                have T5 := HTB.out.below hd
                clear hd HTB
                generalize wB.drew = w5 at *
                have t1 := T5.ro.cell hX
                have g1 := T5.ro.frozen X
                have l1 := T5.ro.lt
                simp only [ri] at t1
                have hw1 : IntKind.i64.wrap (outL l fl X k + (F : Int)) = outL l fl X k + (F : Int) := IntWalk.i64_in _ (by omega)
                have T6 := T5.setO X (outL l fl X k + (F : Int))
                have HT6 := Lib.hid T6
                clear T5 T6
                simp only [List.take_succ_cons, List.take_zero, List.drop_succ_cons, List.drop_zero]
                repeat still_step
                refine wpStill_nil ?_
                go_upto_region 33 with fail
                have ce0 := far_cell bO X (.int .i64 (outL l fl X k + (F : Int))) (Ne.symm nO) ce0
                have ce1 := far_cell bO X (.int .i64 (outL l fl X k + (F : Int))) (Ne.symm nO) ce1
                have ce2 := far_cell bO X (.int .i64 (outL l fl X k + (F : Int))) (Ne.symm nO) ce2
                have cfA := far_cell bO X (.int .i64 (outL l fl X k + (F : Int))) (show bf ≠ bO by omega) cfA
                clear t1 g1 l1 hw1
                generalize w5.setCell ⟨bO, X, none⟩ (.int .i64 (outL l fl X k + (F : Int))) = w6 at *
                refine region_tail 11 (by kernel_rfl) (by kernel_rfl) ?_
                have hd : Below w6.heap.size w6 w6.drew := (Below.refl _ _).drew
                have ce0 := below_cell hd ce0
                have ce1 := below_cell hd ce1
                have ce2 := below_cell hd ce2
                have cfA := below_cell hd cfA
                have T7 := HT6.out.below hd
                clear hd HT6
                generalize w6.drew = w7' at *
                have t1 := T7.ro.cell hY
                have g1 := T7.ro.frozen Y
                have l1 := T7.ro.lt
                simp only [ri] at t1
                have hW : -2000000000 ≤ (if Y = X then outL l fl X k + (F : Int) else outL l fl Y k) ∧ (if Y = X then outL l fl X k + (F : Int) else outL l fl Y k) ≤ 2000000000 := by split <;> omega
                have T8 := T7.setO Y ((if Y = X then outL l fl X k + (F : Int) else outL l fl Y k) - (F : Int))
                generalize hWW : (if Y = X then outL l fl X k + (F : Int) else outL l fl Y k) = W at t1 hW T8
                have HWW := Lib.hid hWW
                clear hWW
                have hw1 : IntKind.i64.wrap (W - (F : Int)) = W - (F : Int) := IntWalk.i64_in _ (by omega)
                have HT8 := Lib.hid T8
                clear T7 T8
                simp only [List.take_succ_cons, List.take_zero, List.drop_succ_cons, List.drop_zero]
                repeat still_step
                refine wpStill_nil ?_
                go_upto_region 34 with fail
                have ce0 := far_cell bO Y (.int .i64 (W - (F : Int))) (Ne.symm nO) ce0
                have ce1 := far_cell bO Y (.int .i64 (W - (F : Int))) (Ne.symm nO) ce1
                have ce2 := far_cell bO Y (.int .i64 (W - (F : Int))) (Ne.symm nO) ce2
                clear t1 g1 l1 hw1 cfA
                generalize w7'.setCell ⟨bO, Y, none⟩ (.int .i64 (W - (F : Int))) = w8' at *
                have iX := HT8.out.rn.cell hX
                have iY := HT8.out.rn.cell hY
                simp only [rb] at iX iY
                obtain ⟨eX, eY, eZ⟩ := EXY.out
                have HT9 := Lib.hid (HT8.out.congr (g := fun u => outL l fl u (k + 1)) (J := fun u => decide (0 ≤ lev u)) (fun u _ => out_step eX eY Hfk.out HWW.out u) (fun _ _ => rfl))
                have hcs := cutL_succ l lev k
                rw [eX, eY, eZ] at hcs
                have Hcs := Lib.hid hcs
                clear HT8 eX eY eZ hcs
                by_cases hA : 0 ≤ lev X
                · have dA : decide (0 ≤ lev X) = true := decide_eq_true hA
                  by_cases hB : 0 ≤ lev Y
                  · have dB : decide (0 ≤ lev Y) = true := decide_eq_true hB
                    rw [dA] at iX
                    rw [dB] at iY
                    have hq : cutL l lev (k + 1) = cutL l lev k := by rw [Hcs.out, if_neg (by omega)]; omega
                    have Hq := Lib.hid hq
                    clear hA hB dA dB hq
                    go_wp2
                    go_roundg (l.length - (k + 1))
                    case measure => go_light; omega
                    case rel => exact ⟨k + 1, by omega, rfl, by go_num, by rw [Hq.out], HT9.out⟩
                  · have dB : decide (0 ≤ lev Y) = false := decide_eq_false hB
                    rw [dA] at iX
                    rw [dB] at iY
                    have hq : cutL l lev (k + 1) = cutL l lev k + (Z : Int) := by rw [Hcs.out, if_pos (by omega)]
                    have hwc : IntKind.i64.wrap (cutL l lev k + (Z : Int)) = cutL l lev k + (Z : Int) := IntWalk.i64_in _ (by omega)
                    have Hq := Lib.hid hq
                    clear hA hB dA dB hq
                    go_wp2
                    go_roundg (l.length - (k + 1))
                    case measure => go_light; omega
                    case rel => exact ⟨k + 1, by omega, rfl, by go_num, by rw [Hq.out], HT9.out⟩
                · have dA : decide (0 ≤ lev X) = false := decide_eq_false hA
                  rw [dA] at iX
                  have hq : cutL l lev (k + 1) = cutL l lev k := by rw [Hcs.out, if_neg (by omega)]; omega
                  have Hq := Lib.hid hq
                  clear hA dA hq
                  go_wp2
                  go_roundg (l.length - (k + 1))
                  case measure => go_light; omega
                  case rel => exact ⟨k + 1, by omega, rfl, by go_num, by rw [Hq.out], HT9.out⟩
              · obtain rfl : l.length = k := by omega
                have hT := hts.congr (g := fun u => (if s = u then (sum : Int) else 0) - (if t = u then (sum : Int) else 0)) (J := fun u => decide (0 ≤ lev u)) (fun u _ => L10.out.law.out u) (fun _ _ => rfl)
                have HT3 := Lib.hid hT
                have hcut := L10.out.law.cut
                have hsrc := L10.out.law.src
                have hsnk := L10.out.law.snk
                clear hts hT HT
                rw [hcut]
                clear hcut
                obtain ⟨w13, rfl⟩ : ∃ w13 : World, w13 = wr := ⟨_, rfl⟩
                have Hsrc := Lib.hid hsrc; have Hsnk := Lib.hid hsnk
                clear hsrc hsnk
                go_wp2
                go_loopg [20] N (fun g s20 wr => ∃ u : Nat, u ≤ N ∧ g = N - u ∧ s20 = .int .i64 (u : Int) ∧ Below w13.heap.size w13 wr)
                case atStart => exact ⟨0, Nat.zero_le _, rfl, rfl, Below.refl _ _⟩
                case round =>
                  obtain ⟨u, hu, rfl, rfl, hb⟩ := hrel
                  have Hb := Lib.hid hb
                  have T4 := HT3.out.below hb
                  have cn := (E10.out.below T4.hb).cn
                  by_cases hlt : u < N
                  · have t1 := T4.ro.cell hlt
                    simp only [ri] at t1
                    clear hb T4
                    by_cases e1 : u = s
                    · subst e1
                      clear t1
                      go_wp2
                      go_roundg (N - (u + 1))
                      case measure => go_light; omega
                      case rel => exact ⟨u + 1, by omega, rfl, by go_num, Hb.out⟩
                    · have q1 : ((u : Int) != (s : Int)) = true := by simp; omega
                      by_cases e2 : u = t
                      · subst e2
                        clear t1 e1
                        go_wp2
                        go_roundg (N - (u + 1))
                        case measure => go_light; omega
                        case rel => exact ⟨u + 1, by omega, rfl, by go_num, Hb.out⟩
                      · have q2 : ((u : Int) != (t : Int)) = true := by simp; omega
                        rw [if_neg (Ne.symm e1), if_neg (Ne.symm e2), Int.sub_self] at t1
                        clear e1 e2
                        go_wp2
                        go_roundg (N - (u + 1))
                        case measure => go_light; omega
                        case rel => exact ⟨u + 1, by omega, rfl, by go_num, Hb.out⟩
                  · obtain rfl : u = N := by omega
                    have hne : t ≠ s := fun e => by
                      have h1 := Hsrc.out
                      have h2 := Hsnk.out
                      rw [e] at h2
                      omega
                    have t1 : wr.cell? ⟨bO, s, none⟩ = some (.int .i64 (sum : Int)) := by rw [T4.ro.cell hs]; simp [ri, hne]
                    have i1 : wr.cell? ⟨bI, s, none⟩ = some (.bool true) := by rw [T4.rn.cell hs]; simp [rb, Hsrc.out]
                    have i2 : wr.cell? ⟨bI, t, none⟩ = some (.bool false) := by rw [T4.rn.cell ht]; simp [rb, Hsnk.out]
                    have hfin := (E10.out.below T4.hb).hb
                    clear hb T4 hne
                    go_wp2
                    go_ret
                    exact ⟨rfl, hfin⟩
      · have q : (c != 0) = true := by simp [hz]
        obtain ⟨rfl, rfl, rfl⟩ : v = .int .i64 0 ∧ fv = .slice none 0 0 ∧ sv = .slice none 0 0 := by
          rcases R9.out with ⟨-, h⟩ | ⟨h, -⟩
          · exact h
          · exact absurd h hz
        clear R9 hz
        go_wp2
        go_ret
        exact ⟨rfl, B9.out⟩

end Go.Proofs.Ytfflnpcbpcldeaa
