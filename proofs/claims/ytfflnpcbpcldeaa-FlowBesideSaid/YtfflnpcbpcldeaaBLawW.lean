/- arborlaw.FlowBeside answers true: the walk. -/
import Derived.Test.YtfflnpcbpcldeaaBesW
import Derived.Test.YtfflnpcbpcldeaaWalkR
import Derived.Test.YtfflnpcbpcldeaaTLawW
import Derived.Test.YtfflnpcbpcldeaaGridOf
import Derived.Test.YtfflnpcbpcldeaaReach
namespace Go.Proofs.Ytfflnpcbpcldeaa
open Go.RowKit

/-- What stands throughout: the argument's box, one's own copy's box, both graphs' edges. -/
structure LB (w wr : World) (n : Int) (v v2 : Value) (l : List (Int × Int)) (B : Nat) : Prop where
  hb : Below w.heap.size w wr
  cn : wr.cell? ⟨w.heap.size, 0, none⟩ = some (.int .i64 n)
  cs : wr.cell? ⟨w.heap.size, 1, none⟩ = some v
  on : wr.cell? ⟨B, 0, none⟩ = some (.int .i64 n)
  os : wr.cell? ⟨B, 1, none⟩ = some v2
  he : IsEdges wr v l
  ho : IsEdges wr v2 l
theorem LB.below {w wr w' : World} {n : Int} {v v2 : Value} {l : List (Int × Int)} {B : Nat} (h : LB w wr n v v2 l B) (hb : Below wr.heap.size wr w') : LB w w' n v v2 l B :=
  ⟨h.hb.trans (hb.mono h.hb.size), below_cell hb h.cn, below_cell hb h.cs, below_cell hb h.on, below_cell hb h.os, h.he.below hb, h.ho.below hb⟩

/-- What flow.Beside has answered. -/
def BesRes (w : World) (n : Int) (l : List (Int × Int)) (s t c a : Int) (wv cv : Value) : Prop :=
  (c ≠ 0 ∧ wv = .slice none 0 0 ∧ cv = .slice none 0 0) ∨ (c = 0 ∧ a = 0 ∧ ∃ (N s' t' : Nat) (W : List (List Nat)) (C : List Nat), n = N ∧ s = s' ∧ t = t' ∧ BesOk N l s' t' W C ∧ IsRows w wv (W.map ints) ∧ IsInts w cv (ints C))
theorem BesRes.below {w w' : World} {n : Int} {l : List (Int × Int)} {s t c a : Int} {wv cv : Value} (h : BesRes w n l s t c a wv cv) (hb : Below w.heap.size w w') : BesRes w' n l s t c a wv cv := by
  rcases h with h | ⟨h1, h2, N, s', t', W, C, h3, h4, h5, h6, h7, h8⟩
  · exact Or.inl h
  · exact Or.inr ⟨h1, h2, N, s', t', W, C, h3, h4, h5, h6, h7.below hb, h8.below hb⟩

/-- What has been marked: nodes inside the ways before the i-th, and inside the i-th before its k-th. -/
def UsedI (W : List (List Nat)) (i k : Nat) (I : Nat → Bool) : Prop :=
  ∀ v, I v = true → ∃ j p, (j < i ∨ (j = i ∧ p < k)) ∧ j < W.length ∧ 0 < p ∧ p + 1 < (W.getD j []).length ∧ (W.getD j []).getD p 0 = v
theorem UsedI.start (W : List (List Nat)) : UsedI W 0 1 (fun _ => false) := fun _ h => by cases h
theorem UsedI.next {W : List (List Nat)} {i k : Nat} {I : Nat → Bool} (h : UsedI W i k I) : UsedI W (i + 1) 1 I := fun v hv => by
  obtain ⟨j, p, h1, h2⟩ := h v hv
  exact ⟨j, p, Or.inl (by omega), h2⟩
theorem UsedI.more {W : List (List Nat)} {i k : Nat} {I : Nat → Bool} (h : UsedI W i k I) (hi : i < W.length) (h0 : 0 < k) (hk : k + 1 < (W.getD i []).length) : UsedI W i (k + 1) (fun q => if q = (W.getD i []).getD k 0 then true else I q) := fun v hv => by
  by_cases e : v = (W.getD i []).getD k 0
  · exact ⟨i, k, Or.inr ⟨rfl, by omega⟩, hi, h0, hk, e.symm⟩
  · simp only [if_neg e] at hv
    obtain ⟨j, p, h1, h2⟩ := h v hv
    exact ⟨j, p, by omega, h2⟩
theorem UsedI.new {N s t : Nat} {l : List (Int × Int)} {W : List (List Nat)} {C : List Nat} {i k : Nat} {I : Nat → Bool} (h : UsedI W i k I) (hB : BesOk N l s t W C) (hi : i < W.length) (h0 : 0 < k) (hk : k + 1 < (W.getD i []).length) : I ((W.getD i []).getD k 0) = false := by
  cases e : I ((W.getD i []).getD k 0) with
  | false => rfl
  | true =>
    obtain ⟨j, p, h1, h2, h3, h4, h5⟩ := h _ e
    rcases h1 with h1 | ⟨rfl, h1⟩
    · exact absurd h5 (hB.dis j i h1 hi p k h3 h4 h0 hk)
    · exact absurd h5 ((hB.way _ hi).dif p k h1 (by omega))
/-- A way has no more nodes than there are. -/
theorem WayP.few {l : List (Int × Int)} {N s t : Nat} {o : List Nat} (h : WayP l N s t o) : o.length ≤ N := by
  have hnd : o.Nodup := List.pairwise_iff_getElem.2 fun i j hi hj hij => by
    have := h.dif i j hij hj
    simpa [List.getD, hi, hj] using this
  have hsub : o ⊆ List.range N := fun x hx => by
    obtain ⟨i, hi, rfl⟩ := List.getElem_of_mem hx
    have := h.lt i hi
    simp only [List.getD, List.getElem?_eq_getElem hi, Option.getD_some] at this
    exact List.mem_range.2 this
  have := hnd.length_le_of_subset hsub
  simpa using this

theorem ways_at {w wr : World} {m : List (List Nat)} {a : Option Addr} {c n : Nat} (h : IsRows w (.slice a n c) (m.map ints)) (hb : Below w.heap.size w wr) {j : Nat} (hj : j < m.length) :
    ∃ b o ra rc, a = some ⟨b, o, none⟩ ∧ wr.cell? ⟨b, o + j, none⟩ = some (.slice ra (m.getD j []).length rc) ∧ IsInts wr (.slice ra (m.getD j []).length rc) (ints (m.getD j [])) := by
  obtain ⟨a', cap, b, o, e, -, -, hadr, -, hcell⟩ := h.below hb
  simp only [Value.slice.injEq] at e
  obtain ⟨rfl, -, rfl⟩ := e
  have hl : (m.map ints).length = m.length := List.length_map _
  obtain ⟨r, hr, hi⟩ := hcell j (by omega)
  have e2 : (m.map ints).getD j [] = ints (m.getD j []) := by simp [List.getD, hj]
  rw [e2] at hi
  obtain ⟨ra, rc, _, _, rfl, -⟩ := id hi
  rw [ints_length] at hr hi
  exact ⟨b, o, ra, rc, hadr (by omega), hr, hi⟩
theorem BesOk.few {N s t : Nat} {l : List (Int × Int)} {W : List (List Nat)} {C : List Nat} (h : BesOk N l s t W C) : C.length ≤ N := by
  have key : ∀ i, i < C.length → i ≤ C.getD i 0 := fun i => by
    induction i with
    | zero => intro _; omega
    | succ i ih =>
      intro hi
      have h1 := ih (by omega)
      have h2 := h.up i hi
      omega
  rcases Nat.eq_zero_or_pos C.length with e | e
  · omega
  · have h1 := key (C.length - 1) (by omega)
    have h2 := h.lt (C.length - 1) (by omega)
    omega

set_option maxHeartbeats 6400000 in
set_option maxRecDepth 100000 in
theorem besideLaw_any (n s t : Int) (l : List (Int × Int)) (hl : l.length * 16 ≤ 140737488351232) (sv : Value) (w : World) (h : IsEdges w sv l) :
    Calls Try.prog 10 #[.agg #[.int .i64 n, sv], .int .i64 s, .int .i64 t] w fun e w' => e = .returned (.bool true) ∧ Below w.heap.size w w' := by
  obtain ⟨ad, cap, rfl⟩ := h.form
  have hb1 := below1 w (Obj.cells #[.int .i64 n, .slice ad l.length cap] 24)
  have c0 := two_cells w (.int .i64 n) (.slice ad l.length cap) 24
  have cn := c0.1
  have cs := c0.2
  have he := h.below hb1
  clear c0 h
  go_enter Try.func10, Try.ntmps10
  go_upto_region 1 with fail
  generalize w.alloc (Obj.cells #[.int .i64 n, .slice ad l.length cap] 24) = w1 at *
  have Cn := Lib.hid (And.intro cn cs); have He := Lib.hid he; have Hb1 := Lib.hid hb1
  clear he hb1
  go_wp2_with fail
  refine (own_any l n (.slice ad l.length cap) _ He.out hl).mono ?_
  rintro e w2 ⟨v2, rfl, ho2, hb2⟩
  obtain ⟨a2, c2, rfl⟩ := ho2.form
  have hb3 := upt hb2 (below1 w2 (Obj.cells #[.int .i64 n, .slice a2 l.length c2] 24))
  have o0 := two_cells w2 (.int .i64 n) (.slice a2 l.length c2) 24
  have E3 := Lib.hid (show LB w (w2.alloc (Obj.cells #[.int .i64 n, .slice a2 l.length c2] 24)) n (.slice ad l.length cap) (.slice a2 l.length c2) l w2.heap.size from ⟨Hb1.out.trans (hb3.mono Hb1.out.size), below_cell hb3 Cn.out.1, below_cell hb3 Cn.out.2, o0.1, o0.2, He.out.below hb3, ho2.edges.below (below1 w2 _)⟩)
  clear cn cs ho2 hb2 hb3 o0 He Hb1 Cn
  go_upto_region 2 with fail
  generalize w2.alloc (Obj.cells #[.int .i64 n, .slice a2 l.length c2] 24) = w3 at *
  generalize w2.heap.size = B at *
  have cn := E3.out.cn
  have cs := E3.out.cs
  go_wp2_with fail
  refine (rcheck_any l n _ _ E3.out.he).mono ?_
  rintro e w5 ⟨c, a, hsp, rfl, hb5⟩
  have Hsp := Lib.hid hsp
  have hsz5 := hb5.size
  have b6 := upt hb5 (below1 w5 (Obj.cells #[.int .i64 c, .int .i64 a] 27))
  have B6 := Lib.hid b6
  have F6 := Lib.hid (FV.new w5 c a)
  have E6 := Lib.hid (E3.out.below b6)
  clear hsp hb5 b6 cn cs
  go_upto_region 3 with fail
  generalize w5.alloc (Obj.cells #[.int .i64 c, .int .i64 a] 27) = w6 at *
  generalize w5.heap.size = C at *
  have cn := E6.out.cn
  obtain ⟨f0, f1, g0, g1, lf⟩ := F6.out.facts
  go_upto_if 24 with fail
  go_cut [] from 24 to 29 (fun wx => ∃ c a, LookSpec n l s t c a ∧ FV wx C c a ∧ Below w3.heap.size w3 wx)
  case first =>
    by_cases hz : c = 0
    · subst hz
      obtain ⟨rfl, -⟩ := tree_good Hsp.out
      go_wp2_with fail
      refine (rends_any n s t _).mono ?_
      rintro e w7 ⟨c', a', hsp', rfl, hb7⟩
      have hF := F6.out.below hb7
      have b7 : Below w3.heap.size w3 ((w7.setCell ⟨C, 0, none⟩ (.int .i64 c')).setCell ⟨C, 1, none⟩ (.int .i64 a')) := ((upt B6.out hb7).setCell hsz5 _).setCell hsz5 _
      have B7 := Lib.hid b7; have F7 := Lib.hid (hF.put c' a'); have Hsp' := Lib.hid hsp'
      clear f0 f1 g0 g1 lf
      obtain ⟨f0, f1, g0, g1, lf⟩ := hF.facts
      clear hb7 hF b7 hsp'
      go_wp2
      go_meet
      exact ⟨_, _, Or.inr ⟨Hsp.out, Hsp'.out⟩, F7.out, B7.out⟩
    · have q : (c == 0) = false := by simp [hz]
      have Hz := Lib.hid hz
      clear hz
      go_wp2
      go_meet
      exact ⟨_, _, Or.inl ⟨Hsp.out, Hz.out⟩, F6.out, B6.out⟩
  case rest =>
  obtain ⟨c', a', hsp', hf7, hb7⟩ := hcut
  clear f0 f1 g0 g1 lf Hsp F6 E6 B6 cn
  obtain ⟨w7, rfl⟩ : ∃ w7 : World, w7 = wc := ⟨_, rfl⟩
  obtain ⟨c, rfl⟩ : ∃ c : Int, c = c' := ⟨_, rfl⟩
  obtain ⟨a, rfl⟩ : ∃ a : Int, a = a' := ⟨_, rfl⟩
  have Hsp := Lib.hid hsp'
  have E7 := Lib.hid (E3.out.below hb7)
  have F7 := Lib.hid hf7
  have B7 := Lib.hid hb7
  clear hf7 hb7 hsp'
  have cn := E7.out.cn
  have cs := E7.out.cs
  obtain ⟨f0, f1, g0, g1, lf⟩ := F7.out.facts
  go_upto_region 5 with fail
  go_cut [38] from 31 to 38 (fun s38 wx => s38 = .bool (decide (c = 0 ∧ hasE l s t = true)) ∧ Below w7.heap.size w7 wx)
  case first =>
    by_cases hz : c = 0
    · subst hz
      go_wp2_with (go_at_call 51; refine (has_any l n _ s t _ E7.out.he).mono ?_; rintro e w8 ⟨rfl, hb8⟩; have Hb8 := Lib.hid hb8; clear hb8)
      go_meet
      exact ⟨by
        cases hasE l s t <;> rfl, Hb8.out⟩
    · have q : (c == 0) = false := by simp [hz]
      have e := Lib.hid (decide_eq_false (p := c = 0 ∧ hasE l s t = true) (fun h => hz h.1))
      clear hz
      go_wp2
      go_meet
      exact ⟨by rw [e.out], Below.refl _ _⟩
  case rest =>
  obtain ⟨rfl, hb8⟩ := hcut
  obtain ⟨w8, rfl⟩ : ∃ w8 : World, w8 = wc := ⟨_, rfl⟩
  have E8 := Lib.hid (E7.out.below hb8); have F8 := Lib.hid (F7.out.below hb8); have B8 := Lib.hid (upt B7.out hb8)
  clear f0 f1 g0 g1 lf cn cs hb8 E7 F7 B7
  obtain ⟨f0, f1, g0, g1, lf⟩ := F8.out.facts
  go_upto_if 38 with fail
  go_cut [] from 38 to 39 (fun wx => ∃ c a, BesSpec n l s t c a ∧ FV wx C c a ∧ Below w3.heap.size w3 wx)
  case first =>
    by_cases hP : c = 0 ∧ hasE l s t = true
    · rw [decide_eq_true hP]
      obtain ⟨rfl, hhas⟩ := hP
      obtain ⟨rfl, -⟩ := look_good Hsp.out
      have Hhas := Lib.hid hhas
      clear hhas
      go_wp2_with (go_at_call 18; refine (F_any _ _ _).mono ?_; rintro e wf ⟨rfl, rfl⟩)
      go_meet
      have F9 := F8.out.put 8 0
      have B9 := (B8.out.setCell (p := ⟨C, 0, none⟩) hsz5 (.int .i64 8)).setCell (p := ⟨C, 1, none⟩) hsz5 (.int .i64 0)
      exact ⟨8, 0, Or.inr ⟨Hsp.out, Or.inl ⟨Hhas.out, rfl, rfl⟩⟩, F9.below (below1 _ _), upt B9 (below1 _ _)⟩
    · rw [decide_eq_false hP]
      have HP := Lib.hid hP
      clear hP
      go_wp2
      go_meet
      by_cases hz : c = 0
      · subst hz
        obtain ⟨rfl, -⟩ := look_good Hsp.out
        exact ⟨0, 0, Or.inr ⟨Hsp.out, Or.inr ⟨by
          cases e : hasE l s t with
          | false => rfl
          | true => exact absurd ⟨rfl, e⟩ HP.out, rfl, rfl⟩⟩, F8.out, B8.out⟩
      · exact ⟨c, a, Or.inl ⟨Hsp.out, hz⟩, F8.out, B8.out⟩
  case rest =>
  obtain ⟨c', a', hsp', hf9, hb9⟩ := hcut
  clear f0 f1 g0 g1 lf Hsp F8 E8 B8
  obtain ⟨w9, rfl⟩ : ∃ w9 : World, w9 = wc := ⟨_, rfl⟩
  obtain ⟨c, rfl⟩ : ∃ c : Int, c = c' := ⟨_, rfl⟩
  obtain ⟨a, rfl⟩ : ∃ a : Int, a = a' := ⟨_, rfl⟩
  have Hsp := Lib.hid hsp'; have E9 := Lib.hid (E3.out.below hb9); have F9 := Lib.hid hf9
  clear hsp' hf9 hb9 E3
  have on := E9.out.on
  have os := E9.out.os
  go_wp2_with fail
  refine (beside_any n s t l _ _ E9.out.ho).mono ?_
  rintro e w10 ⟨c', a', wv, cv, rfl, hsp', hb10, hres⟩
  obtain ⟨e1, e2⟩ := Hsp.out.uniq hsp'
  subst e1
  subst e2
  have b11 := upt hb10 (below1 w10 (Obj.cells #[.int .i64 c, .int .i64 a] 27))
  have E11 := Lib.hid (E9.out.below b11)
  have F11 := Lib.hid (F9.out.below b11)
  have G11 := Lib.hid (FV.new w10 c a)
  have R11 := Lib.hid (BesRes.below (show BesRes w10 n l s t c a wv cv from hres) (below1 w10 (Obj.cells #[.int .i64 c, .int .i64 a] 27)))
  clear on os hb10 hsp' hres b11 E9 F9
  go_upto_region 8 with fail
  generalize w10.alloc (Obj.cells #[.int .i64 c, .int .i64 a] 27) = w11 at *
  generalize w10.heap.size = D at *
  go_wp2_with fail
  refine (flowBegun_any _).mono ?_
  rintro e w12 ⟨rfl, hb12⟩
  have E12 := Lib.hid (E11.out.below hb12); have F12 := Lib.hid (F11.out.below hb12); have G12 := Lib.hid (G11.out.below hb12); have R12 := Lib.hid (R11.out.below hb12)
  clear hb12 E11 F11 G11 R11
  have on := E12.out.on
  have os := E12.out.os
  have cn := E12.out.cn
  have cs := E12.out.cs
  obtain ⟨f0, f1, -, -, -⟩ := F12.out.facts
  obtain ⟨g0, g1, -, -, -⟩ := G12.out.facts
  go_wp2_with fail
  refine (kept_yes _ _ _ E12.out.ho E12.out.he).mono ?_
  rintro e w13 ⟨rfl, hb13⟩
  have E13 := Lib.hid (E12.out.below hb13); have F13 := Lib.hid (F12.out.below hb13); have R13 := Lib.hid (R12.out.below hb13)
  clear hb13 E12 F12 R12 G12 on os cn cs f0 f1 g0 g1
  obtain ⟨f0, f1, -, -, -⟩ := F13.out.facts
  have cn := E13.out.cn
  have cs := E13.out.cs
  by_cases hz : c = 0
  · subst hz
    obtain ⟨rfl, N, s, t, W, C', rfl, rfl, rfl, hB, hrows, hcut⟩ : a = 0 ∧ ∃ (N s' t' : Nat) (W : List (List Nat)) (C : List Nat), n = N ∧ s = s' ∧ t = t' ∧ BesOk N l s' t' W C ∧ IsRows w13 wv (W.map ints) ∧ IsInts w13 cv (ints C) := by
      rcases R13.out with ⟨h, -⟩ | ⟨-, h⟩
      · exact absurd rfl h
      · exact h
    have hlk : LookSpec (N : Int) l s t 0 0 := by
      rcases Hsp.out with ⟨-, h⟩ | ⟨h, -⟩
      · exact absurd rfl h
      · exact h
    obtain ⟨-, -, hn1, hl1, hok2, -, hsn, -, htn, hne⟩ := look_good hlk
    have hN : N ≤ 100 := by omega
    have hsN : s < N := by omega
    have htN : t < N := by omega
    have HB := Lib.hid hB
    have hWC := hB.len
    have hfew := hB.few
    have hWl : W.length ≤ 100 := by omega
    have hWm : (W.map ints).length = W.length := List.length_map _
    obtain ⟨wa, wc, wb0, wo0, rfl, hwc, hwm, -, -, -⟩ := id hrows
    obtain ⟨ca, cc, cb0, co0, rfl, hcc, hcm, -, -, -⟩ := id hcut
    rw [hWm] at hwc hrows ⊢
    rw [ints_length] at hcc hcut ⊢
    have Hok2 := Lib.hid hok2; have Hrows := Lib.hid hrows; have Hcut := Lib.hid hcut
    have q1 : ((W.length : Int) != (C'.length : Int)) = false := by simp; omega
    clear hlk hok2 hn1 hsn htn hne hB hWC hWm hrows hcut R13 Hsp F13
    go_wp2_with fail
    refine (gridOf_any l N _ _ E13.out.he hN Hok2.out).mono ?_
    rintro e w14 ⟨gv, rfl, hg14, hb14⟩
    have HG := Lib.hid (show HasGrid w14 gv N (adj l) from ⟨_, hg14⟩)
    have E14 := Lib.hid (E13.out.below hb14)
    have HR := Lib.hid (Hrows.out.below hb14)
    have HC := Lib.hid (Hcut.out.below hb14)
    clear hg14 hb14 Hrows Hcut f0 f1 cn cs E13
    have cn := E14.out.cn
    have lcn := World.block_lt_of_cell? _ _ cn
    simp only at lcn
    have hmk2 := run_make_row' (P := Try.prog) 38 4 (.bool false) 1 Try.underlying38 info4 rfl .i64 .i64 N (by omega) (by omega)
    go_upto_region 14 with fail
    clear hmk2 lcn cn
    have HU0 := Lib.hid (World.rowIs_made w14 (.bool false) N 4)
    have Hb15 := Lib.hid (below1 w14 (.cells (madeCells #[Value.bool false] N) 4))
    generalize w14.alloc (.cells (madeCells #[Value.bool false] N) 4) = w15 at *
    go_wp2
    go_loopg [14] W.length (fun g s14 wr => ∃ (i : Nat) (I : Nat → Bool), i ≤ W.length ∧ g = W.length - i ∧ s14 = .int .i64 (i : Int) ∧ UsedI W i 1 I ∧ wr.rowIs w14.heap.size 4 N (rb I) ∧ Below w14.heap.size w14 wr)
    case atStart => exact ⟨0, fun _ => false, Nat.zero_le _, rfl, rfl, UsedI.start W, HU0.out.congr (fun k _ => rfl), Hb15.out⟩
    case round =>
      obtain ⟨i, I, hi, rfl, rfl, hu, hrow, hb⟩ := hrel
      have Hu := Lib.hid hu; have Hrow := Lib.hid hrow; have Hb := Lib.hid hb
      by_cases hil : i < W.length
      · obtain ⟨wb, wo, ra, rc, rfl, hcr, hir⟩ := ways_at HR.out (Below.refl _ _) hil
        have hway := HB.out.way i hil
        have Hx := Lib.hid (show ∀ k J, UsedI W i k J → 0 < k → k + 1 < (W.getD i []).length → J ((W.getD i []).getD k 0) = false ∧ UsedI W i (k + 1) (fun q => if q = (W.getD i []).getD k 0 then true else J q) from fun k J hJ h0 hk => ⟨hJ.new HB.out hil h0 hk, hJ.more hil h0 hk⟩)
        generalize W.getD i [] = o at *
        have hol := hway.few
        have ho2 := hway.len
        have Hir := Lib.hid hir; have Hway := Lib.hid hway
        have Hcr := Lib.hid hcr
        have hcr' := below_cell hb hcr
        clear hu hrow hb hir hway hcr
        go_wp2_with (go_at_call 53; refine (way_yes N s t l o gv _ _ hN (HG.out.below Hb.out) (by omega) (Hir.out.below Hb.out) Hway.out).mono ?_; rintro e w16 ⟨rfl, hb16⟩; have Hb16 := Lib.hid (Hb.out.trans (hb16.mono Hb.out.size)); have Hrow16 := Lib.hid (Hrow.out.of_block (hb16.block _ Hrow.out.lt)); clear hb16)
        clear hcr'
        go_loopg [15] (o.length - 1) (fun g s15 wx => ∃ (k : Nat) (J : Nat → Bool), 1 ≤ k ∧ k < o.length ∧ g = o.length - k ∧ s15 = .int .i64 (k : Int) ∧ UsedI W i k J ∧ wx.rowIs w14.heap.size 4 N (rb J) ∧ Below w14.heap.size w14 wx)
        case atStart => exact ⟨1, I, Nat.le_refl _, by omega, rfl, rfl, Hu.out, Hrow16.out, Hb16.out⟩
        case round =>
          obtain ⟨k, J, hk1, hk, rfl, rfl, hJ, hrow, hb⟩ := hrel
          have HJ := Lib.hid hJ; have Hrow2 := Lib.hid hrow; have Hb2 := Lib.hid hb
          have cr := below_cell hb Hcr.out
          by_cases hk2 : k + 1 < o.length
          · obtain ⟨eb, eo, rfl, ce⟩ := ints_at' Hir.out hb hk
            obtain ⟨hfree, hmore⟩ := Hx.out k J hJ (by omega) hk2
            have hx := Hway.out.lt k hk
            generalize o.getD k 0 = x at *
            have cu := hrow.cell hx
            simp only [rb] at cu
            rw [hfree] at cu
            have uf := hrow.frozen x
            have ul := hrow.lt
            have Hmore := Lib.hid hmore
            clear hJ hrow hb hfree hmore
            go_wp2
            go_roundg (o.length - (k + 1))
            case measure => go_light; omega
            case rel => exact ⟨k + 1, _, by omega, by omega, rfl, by go_num, Hmore.out, row_set_rb Hrow2.out x true, Hb2.out.setCell (Nat.le_refl _) _⟩
          · clear hJ hrow hb
            go_wp2
            go_roundg (W.length - (i + 1))
            case measure => go_light; omega
            case rel => exact ⟨i + 1, J, by omega, rfl, by go_num, HJ.out.next, Hrow2.out, Hb2.out⟩
      · obtain rfl : W.length = i := by omega
        have cn := (E14.out.below hb).cn
        obtain ⟨w17, rfl⟩ : ∃ w17 : World, w17 = wr := ⟨_, rfl⟩
        have HC17 := Lib.hid (HC.out.below hb); have E17 := Lib.hid (E14.out.below hb); have HG17 := Lib.hid (HG.out.below hb)
        clear hu hrow hb Hu Hrow Hb HR HC HG E14 HU0 Hb15
        have hmk3 := run_make_row' (P := Try.prog) 38 4 (.bool false) 1 Try.underlying38 info4 rfl .i64 .i64 N (by omega) (by omega)
        go_upto_region 28 with (go_at_call 32; refine (rising_up C' N _ _ (by omega) HC17.out HB.out.lt HB.out.up (by omega)).mono ?_; rintro e w18 ⟨rfl, hb18⟩; have HC18 := Lib.hid (HC17.out.below hb18); have E18 := Lib.hid (E17.out.below hb18); have HG18 := Lib.hid (HG17.out.below hb18); clear hb18; clear cn; have cn := E18.out.cn; have lcn := World.block_lt_of_cell? _ _ cn; simp only at lcn)
        clear hmk3 lcn cn HC17 E17 HG17
        have HS0 := Lib.hid (World.rowIs_made w18 (.bool false) N 4)
        have Hb19 := Lib.hid (below1 w18 (.cells (madeCells #[Value.bool false] N) 4))
        generalize w18.alloc (.cells (madeCells #[Value.bool false] N) 4) = w19 at *
        go_wp2
        go_loopg [17] C'.length (fun g s17 wr => ∃ k : Nat, k ≤ C'.length ∧ g = C'.length - k ∧ s17 = .int .i64 (k : Int) ∧ wr.rowIs w18.heap.size 4 N (rb fun u => decide (u ∈ C'.take k)) ∧ Below w18.heap.size w18 wr)
        case atStart => exact ⟨0, Nat.zero_le _, rfl, rfl, HS0.out.congr (fun k _ => by simp [rb]), Hb19.out⟩
        case round =>
          obtain ⟨k, hk, rfl, rfl, hrow, hb⟩ := hrel
          have Hrow := Lib.hid hrow; have Hb := Lib.hid hb
          by_cases hkl : k < C'.length
          · obtain ⟨bs, os, rfl, h1⟩ := ints_at' HC18.out hb hkl
            have hx := HB.out.lt k hkl
            have hI := hrow.cell hx
            have hIf := hrow.frozen (C'.getD k 0)
            have hIl := hrow.lt
            have hmem : ∀ u, u ∈ C'.take (k + 1) ↔ u ∈ C'.take k ∨ u = C'.getD k 0 := fun u => by
              rw [List.take_succ_eq_append_getElem hkl, List.mem_append, List.mem_singleton]
              simp [List.getD, hkl]
            generalize hxx : C'.getD k 0 = x at *
            have Hmem := Lib.hid hmem
            clear hrow hb hxx hmem
            simp only [rb] at hI
            go_wp2
            go_roundg (C'.length - (k + 1))
            case measure => go_light; omega
            case rel => exact ⟨k + 1, by omega, rfl, by go_num, row_rb (row_set_rb Hrow.out x true) (fun q _ => by
              by_cases e : q = x
              · rw [if_pos e]; exact (decide_eq_true ((Hmem.out q).2 (Or.inr e))).symm
              · rw [if_neg e]
                have := Hmem.out q
                simp only [e, or_false] at this
                simp only [this]), Hb.out.setCell (Nat.le_refl _) _⟩
          · obtain rfl : C'.length = k := by omega
            have hrT : wr.rowIs w18.heap.size 4 N (rb fun u => decide (u ∈ C')) := row_rb hrow fun u _ => by rw [List.take_length]
            obtain ⟨w20, rfl⟩ : ∃ w20 : World, w20 = wr := ⟨_, rfl⟩
            have hs := hrT.cell hsN
            have ht := hrT.cell htN
            simp only [rb] at hs ht
            rw [decide_eq_false HB.out.src] at hs
            rw [decide_eq_false HB.out.snk] at ht
            have hshut : HasShut w20 (.slice (some ⟨w18.heap.size, 0, none⟩) N N) (fun u => decide (u ∈ C')) := ⟨_, N, N, w18.heap.size, 0, rfl, Nat.le_refl _, by omega, fun _ => rfl, fun j hj => by rw [Nat.zero_add]; exact hrT.cell hj, fun j hj => decide_eq_false (fun h => by
              obtain ⟨q, hq, e⟩ := List.getElem_of_mem h
              have := HB.out.lt q hq
              simp only [List.getD, List.getElem?_eq_getElem hq, Option.getD_some, e] at this
              omega)⟩
            have Hshut := Lib.hid hshut
            have hno : rchB N (adj l) (fun u => decide (u ∈ C')) s t = false := by
              cases e : rchB N (adj l) (fun u => decide (u ∈ C')) s t with
              | false => rfl
              | true => exact absurd (rchB_iff.1 e) (HB.out.cut _ (fun v _ => decide_eq_true_iff))
            have Hno := Lib.hid hno
            have HG20 := Lib.hid (HG18.out.below hb); have E20 := Lib.hid (E18.out.below hb)
            clear hrow hb hrT hshut hno Hrow Hb HG18 E18
            go_wp2_with (go_at_call 54; refine (reach_any N s (adj l) (fun u => decide (u ∈ C')) gv _ _ hN hsN HG20.out Hshut.out).mono ?_; rintro e w21 ⟨bR, rfl, -, hrR, hb21⟩; have E21 := Lib.hid (E20.out.below hb21); have cR := hrR.cell htN; simp only [rb] at cR; rw [Hno.out] at cR; clear hrR hb21)
            go_ret
            exact ⟨rfl, E21.out.hb⟩
  · have q : (c != 0) = true := by simp [hz]
    rcases R13.out with ⟨-, rfl, rfl⟩ | ⟨h, -⟩
    · have Hz := Lib.hid hz
      clear hz
      go_wp2
      go_ret
      exact ⟨rfl, E13.out.hb⟩
    · exact absurd h hz

end Go.Proofs.Ytfflnpcbpcldeaa
