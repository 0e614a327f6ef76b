/- arborref.FitsFault. -/
import Derived.Test.YtnmljgjegodkaaaDoorRCheck
import Derived.Test.YtnmljgjegodkaaaDoorPM
import Derived.Test.YtnmljgjegodkaaaDoorPF
import Derived.BigQuiet
namespace Go.Proofs.YtnmljgjegodkaaaDoor
open Go.RowKit

/-- One element of a bag is fine. -/
def SlotOk (n : Int) (b : List Int) (k : Nat) : Prop := (0 ≤ b.getD k 0 ∧ b.getD k 0 < n) ∧ ¬ b.getD k 0 ∈ b.take k
def BagOk (n : Int) (b : List Int) : Prop := ∀ k, k < b.length → SlotOk n b k
/-- What is wrong with bags. -/
def BagsSpec (n : Int) (m : List (List Int)) (c a : Int) : Prop :=
  (∃ i, i < m.length ∧ (∀ j, j < i → BagOk n (m.getD j [])) ∧ ∃ k, k < (m.getD i []).length ∧ (∀ j, j < k → SlotOk n (m.getD i []) j) ∧ ¬ SlotOk n (m.getD i []) k ∧ a = i ∧ c = if 0 ≤ (m.getD i []).getD k 0 ∧ (m.getD i []).getD k 0 < n then 5 else 3) ∨
  ((∀ j, j < m.length → BagOk n (m.getD j [])) ∧ c = 0 ∧ a = 0)
def FitsSpec (n : Int) (l : List (Int × Int)) (m : List (List Int)) (u : List Int) (c a : Int) : Prop :=
  (GraphSpec n l c a ∧ c ≠ 0) ∨ (GraphSpec n l 0 0 ∧ ((100 < m.length ∧ c = 2 ∧ a = 0) ∨ (m.length ≤ 100 ∧ ((u.length ≠ m.length ∧ c = 6 ∧ a = 0) ∨ (u.length = m.length ∧ BagsSpec n m c a)))))
theorem BagsSpec.uniq {n : Int} {m : List (List Int)} {c a c' a' : Int} (h : BagsSpec n m c a) (h' : BagsSpec n m c' a') : c = c' ∧ a = a' := by
  rcases h with ⟨i, h1, h2, k, h3, h4, h5, rfl, rfl⟩ | ⟨h1, rfl, rfl⟩
  · rcases h' with ⟨i', g1, g2, k', g3, g4, g5, rfl, rfl⟩ | ⟨g1, rfl, rfl⟩
    · have e : i = i' := by
        rcases Nat.lt_trichotomy i i' with e | e | e
        · exact absurd (g2 i e k h3) h5
        · exact e
        · exact absurd (h2 i' e k' g3) g5
      subst e
      have e : k = k' := by
        rcases Nat.lt_trichotomy k k' with e | e | e
        · exact absurd (g4 k e) h5
        · exact e
        · exact absurd (h4 k' e) g5
      subst e
      exact ⟨rfl, rfl⟩
    · exact absurd (g1 i h1 k h3) h5
  · rcases h' with ⟨i', g1, g2, k', g3, g4, g5, rfl, rfl⟩ | ⟨g1, rfl, rfl⟩
    · exact absurd (h1 i' g1 k' g3) g5
    · exact ⟨rfl, rfl⟩
theorem BagsSpec.ne {n : Int} {m : List (List Int)} {c a : Int} (h : BagsSpec n m c a) : c = 0 ∨ c = 3 ∨ c = 5 := by
  rcases h with ⟨i, h1, h2, k, h3, h4, h5, rfl, rfl⟩ | ⟨h1, rfl, rfl⟩
  · split
    · exact .inr (.inr rfl)
    · exact .inr (.inl rfl)
  · exact .inl rfl
theorem FitsSpec.uniq {n : Int} {l : List (Int × Int)} {m : List (List Int)} {u : List Int} {c a c' a' : Int} (h : FitsSpec n l m u c a) (h' : FitsSpec n l m u c' a') : c = c' ∧ a = a' := by
  rcases h with ⟨h1, h2⟩ | ⟨h1, h2⟩ <;> rcases h' with ⟨h1', h2'⟩ | ⟨h1', h2'⟩
  · exact h1.uniq h1'
  · exact absurd (h1.uniq h1').1 h2
  · exact absurd (h1'.uniq h1).1 h2'
  · rcases h2 with ⟨e, rfl, rfl⟩ | ⟨e, h2⟩ <;> rcases h2' with ⟨e', rfl, rfl⟩ | ⟨e', h2'⟩
    · exact ⟨rfl, rfl⟩
    · omega
    · omega
    · rcases h2 with ⟨k, rfl, rfl⟩ | ⟨k, h2⟩ <;> rcases h2' with ⟨k', rfl, rfl⟩ | ⟨k', h2'⟩
      · exact ⟨rfl, rfl⟩
      · omega
      · omega
      · exact h2.uniq h2'
theorem idx_take {b : List Int} {x : Int} {k : Nat} (hk : k ≤ b.length) : idx (b.take k) x < k ↔ x ∈ b.take k := by
  have hl : (b.take k).length = k := by rw [List.length_take]; omega
  have e : idx (b.take k) x < (b.take k).length ↔ x ∈ b.take k := by
    unfold idx
    rw [List.findIdx_lt_length]
    constructor
    · rintro ⟨y, hy, h⟩
      have : y = x := by have h' : (y == x) = true := h; simpa using h'
      exact this ▸ hy
    · intro h
      exact ⟨x, h, by simp⟩
  rwa [hl] at e
/-- All is well. -/
theorem FitsSpec.good {n : Int} {l : List (Int × Int)} {m : List (List Int)} {u : List Int} {a : Int} (h : FitsSpec n l m u 0 a) : a = 0 ∧ GraphSpec n l 0 0 ∧ m.length ≤ 100 ∧ u.length = m.length ∧ ∀ j, j < m.length → BagOk n (m.getD j []) := by
  rcases h with ⟨_, h⟩ | ⟨h1, ⟨_, h, _⟩ | ⟨h2, ⟨_, h, _⟩ | ⟨h3, h4⟩⟩⟩
  · exact absurd rfl h
  · cases h
  · cases h
  · rcases h4 with ⟨i, g1, g2, k, g3, g4, g5, rfl, hc⟩ | ⟨g1, -, rfl⟩
    · split at hc <;> cases hc
    · exact ⟨rfl, h1, h2, h3, g1⟩
theorem IsRows.atF {w : World} {a : Option Addr} {len c : Nat} {m : List (List Int)} (h : IsRows w (.slice a len c) m) {k : Nat} (hk : k < m.length) : ∃ b o r, a = some ⟨b, o, none⟩ ∧ w.cell? ⟨b, o + k, none⟩ = some r ∧ IsInts w r (m.getD k []) := by
  obtain ⟨a2, c2, b, o, e, h1, h2, h3, h4, h5⟩ := h
  simp only [Value.slice.injEq] at e
  obtain ⟨rfl, rfl, rfl⟩ := e
  obtain ⟨r, hr, hi⟩ := h5 k hk
  exact ⟨b, o, r, h3 (by omega), hr, hi⟩
theorem IsInts.atF {w : World} {a : Option Addr} {len c : Nat} {m : List Int} (h : IsInts w (.slice a len c) m) {k : Nat} (hk : k < m.length) : ∃ b o, a = some ⟨b, o, none⟩ ∧ w.cell? ⟨b, o + k, none⟩ = some (.int .i64 (m.getD k 0)) := by
  obtain ⟨a2, c2, b, o, e, h1, h2, h3, h4, h5⟩ := h
  simp only [Value.slice.injEq] at e
  obtain ⟨rfl, rfl, rfl⟩ := e
  exact ⟨b, o, h3 (by omega), h5 k hk⟩

set_option maxHeartbeats 6400000 in
set_option maxRecDepth 100000 in
theorem fitsFault_any (n : Int) (l : List (Int × Int)) (m : List (List Int)) (u : List Int) (sv bv uv : Value) (w : World) (h : IsEdges w sv l) (hm : IsRows w bv m) (hu : IsInts w uv u) :
    Calls Tryd.prog 11 #[.agg #[.int .i64 n, sv], bv, uv] w (Faulty (FitsSpec n l m u) w) := by
  obtain ⟨ad, cap, rfl⟩ : ∃ ad cap, sv = .slice ad l.length cap := by
    obtain ⟨a, c, _, _, rfl, _⟩ := h
    exact ⟨a, c, rfl⟩
  obtain ⟨ab, cb, rfl, hmM⟩ : ∃ ab cb, bv = .slice ab m.length cb ∧ m.length ≤ 9223372036854775807 := by
    obtain ⟨a, c, _, _, rfl, _, _, _, _, _⟩ := hm
    exact ⟨a, c, rfl, by omega⟩
  obtain ⟨au, cu, rfl, huM⟩ : ∃ au cu, uv = .slice au u.length cu ∧ u.length ≤ 9223372036854775807 := by
    obtain ⟨a, c, _, _, rfl, _, _, _, _, _⟩ := hu
    exact ⟨a, c, rfl, by omega⟩
  have hg := GRes.start w n (.slice ad l.length cap)
  have He := Lib.hid h; have Hg := Lib.hid hg; have Hm := Lib.hid hm
  have cn := hg.cn
  have cs := hg.cs
  clear h hg hm hu
  go_enter Tryd.func11, Tryd.ntmps11
  go_upto_region 1 with fail
  generalize (w.alloc (Obj.cells #[.int .i64 n, .slice ad l.length cap] 24)).alloc (Obj.cells #[Value.int IntKind.i64 0, Value.int IntKind.i64 0] 27) = w1 at *
  go_upto_region 2 with (go_at_call 24; refine (rcheck_any l n _ w1 (He.out.below Hg.out.hb)).mono ?_; rintro e w2 ⟨c, a, hsp, rfl, hb2⟩; have Hsp := Lib.hid hsp; have H3 := Lib.hid (Hg.out.below (upc hb2 (below1 w2 (Obj.cells #[.int .i64 c, .int .i64 a] 27)))); have F3 := Lib.hid (FV.new w2 c a); clear hsp hb2)
  generalize w2.alloc (Obj.cells #[.int .i64 c, .int .i64 a] 27) = w3 at *
  generalize w2.heap.size = F at *
  clear cn cs Hg
  have cn := H3.out.cn
  have hAB := H3.out.hA
  obtain ⟨f0, f1, -, -, -⟩ := F3.out.facts
  have b0 := H3.out.hz.cell (show 0 < 2 by omega)
  have b1 := H3.out.hz.cell (show 1 < 2 by omega)
  have d0 := H3.out.hz.frozen 0
  have d1 := H3.out.hz.frozen 1
  have hBl := H3.out.hz.lt
  by_cases hc : c = 0
  · subst hc
    obtain rfl := spec_zero Hsp.out
    by_cases hm1 : 100 < m.length
    · have hm2 : (100 : Int) < (m.length : Int) := by omega
      go_wp2_with (go_at_call 20; refine (F_any _ _ _).mono ?_; rintro e wf ⟨rfl, rfl⟩)
      obtain ⟨e0, e1, e2⟩ := H3.out.putA (.int .i64 2) (.int .i64 0) (Obj.cells #[Value.int .i64 2, .int .i64 0] 27)
      exact bodyPost_ret (v := .agg #[.int .i64 2, .int .i64 0]) (by simp [results, Tryd.results11, go_sem, e0, e1]) rfl ⟨2, 0, Or.inr ⟨Hsp.out, Or.inl ⟨hm1, rfl, rfl⟩⟩, rfl, e2⟩
    by_cases hu1 : u.length = m.length
    · rw [hu1]
      have hm2 : ¬ (100 : Int) < (m.length : Int) := by omega
      have Hu1 := Lib.hid hu1
      have Hm1 := Lib.hid hm1
      clear hu1 hm1 huM
      generalize hM : m.length = M at *
      have HM := Lib.hid hM
      clear hM
      go_upto_region 9 with fail
      clear f0 f1 b0 b1 d0 d1 hBl cn
      go_loopg [8] M (fun g s8 wr => ∃ i : Nat, i ≤ M ∧ g = M - i ∧ s8 = .int .i64 (i : Int) ∧ (∀ j, j < i → BagOk n (m.getD j [])) ∧ Below w3.heap.size w3 wr)
      case atStart => exact ⟨0, Nat.zero_le _, rfl, rfl, fun j hj => absurd hj (Nat.not_lt_zero _), Below.refl _ _⟩
      case round =>
        obtain ⟨i, hi, rfl, rfl, hall, hb⟩ := hrel
        have Hall := Lib.hid hall
        have H4 := Lib.hid (H3.out.below hb)
        have Hb := Lib.hid hb
        have b0 := H4.out.hz.cell (show 0 < 2 by omega)
        have b1 := H4.out.hz.cell (show 1 < 2 by omega)
        have d0 := H4.out.hz.frozen 0
        have d1 := H4.out.hz.frozen 1
        have hBl := H4.out.hz.lt
        by_cases hlt : i < M
        · obtain ⟨bb, ob, r, rfl, cr, hri⟩ := (Hm.out.below (H4.out.hb)).atF (k := i) (by rw [HM.out]; exact hlt)
          have Cr := Lib.hid cr
          obtain ⟨ar, cr', rfl, hl1, hl2⟩ : ∃ ar cr', r = .slice ar (m.getD i []).length cr' ∧ (m.getD i []).length ≤ cr' ∧ cr' ≤ 9223372036854775807 := by
            obtain ⟨ar, cr', br, or', er, hl1, hl2, -, -, -⟩ := hri
            exact ⟨ar, cr', er, hl1, by omega⟩
          have Hri := Lib.hid hri
          generalize hbg : m.getD i [] = bg at *
          have Hbg := Lib.hid hbg
          generalize hnb : bg.length = nb at *
          have Hnb := Lib.hid hnb
          clear hall hb hbg hnb hri
          obtain ⟨w4, rfl⟩ : ∃ w4 : World, w4 = wr := ⟨_, rfl⟩
          go_upto_region 12 with fail
          clear cr b0 b1 d0 d1 hBl
          go_loopg [9] nb (fun g s9 wi => ∃ k : Nat, k ≤ nb ∧ g = nb - k ∧ s9 = .int .i64 (k : Int) ∧ (∀ j, j < k → SlotOk n bg j) ∧ Below w4.heap.size w4 wi)
          case atStart => exact ⟨0, Nat.zero_le _, rfl, rfl, fun j hj => absurd hj (Nat.not_lt_zero _), Below.refl _ _⟩
          case round =>
            obtain ⟨k, hk, rfl, rfl, hok, hb5⟩ := hrel
            have Hok := Lib.hid hok
            have H5 := Lib.hid (H4.out.below hb5)
            have Hb5 := Lib.hid hb5
            have cr := below_cell hb5 Cr.out
            have cn := H5.out.cn
            have b0 := H5.out.hz.cell (show 0 < 2 by omega)
            have b1 := H5.out.hz.cell (show 1 < 2 by omega)
            have d0 := H5.out.hz.frozen 0
            have d1 := H5.out.hz.frozen 1
            have hBl := H5.out.hz.lt
            by_cases hk1 : k < nb
            · have hri5 := Hri.out.below hb5
              obtain ⟨b2, o2, rfl, cx⟩ := hri5.atF (show k < bg.length by rw [Hnb.out]; exact hk1)
              have hix := idx_take (b := bg) (x := bg.getD k 0) (k := k) (by rw [Hnb.out]; exact hk)
              have Hix := Lib.hid hix
              obtain ⟨x, hx⟩ : ∃ x, bg.getD k 0 = x := ⟨_, rfl⟩
              have Hx := Lib.hid hx
              have hSl : SlotOk n bg k ↔ (0 ≤ x ∧ x < n) ∧ ¬ x ∈ bg.take k := by rw [← hx]; exact Iff.rfl
              have HSl := Lib.hid hSl
              rw [hx] at cx Hix
              clear hok hix hx hSl
              by_cases hx0 : x < 0
              · have HS := Lib.hid (show FitsSpec n l m u 3 (i : Int) from Or.inr ⟨Hsp.out, Or.inr ⟨by rw [HM.out]; omega, Or.inr ⟨by rw [Hu1.out, HM.out], Or.inl ⟨i, by rw [HM.out]; exact hlt, Hall.out, k, by rw [Hbg.out, Hnb.out]; exact hk1, by rw [Hbg.out]; exact Hok.out, by rw [Hbg.out]; exact fun h => absurd (HSl.out.1 h).1.1 (by omega), rfl, by rw [Hbg.out, Hx.out, if_neg (by omega)]⟩⟩⟩⟩)
                clear hri5 hb5
                go_upto_region 14 with fail
                go_quiet (fail)
                have hq := Below.drewN' (Below.refl wr.heap.size wr) nq
                have H6 := Lib.hid (H5.out.below hq)
                clear hq b0 b1 d0 d1 hBl
                have b0 := H6.out.hz.cell (show 0 < 2 by omega)
                have b1 := H6.out.hz.cell (show 1 < 2 by omega)
                have d0 := H6.out.hz.frozen 0
                have d1 := H6.out.hz.frozen 1
                have hBl := H6.out.hz.lt
                generalize wr.drewN nq = w6 at *
                go_wp2_with (go_at_call 20; refine (F_any _ _ _).mono ?_; rintro e wf ⟨rfl, rfl⟩)
                obtain ⟨e0, e1, e2⟩ := H6.out.putA (.int .i64 3) (.int .i64 (i : Int)) (Obj.cells #[Value.int .i64 3, .int .i64 (i : Int)] 27)
                exact bodyPost_ret (v := .agg #[.int .i64 3, .int .i64 (i : Int)]) (by simp [results, Tryd.results11, go_sem, e0, e1]) rfl ⟨3, (i : Int), HS.out, rfl, e2⟩
              · by_cases hxn : n ≤ x
                · have HS := Lib.hid (show FitsSpec n l m u 3 (i : Int) from Or.inr ⟨Hsp.out, Or.inr ⟨by rw [HM.out]; omega, Or.inr ⟨by rw [Hu1.out, HM.out], Or.inl ⟨i, by rw [HM.out]; exact hlt, Hall.out, k, by rw [Hbg.out, Hnb.out]; exact hk1, by rw [Hbg.out]; exact Hok.out, by rw [Hbg.out]; exact fun h => absurd (HSl.out.1 h).1.2 (by omega), rfl, by rw [Hbg.out, Hx.out, if_neg (by omega)]⟩⟩⟩⟩)
                  clear hri5 hb5
                  go_upto_region 14 with fail
                  go_quiet (fail)
                  have hq := Below.drewN' (Below.refl wr.heap.size wr) nq
                  have H6 := Lib.hid (H5.out.below hq)
                  clear hq b0 b1 d0 d1 hBl
                  have b0 := H6.out.hz.cell (show 0 < 2 by omega)
                  have b1 := H6.out.hz.cell (show 1 < 2 by omega)
                  have d0 := H6.out.hz.frozen 0
                  have d1 := H6.out.hz.frozen 1
                  have hBl := H6.out.hz.lt
                  generalize wr.drewN nq = w6 at *
                  go_wp2_with (go_at_call 20; refine (F_any _ _ _).mono ?_; rintro e wf ⟨rfl, rfl⟩)
                  obtain ⟨e0, e1, e2⟩ := H6.out.putA (.int .i64 3) (.int .i64 (i : Int)) (Obj.cells #[Value.int .i64 3, .int .i64 (i : Int)] 27)
                  exact bodyPost_ret (v := .agg #[.int .i64 3, .int .i64 (i : Int)]) (by simp [results, Tryd.results11, go_sem, e0, e1]) rfl ⟨3, (i : Int), HS.out, rfl, e2⟩
                · have hxn' : x < n := by omega
                  have HIr := Lib.hid (hri5.take (k := k) (by omega))
                  obtain ⟨i3, hi3, -⟩ := info_parts info3
                  have hsl := run_slice_hi (P := Tryd.prog) Tryd.underlying30 hi3 (some ⟨b2, o2, none⟩) nb cr' k (by omega)
                  obtain ⟨d, hd⟩ : ∃ d, idx (bg.take k) x = d := ⟨_, rfl⟩
                  have Hd := Lib.hid hd
                  rw [hd] at Hix
                  have hdl : d ≤ k := by
                    rw [← hd]
                    have h1 : idx (bg.take k) x ≤ (bg.take k).length := List.findIdx_le_length
                    rw [List.length_take] at h1
                    omega
                  clear hri5 hd hi3
                  go_upto_region 14 with fail
                  go_quiet (fail)
                  have hq := Below.drewN' (Below.refl wr.heap.size wr) nq
                  have H6 := Lib.hid (H5.out.below hq)
                  have HB6 := Lib.hid (hb5.trans (hq.mono hb5.size))
                  have cr := below_cell hq cr
                  have cx := below_cell hq cx
                  have HRk2 := Lib.hid (fun q => rank_is (k := d) (bg.take k) (.slice (some ⟨b2, o2, none⟩) k cr') x ((wr.drewN nq).drewN q) (HIr.out.below (Below.drewN' (Below.drewN' (Below.refl wr.heap.size wr) nq) q)) Hd.out)
                  clear hq b0 b1 d0 d1 hBl hb5
                  generalize wr.drewN nq = w6 at *
                  by_cases hdk : d < k
                  · have HS := Lib.hid (show FitsSpec n l m u 5 (i : Int) from Or.inr ⟨Hsp.out, Or.inr ⟨by rw [HM.out]; omega, Or.inr ⟨by rw [Hu1.out, HM.out], Or.inl ⟨i, by rw [HM.out]; exact hlt, Hall.out, k, by rw [Hbg.out, Hnb.out]; exact hk1, by rw [Hbg.out]; exact Hok.out, by rw [Hbg.out]; exact fun h => (HSl.out.1 h).2 (Hix.out.1 hdk), rfl, by rw [Hbg.out, Hx.out, if_pos ⟨by omega, hxn'⟩]⟩⟩⟩⟩)
                    go_upto_region 16 with fail
                    go_quiet ((go_at_call 34; exact Calls.quiet_of (HRk2.out _)))
                    have hq := Below.drewN' (Below.refl w6.heap.size w6) nq
                    have H7 := Lib.hid (H6.out.below hq)
                    clear hq
                    have b0 := H7.out.hz.cell (show 0 < 2 by omega)
                    have b1 := H7.out.hz.cell (show 1 < 2 by omega)
                    have d0 := H7.out.hz.frozen 0
                    have d1 := H7.out.hz.frozen 1
                    have hBl := H7.out.hz.lt
                    generalize w6.drewN nq = w7 at *
                    go_wp2_with (go_at_call 20; refine (F_any _ _ _).mono ?_; rintro e wf ⟨rfl, rfl⟩)
                    obtain ⟨e0, e1, e2⟩ := H7.out.putA (.int .i64 5) (.int .i64 (i : Int)) (Obj.cells #[Value.int .i64 5, .int .i64 (i : Int)] 27)
                    exact bodyPost_ret (v := .agg #[.int .i64 5, .int .i64 (i : Int)]) (by simp [results, Tryd.results11, go_sem, e0, e1]) rfl ⟨5, (i : Int), HS.out, rfl, e2⟩
                  · have Hst := Lib.hid (show ∀ j, j < k + 1 → SlotOk n bg j from fun j hj => by
                      by_cases e : j = k
                      · subst e; exact HSl.out.2 ⟨⟨by omega, hxn'⟩, fun h => hdk (Hix.out.2 h)⟩
                      · exact Hok.out j (by omega))
                    go_upto_region 16 with fail
                    go_quiet ((go_at_call 34; exact Calls.quiet_of (HRk2.out _)))
                    have hq := Below.drewN' (Below.refl w6.heap.size w6) nq
                    have HB7 := Lib.hid (HB6.out.trans (hq.mono HB6.out.size))
                    clear hq
                    generalize w6.drewN nq = w7 at *
                    go_wp2
                    go_roundg (nb - (k + 1))
                    case measure => go_light; omega
                    case rel => exact ⟨k + 1, by omega, rfl, by go_num, Hst.out, HB7.out⟩
            · obtain rfl : k = nb := by omega
              have Hst := Lib.hid (show ∀ j, j < i + 1 → BagOk n (m.getD j []) from fun j hj => by
                by_cases e : j = i
                · subst e; rw [Hbg.out]; exact fun q hq => Hok.out q (by rw [← Hnb.out]; exact hq)
                · exact Hall.out j (by omega))
              have HB7 := Lib.hid (Hb.out.trans (hb5.mono Hb.out.size))
              clear hok hb5
              go_wp2
              go_roundg (M - (i + 1))
              case measure => go_light; omega
              case rel => exact ⟨i + 1, by omega, rfl, by go_num, Hst.out, HB7.out⟩
        · obtain rfl : i = M := by omega
          have HS := Lib.hid (show FitsSpec n l m u 0 0 from Or.inr ⟨Hsp.out, Or.inr ⟨by rw [HM.out]; omega, Or.inr ⟨by rw [Hu1.out, HM.out], Or.inr ⟨by rw [HM.out]; exact Hall.out, rfl, rfl⟩⟩⟩⟩)
          go_wp2
          obtain ⟨e0, e1, e2⟩ := H4.out.put (.int .i64 0) (.int .i64 0)
          exact bodyPost_ret (v := .agg #[.int .i64 0, .int .i64 0]) (by simp [results, Tryd.results11, go_sem, e0, e1]) rfl ⟨0, 0, HS.out, rfl, e2⟩
    · have hu2 : ¬ (u.length : Int) = (m.length : Int) := by omega
      have hub : ((u.length : Int) != (m.length : Int)) = true := by simp; omega
      have hm2 : ¬ (100 : Int) < (m.length : Int) := by omega
      go_wp2_with (go_at_call 20; refine (F_any _ _ _).mono ?_; rintro e wf ⟨rfl, rfl⟩)
      obtain ⟨e0, e1, e2⟩ := H3.out.putA (.int .i64 6) (.int .i64 0) (Obj.cells #[Value.int .i64 6, .int .i64 0] 27)
      exact bodyPost_ret (v := .agg #[.int .i64 6, .int .i64 0]) (by simp [results, Tryd.results11, go_sem, e0, e1]) rfl ⟨6, 0, Or.inr ⟨Hsp.out, Or.inr ⟨by omega, Or.inl ⟨hu1, rfl, rfl⟩⟩⟩, rfl, e2⟩
  · have q : (c != 0) = true := by simp [hc]
    have Hc := Lib.hid hc
    clear hc
    go_wp2
    obtain ⟨e0, e1, e2⟩ := H3.out.put (.int .i64 c) (.int .i64 a)
    exact bodyPost_ret (v := .agg #[.int .i64 c, .int .i64 a]) (by simp [results, Tryd.results11, go_sem, e0, e1]) rfl ⟨c, a, Or.inl ⟨Hsp.out, Hc.out⟩, rfl, e2⟩
end Go.Proofs.YtnmljgjegodkaaaDoor
