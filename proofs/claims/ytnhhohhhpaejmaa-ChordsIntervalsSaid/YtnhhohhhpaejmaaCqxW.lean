/- chords.Cliques. -/
import Derived.Test.YtnhhohhhpaejmaaCqsW
import Derived.Test.YtnhhohhhpaejmaaCsmW
import Derived.Test.YtnhhohhhpaejmaaOrdW
namespace Go.Proofs.Ytnhhohhhpaejmaa
open Go Go.RowKit

/-- What chords.Cliques answers. -/
def CqPost (n : Int) (l : List (Int × Int)) (w : World) (e : Ending) (w' : World) : Prop :=
  ∃ c a v, e = .returned (.tuple #[v, .agg #[.int .i64 c, .int .i64 a]]) ∧ SmallSpec n l 24 c a ∧ Below w.heap.size w w' ∧
    ((c ≠ 0 ∧ v = .slice none 0 0) ∨ (c = 0 ∧ ∃ N L, n = ((N : Nat) : Int) ∧ N ≤ 24 ∧ GoodGraph n l ∧ IsCqs N (adj l) L ∧ L.length ≤ 16777216 ∧ IRow w' w.heap.size v (L.map ints)))

set_option maxHeartbeats 3200000 in
set_option maxRecDepth 100000 in
theorem cliquesT_any (n : Int) (l : List (Int × Int)) (s : Value) (w : World) (h : IsEdges w s l) :
    Calls Try.prog 16 #[.agg #[.int .i64 n, s]] w (CqPost n l w) := by
  obtain ⟨ad, cap, rfl⟩ := h.form
  have St := Lib.hid (WkG.start (n := n) h)
  clear h
  go_enter Try.func16, Try.ntmps16
  go_upto_region 1 with fail
  generalize (w.alloc (Obj.cells #[.int .i64 n, .slice ad l.length cap] 24)).alloc (Obj.cells #[.int .i64 0, .int .i64 0] 27) = w1 at *
  have cn := St.out.cn
  have cs := St.out.cs
  have hlS := St.out.r.lt
  go_upto_region 2 with (go_at_call 37; refine (csmall_any n 24 l _ _ St.out.he).mono ?_; rintro e w2 ⟨c, a, hR, rfl, hb2⟩; have hz2 := hb2.size; have hb3 := upc hb2 (below1 w2 (Obj.cells #[.int .i64 c, .int .i64 a] 27)); have S2 := Lib.hid (St.out.below hb3); have HR := Lib.hid hR; have e01 := two_cells w2 (.int .i64 c) (.int .i64 a) 27; clear hR hb2)
  generalize w2.alloc (Obj.cells #[.int .i64 c, .int .i64 a] 27) = w3 at *
  obtain ⟨e0, e1⟩ := e01
  clear cn cs St
  have n1 : w.heap.size + 1 ≠ w2.heap.size := by omega
  generalize w2.heap.size = E at *
  by_cases hc : c = 0
  · subst hc
    obtain ⟨hgs, hn24, rfl⟩ : GraphSpec n l 0 0 ∧ n ≤ 24 ∧ a = 0 := by
      rcases HR.out with ⟨-, h⟩ | ⟨h1, ⟨-, h, -⟩ | ⟨h2, -, h3⟩⟩
      · exact absurd rfl h
      · cases h
      · exact ⟨h1, h2, h3⟩
    obtain ⟨hg, -⟩ := hgs.good
    obtain ⟨N, rfl⟩ := Int.eq_ofNat_of_zero_le hg.lo
    have hN : N ≤ 24 := by omega
    have Hg := Lib.hid hg
    have Hsym := Lib.hid (good_symC (l := l) (N := N))
    have Hirr := Lib.hid (good_irrC hg)
    clear hg hgs hn24
    have cn := S2.out.cn
    have cs := S2.out.cs
    have Hcq := Lib.hid (fun w5 tv (h : HasGrid w5 tv N (adj l)) => cliques_any w5 hN Hsym.out Hirr.out h)
    go_wp2_with (first
      | (go_at_call 30; refine (table_any l N _ _ S2.out.he (by omega) (good_endsC Hg.out)).mono ?_; rintro e w5 ⟨tv, rfl, hgrid, hb5⟩; have Hgrid := Lib.hid (show HasGrid w5 tv N (adj l) from ⟨_, hgrid⟩); have Hb5 := Lib.hid hb5; clear hgrid hb5)
      | (go_at_call 38; refine (Hcq.out _ _ Hgrid.out).mono ?_; rintro e w6 ⟨r, L, rfl, hL, hLl, hir, hb6⟩; have S6 := Lib.hid ((S2.out.below Hb5.out).below hb6); have Hp := Lib.hid (S6.out.put (.int .i64 0) (.int .i64 0)); obtain ⟨y0, y1, k0, k1, m0⟩ := row_facts S6.out.r; have HL := Lib.hid hL; have Hir := Lib.hid hir; have hs5 := Hb5.out.size; have hs3 := S2.out.r.lt; obtain ⟨ra, rc, rfl⟩ := hir.form; clear hL hir hb6))
    obtain ⟨p0, p1, p2⟩ := Hp.out
    exact bodyPost_ret (v := .tuple #[.slice ra (L.map ints).length rc, .agg #[.int .i64 0, .int .i64 0]]) (by simp [results, Try.results16, go_sem, p0, p1]) rfl ⟨0, 0, _, rfl, HR.out, p2, .inr ⟨rfl, N, L, rfl, hN, Hg.out, HL.out, hLl, by
      obtain ⟨vals, h1, h2⟩ := Hir.out.low (B' := w.heap.size + 2) (by omega)
      have hl : ∀ q, q < w.heap.size + 2 → ∀ k x (W : World), IRow W (w.heap.size + 2) (.slice ra (L.map ints).length rc) (L.map ints) → IRow (W.setCell ⟨q, k, none⟩ x) (w.heap.size + 2) (.slice ra (L.map ints).length rc) (L.map ints) := fun q hq k x W ⟨vs, q1, q2⟩ => ⟨vs, q1.kept (grown_set W q k x) (own_side q1 hq), fun j hj => by
        obtain ⟨r, e, ho⟩ := q2 j hj
        exact ⟨r, e, ho.kept (grown_set W q k x) (own_side ho hq)⟩⟩
      exact (hl _ (by omega) _ _ _ (hl _ (by omega) _ _ _ ⟨vals, h1, h2⟩)).low (by omega)⟩⟩
  · have q : (c != 0) = true := by simp [hc]
    have Hc := Lib.hid hc
    clear hc
    obtain ⟨y0, y1, k0, k1, m0⟩ := row_facts S2.out.r
    go_wp2
    go_region
    all_goals
      obtain ⟨p0, p1, p2⟩ := S2.out.put (.int .i64 c) (.int .i64 a)
      have p3 : True := trivial
      go_wp2
      exact bodyPost_ret (v := .tuple #[.slice none 0 0, .agg #[.int .i64 c, .int .i64 a]]) (by simp [results, Try.results16, go_sem, p0, p1]) rfl ⟨c, a, _, rfl, HR.out, p2.drew, .inl ⟨Hc.out, rfl⟩⟩

end Go.Proofs.Ytnhhohhhpaejmaa
