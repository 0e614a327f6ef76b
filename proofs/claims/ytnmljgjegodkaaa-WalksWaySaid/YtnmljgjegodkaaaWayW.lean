/- walks.Way: a way that is as short as can be. -/
import Derived.Test.YtnmljgjegodkaaaPC
import Derived.Test.YtnmljgjegodkaaaLookW
import Derived.Test.YtnmljgjegodkaaaAdjS
namespace Go.Proofs.Ytnmljgjegodkaaa
open Go.RowKit

/-- What walks.Way answers. -/
def WayPost (n : Int) (l : List (Int × Int)) (x y : Int) (w : World) (e : Ending) (w' : World) : Prop :=
  ∃ c0 a0 c a v, LookR n l [x, y] c0 a0 ∧ e = .returned (.tuple #[v, .agg #[.int .i64 c, .int .i64 a]]) ∧ Below w.heap.size w w' ∧
    ((c0 ≠ 0 ∧ c = c0 ∧ a = a0 ∧ v = .slice none 0 0) ∨ (c0 = 0 ∧ ∃ N A B : Nat, n = N ∧ x = A ∧ y = B ∧ A < N ∧ B < N ∧ GoodGraph N l ∧ ∃ F, FarOk N (adj l) B F ∧
      ((F A < 0 ∧ c = 9 ∧ a = 0 ∧ v = .slice none 0 0) ∨ (0 ≤ F A ∧ c = 0 ∧ a = 0 ∧ ∃ W, w'.ownsRow w.heap.size 3 1 v W.length (nvals W) ∧ WayL N (adj l) F A W))))
theorem ints_twoW (w : World) (a b : Int) (t : TypeId) : IsInts (w.alloc (.cells #[.int .i64 a, .int .i64 b] t)) (.slice (some ⟨w.heap.size, 0, none⟩) 2 2) [a, b] := by
  have h := World.ownsRow_lit (base := w.heap.size) (e := t) (size := 1) w #[.int .i64 a, .int .i64 b] 2 (Nat.le_refl _) (by decide) rfl
  exact IsInts.owned (l := [a, b]) h
theorem LookR.two {n : Int} {l : List (Int × Int)} {x y a : Int} (h : LookR n l [x, y] 0 a) : GoodGraph n l ∧ a = 0 ∧ (0 ≤ x ∧ x < n) ∧ 0 ≤ y ∧ y < n := by
  obtain ⟨c0, a0, hs, h⟩ := h
  rcases h with ⟨h1, h2, -⟩ | ⟨rfl, h⟩
  · exact absurd h2.symm h1
  · rcases h with ⟨i, -, -, -, h3, -⟩ | ⟨h1, -, h3⟩
    · cases h3
    · exact ⟨hs.good.1, h3, h1 0 (by simp), h1 1 (by simp)⟩

set_option maxHeartbeats 6400000 in
set_option maxRecDepth 100000 in
theorem way_any (n : Int) (l : List (Int × Int)) (x y : Int) (s : Value) (w : World) (h : IsEdges w s l) :
    Calls Try.prog 22 #[.agg #[.int .i64 n, s], .int .i64 x, .int .i64 y] w (WayPost n l x y w) := by
  obtain ⟨ad, cap, rfl⟩ := h.form
  have St := Lib.hid (WkG.start (n := n) h)
  clear h
  go_enter Try.func22, Try.ntmps22
  go_upto_region 1 with fail
  generalize (w.alloc (Obj.cells #[.int .i64 n, .slice ad l.length cap] 24)).alloc (Obj.cells #[.int .i64 0, .int .i64 0] 27) = w1 at *
  have cn := St.out.cn
  have cs := St.out.cs
  have HI := Lib.hid (ints_twoW w1 x y 3)
  have S1 := Lib.hid (St.out.below (below1 w1 (Obj.cells #[.int .i64 x, .int .i64 y] 3)))
  have hlS := St.out.r.lt
  go_upto_region 2 with (go_at_call 46; refine (wlook_any n l [x, y] _ _ _ S1.out.he HI.out (by simp)).mono ?_; rintro e w2 ⟨c, a, hR, rfl, hb2⟩; have hz2 := hb2.size; have hb3 := hb2.trans ((below1 w2 (Obj.cells #[.int .i64 c, .int .i64 a] 27)).mono hb2.size); have S2 := Lib.hid (S1.out.below hb3); have HR := Lib.hid hR; have e01 := two_cells w2 (.int .i64 c) (.int .i64 a) 27; clear hR hb2 hb3)
  rw [World.size_alloc] at hz2
  generalize w2.alloc (Obj.cells #[.int .i64 c, .int .i64 a] 27) = w3 at *
  obtain ⟨e0, e1⟩ := e01
  clear cn cs St HI S1
  have n1 : w.heap.size + 1 ≠ w2.heap.size := by omega
  generalize w2.heap.size = E at *
  by_cases hc : c = 0
  · subst hc
    obtain ⟨hg, rfl, ⟨hx0, hxn⟩, hy0, hyn⟩ := HR.out.two
    obtain ⟨N, rfl⟩ := Int.eq_ofNat_of_zero_le hg.lo
    obtain ⟨A, rfl⟩ := Int.eq_ofNat_of_zero_le hx0
    obtain ⟨B, rfl⟩ := Int.eq_ofNat_of_zero_le hy0
    have hA : A < N := by omega
    have hB : B < N := by omega
    have hN : N ≤ 100 := by have := hg.hi; omega
    have Hg := Lib.hid hg
    clear hx0 hxn hy0 hyn hg
    have cn := S2.out.cn
    have cs := S2.out.cs
    go_upto_region 6 with (first
      | (go_at_call 50; refine (glists_any Hg.out _ _ S2.out.he).mono ?_; rintro e w5 ⟨BL, V, rfl, hnb, -, hb5⟩; have Hnb := Lib.hid hnb; have S5 := Lib.hid (S2.out.below hb5); clear hnb hb5)
      | (go_at_call 51; refine (wfar_any hN (nbrs_is Hg.out).1 (nbrs_is Hg.out).2 hB w5 Hnb.out).mono ?_; rintro e w6 ⟨b6, F, rfl, hb60, hr6, hF, hb6⟩; have S6 := Lib.hid (S5.out.below hb6); have Hr6 := Lib.hid hr6; have HF := Lib.hid hF; have Hnb6 := Lib.hid (Hnb.out.below hb6); clear hr6 hF hb6))
    clear cn cs e0 e1 S2 Hnb
    have cA := Hr6.out.cell hA
    simp only [ri] at cA
    have HcA := Lib.hid cA
    have fin := fun c a v w' h1 h2 => (⟨0, 0, c, a, v, HR.out, rfl, h1, .inr ⟨rfl, N, A, B, rfl, rfl, rfl, hA, hB, Hg.out, F, HF.out, h2⟩⟩ : WayPost (N : Int) l (A : Int) (B : Int) w (.returned (.tuple #[v, .agg #[.int .i64 c, .int .i64 a]])) w')
    have Fin := Lib.hid fin
    clear fin
    by_cases hneg : F A < 0
    · have Hneg := Lib.hid hneg
      generalize hfA : F A = fA at *
      have HfA := Lib.hid hfA
      clear hfA
      obtain ⟨z0, z1, f0, f1, l0⟩ := row_facts S6.out.r
      go_wp2_with (go_at_call 48; refine (wfault_any _ _ _).mono ?_; rintro e wf ⟨rfl, rfl⟩)
      obtain ⟨p0, p1, p2⟩ := S6.out.putA (.int .i64 9) (.int .i64 0) (Obj.cells #[.int .i64 9, .int .i64 0] 27)
      exact bodyPost_ret (v := .tuple #[.slice none 0 0, .agg #[.int .i64 9, .int .i64 0]]) (by simp [results, Try.results22, go_sem, p0, p1]) rfl (Fin.out 9 0 _ _ p2 (.inl ⟨HfA.out ▸ Hneg.out, rfl, rfl, rfl⟩))
    · have hpos : 0 ≤ F A := by omega
      have hnl : ¬ F A < 0 := by omega
      have Hpos := Lib.hid hpos
      generalize hfA : F A = fA at *
      have HfA := Lib.hid hfA
      clear hfA
      go_upto_region 10 with fail
      have hlit := World.ownsRow_lit (base := w6.heap.size) (e := 3) (size := 1) w6 #[.int .i64 (A : Int)] 1 (Nat.le_refl _) (by decide) rfl
      have Hlit := Lib.hid hlit
      have Hb7 := Lib.hid (below1 w6 (.cells #[.int .i64 (A : Int)] 3))
      have W0 := Lib.hid (WyI.start (G := adj l) (F := F) hA (by rw [HfA.out]; exact hpos))
      clear hlit
      generalize w6.alloc (.cells #[.int .i64 (A : Int)] 3) = w7 at *
      generalize Value.slice (some ⟨w6.heap.size, 0, none⟩) 1 1 = vq at *
      clear cA hnl
      go_loopg [11, 12] fA.toNat (fun g s11 s12 wr => ∃ (W : List Nat) (v : Nat), wr.ownsRow w6.heap.size 3 1 s11 W.length (nvals W) ∧ s12 = .int .i64 (v : Int) ∧ WyI N (adj l) F A W v ∧ (g : Int) = F v ∧ Below w6.heap.size w6 wr)
      case atStart => exact ⟨[A], A, Hlit.out, rfl, W0.out, by rw [HfA.out]; omega, Hb7.out⟩
      case round =>
        clear Hlit Hb7 W0
        obtain ⟨W, v, ho, rfl, hW, hg, hb⟩ := hrel
        have hv := hW.lt
        have Ho := Lib.hid ho; have HW := Lib.hid hW; have Hgg := Lib.hid hg; have Hb := Lib.hid hb
        obtain ⟨aW, cW, rfl⟩ := ownsRow_form ho
        have Sr := Lib.hid (S6.out.below hb)
        by_cases hvB : v = B
        · subst hvB
          obtain ⟨z0, z1, f0, f1, l0⟩ := row_facts Sr.out.r
          obtain ⟨p0, p1, p2⟩ := Sr.out.put (.int .i64 0) (.int .i64 0)
          clear ho hW hg hb
          have hzF := S6.out.r.lt
          have HIW := Lib.hid (ownsRow_low (b' := w.heap.size) ((Ho.out.kept (grown_set wr (w.heap.size + 1) 0 (.int .i64 0)) (own_side Ho.out hzF)).kept (grown_set _ (w.heap.size + 1) 1 (.int .i64 0)) (own_side Ho.out hzF)) (by omega))
          go_wp2
          exact bodyPost_ret (v := .tuple #[.slice aW W.length cW, .agg #[.int .i64 0, .int .i64 0]]) (by simp [results, Try.results22, go_sem, p0, p1]) rfl (Fin.out 0 0 _ _ p2 (.inr ⟨by first | exact Hpos.out | (rw [HfA.out]; exact Hpos.out), rfl, rfl, W, HIW.out, HW.out.done HF.out.at'⟩))
        · have hne : ((v : Int) == (B : Int)) = false := by rw [beq_eq_false_iff_ne]; omega
          have hnbr := Hnb6.out.below hb
          obtain ⟨av, cv, ev⟩ := hnbr.form hv
          have t1 := hnbr.ro.cell hv
          rw [ev] at t1
          have Hev := Lib.hid ev
          have Hnbr := Lib.hid hnbr
          have hnl := (nbrs_is Hg.out).2 v hv
          have hFv := HF.out.rng v hv
          have hFp := hW.pos
          have hlenW := hW.len
          clear ho hW hg hb hnbr ev
          generalize hnv : (nbrs l N v).length = nv at *
          have Hnv := Lib.hid hnv
          clear hnv
          generalize hfv : F v = fv at *
          have Hfv := Lib.hid hfv
          clear hfv
          go_upto_region 12 with fail
          clear t1
          obtain ⟨w8, rfl⟩ : ∃ w8 : World, w8 = wr := ⟨_, rfl⟩
          go_loopg [12, 46] nv (fun g s12 s46 wi => ∃ j : Nat, j ≤ nv ∧ g = nv - j ∧ s12 = .int .i64 (v : Int) ∧ s46 = .int .i64 (j : Int) ∧ Below w8.heap.size w8 wi ∧ ∀ i, i < j → F ((nbrs l N v).getD i 0) ≠ fv - 1)
          case atStart => exact ⟨0, Nat.zero_le _, rfl, rfl, rfl, Below.refl _ _, fun i h => absurd h (Nat.not_lt_zero _)⟩
          case round =>
            obtain ⟨j, hj, rfl, rfl, rfl, hb, hno⟩ := hrel
            have Hno := Lib.hid hno
            have Hbi := Lib.hid (Hb.out.trans (hb.mono Hb.out.size))
            have Hb8 := Lib.hid hb
            by_cases hlt : j < nv
            · obtain ⟨gu, cu, eu, hcu⟩ := (Hnbr.out.below hb).lookR hv (show j < (nbrs l N v).length by rw [Hnv.out]; exact hlt)
              obtain ⟨rfl, rfl⟩ : av = some ⟨gu, 0, none⟩ ∧ cv = cu := by
                have := Hev.out.symm.trans eu
                simp only [Value.slice.injEq] at this
                exact ⟨this.1, this.2.2⟩
              have hu : (nbrs l N v).getD j 0 < N := by
                have hj' : j < (nbrs l N v).length := by rw [Hnv.out]; exact hlt
                refine (((nbrs_is Hg.out).1 v hv _).1 ?_).1
                rw [List.getD, List.getElem?_eq_getElem hj']
                exact List.getElem_mem hj'
              have hrr := Hr6.out.of_block (Hbi.out.block _ Hr6.out.lt)
              have c1 := hrr.cell hu
              have c2 := hrr.cell hv
              simp only [ri] at c1 c2
              rw [Hfv.out] at c2
              have hFu := HF.out.rng _ hu
              have Hfirst := Lib.hid (fun hit => nbrs_first (show j < (nbrs l N v).length by rw [Hnv.out]; exact hlt) (F := F) hit (fun i hi => by rw [Hfv.out]; exact Hno.out i hi))
              have hw : IntKind.i64.wrap (fv - 1) = fv - 1 := wrap_midF (by omega) (by omega)
              clear hno hb hrr eu
              generalize hue : (nbrs l N v).getD j 0 = u at *
              have Hue := Lib.hid hue
              clear hue
              generalize hfu : F u = fu at *
              have Hfu := Lib.hid hfu
              clear hfu
              by_cases hit : fu = fv - 1
              · have hit2 : (fu == fv - 1) = true := by rw [beq_iff_eq]; exact hit
                have Hn := Lib.hid (HW.out.more (Hfirst.out (by rw [Hfv.out]; exact hit)) (by
                  rw [Hfu.out, hit]
                  have : fv ≠ 0 := fun e => hvB (HF.out.zero v hv (by rw [Hfv.out]; exact e))
                  omega))
                have Hit := Lib.hid hit
                have HbN := Lib.hid (fun n o => (Below.drewN' Hbi.out n).alloc (Below.drewN' Hbi.out n).size o)
                have HoN := Lib.hid (fun n o => ownsRow_below Ho.out ((Below.drewN' Hb8.out n).alloc (Below.drewN' Hb8.out n).size o) (Nat.le_refl _))
                have hW2 : W.length ≤ 1000 := by have := HF.out.rng A hA; omega
                clear hit
                go_upto_region 14 with fail
                go_quiet (fail)
                go_wp2_with (at_builtin; refine wpList_append_has rfl (.tmp 62) (.tmp 64) 29 rfl w6.heap.size 3 (.int .i64 0) 8 Try.underlying29 info3 rfl (.slice aW W.length cW) W.length (nvals W) rfl (HoN.out _ _) _ 1 (nvals [u]) rfl (HasCells.one _ _ _ rfl) (by omega) (by omega) (HbN.out _ _).size ?_; intro a5 c5 w5' ho5 hg5; have Ho5 := Lib.hid ho5; have Hb5 := Lib.hid ((HbN.out _ _).grown hg5 (HbN.out _ _).size (fun g e => (Ho.out.lt g e).1)); clear ho5 hg5)
                go_roundg fu.toNat
                case measure => have h1 := Hgg.out; have h2 := Hn.out.pos; (try rw [Hfv.out] at h1); (try rw [Hfu.out] at h2); have := Hit.out; omega
                case rel => exact ⟨W ++ [u], u, by rw [List.length_append, List.length_singleton]; have h := Ho5.out; rw [show nvals (W ++ [u]) = nvals W ++ nvals [u] by simp [nvals, ints]]; exact h, rfl, Hn.out, by have h2 := Hn.out.pos; (try rw [Hfu.out] at h2 ⊢); omega, Hb5.out⟩
              · have hit2 : (fu == fv - 1) = false := by rw [beq_eq_false_iff_ne]; exact hit
                have Hit := Lib.hid hit
                clear hit
                go_upto_region 14 with fail
                go_quiet (fail)
                go_wp2
                go_roundg (nv - (j + 1))
                case measure => go_light; omega
                case rel => exact ⟨j + 1, by omega, rfl, rfl, by go_num, Below.drewN' Hb8.out _, fun i hi => by
                  by_cases e : i = j
                  · subst e; rw [Hue.out, Hfu.out]; exact Hit.out
                  · exact Hno.out i (by omega)⟩
            · obtain rfl : j = nv := by omega
              exfalso
              have hp : 0 < F v := by
                have : F v ≠ 0 := fun e => hvB (HF.out.zero v hv e)
                rw [Hfv.out] at this ⊢
                omega
              obtain ⟨u, hu, hFu, hG⟩ := HF.out.par v hv hp
              have hm := ((nbrs_is Hg.out).1 v hv u).2 ⟨hu, by rw [adj_sy]; exact hG⟩
              obtain ⟨i, hi, e⟩ := List.getElem_of_mem hm
              have e2 : (nbrs l N v).getD i 0 = u := by rw [List.getD, List.getElem?_eq_getElem hi]; exact e
              exact hno i (by rw [← Hnv.out]; exact hi) (by rw [e2, hFu, Hfv.out])
  · have q : (c != 0) = true := by simpa using hc
    obtain ⟨z0, z1, f0, f1, l0⟩ := row_facts S2.out.r
    obtain ⟨p0, p1, p2⟩ := S2.out.put (.int .i64 c) (.int .i64 a)
    have p3 : (w3.setCell ⟨w.heap.size + 1, 0, none⟩ (.int .i64 c)).cell? ⟨w.heap.size + 1, 0, none⟩ = some (.int .i64 c) := (S2.out.r.set 0 (.int .i64 c)).cell (show 0 < 2 by omega)
    have Hc := Lib.hid hc
    clear hc
    go_upto_region 3 with fail
    go_region
    all_goals
      go_wp2
      exact bodyPost_ret (v := .tuple #[.slice none 0 0, .agg #[.int .i64 c, .int .i64 a]]) (by simp [results, Try.results22, go_sem, p0, p1, p3]) rfl ⟨c, a, c, a, _, HR.out, rfl, p2.drew, .inl ⟨Hc.out, rfl, rfl, rfl⟩⟩

end Go.Proofs.Ytnmljgjegodkaaa
