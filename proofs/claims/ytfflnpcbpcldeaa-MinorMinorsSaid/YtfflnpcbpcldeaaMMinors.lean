/- arborlaw.MinorMinors answers true; its row. -/
import Derived.Test.YtfflnpcbpcldeaaSets
import Derived.Test.YtfflnpcbpcldeaaMBegun
import Derived.Test.YtfflnpcbpcldeaaRows
import Derived.Test.YtfflnpcbpcldeaaOpenG
namespace Go.Proofs.Ytfflnpcbpcldeaa
section
open Go.RowKit

/-- What minor.Minor tells of two graphs. -/
noncomputable def minorG (n : Int) (l : List (Int × Int)) (m : Int) (k : List (Int × Int)) (c : Int) : Option (List Nat) := if c = 0 then minorF n.toNat m.toNat l k else none

theorem minor_is {n : Int} {l : List (Int × Int)} {m : Int} {k : List (Int × Int)} {c a : Int} (hs : FewSpec n l m k c a) (s t : Value) (w : World) (h : IsEdges w s l) (h' : IsEdges w t k) :
    Calls Try.prog 34 #[.agg #[.int .i64 n, s], .agg #[.int .i64 m, t]] w (MinorPost n.toNat (minorG n l m k c) c a w) := by
  unfold minorG
  by_cases hc : c = 0
  · subst hc
    obtain ⟨g1, g2, -, -, rfl⟩ := hs.good
    obtain ⟨N, rfl⟩ := Int.eq_ofNat_of_zero_le g1.lo
    obtain ⟨M, rfl⟩ := Int.eq_ofNat_of_zero_le g2.lo
    rw [if_pos rfl]
    exact minor_ok hs s t w h h'
  · rw [if_neg hc]
    exact minor_bad n.toNat hs hc s t w h h'

set_option maxHeartbeats 6400000 in
set_option maxRecDepth 100000 in
theorem mminors_any (n m : Int) (l k : List (Int × Int)) (hl : l.length * 16 ≤ 140737488351232) (hl' : k.length * 16 ≤ 140737488351232)
    (s t : Value) (w : World) (h : IsEdges w s l) (h' : IsEdges w t k) :
    Calls Try.prog 6 #[.agg #[.int .i64 n, s], .agg #[.int .i64 m, t]] w fun e w' => e = .returned (.bool true) ∧ Below w.heap.size w w' := by
  obtain ⟨ad, cap, rfl⟩ := h.form
  obtain ⟨ad', cap', rfl⟩ := h'.form
  obtain ⟨c, a, hs⟩ := FewSpec.ex n l m k
  have Hs := Lib.hid hs
  have St := Lib.hid (TwoSt.start (n := n) (m := m) h h')
  clear hs h h'
  go_enter Try.func6, Try.ntmps6
  go_upto_region 1 with fail
  generalize (w.alloc (Obj.cells #[.int .i64 n, .slice ad l.length cap] 24)).alloc (Obj.cells #[.int .i64 m, .slice ad' k.length cap'] 24) = w1 at *
  have S1 := Lib.hid (St.out.below (Below.refl _ _).drew)
  refine two_calls (obj := Obj.cells #[.int .i64 0, .slice none 0 0] 24) (x := .agg #[.int .i64 n, .slice ad l.length cap]) (y := .agg #[.int .i64 m, .slice ad' k.length cap']) (pA := .pointer (some ⟨w.heap.size, 0, none⟩)) (pB := .pointer (some ⟨w.heap.size + 1, 0, none⟩))
    (RA := GraphIn n l) (RB := GraphIn m k) ?hT (by kernel_rfl) (GraphIn.stays _ _) (GraphIn.stays _ _) eg_own eg_own ?hal rfl rfl ?hlA ?hlB ?hcA ?hcB rfl (by kernel_rfl) (by kernel_rfl) (by kernel_rfl) (by kernel_rfl) ?h
  case hT => constructor <;> simp
  case hal => intro wx; go_simp
  case hlA =>
    intro wx hb
    have h1 := (S1.out.below hb).cn
    have h2 := (S1.out.below hb).cs
    go_simp
  case hlB =>
    intro wx hb
    have h1 := (S1.out.below hb).dm
    have h2 := (S1.out.below hb).dt
    go_simp
  case hcA =>
    intro wx hb
    exact (own_any l n _ wx ((S1.out.below hb).he) hl).mono fun _ _ h => h.inside
  case hcB =>
    intro wx hb
    exact (own_any k m _ wx ((S1.out.below hb).hf) hl').mono fun _ _ h => h.inside
  case h =>
    intro X Y vA vB BA TA BB TB w4 hI
    simp only [ptr]
    obtain ⟨⟨p, rfl, hpe⟩, -⟩ := hI.hA rfl
    obtain ⟨⟨q, rfl, hqe⟩, -⟩ := hI.hB rfl
    obtain ⟨ap, cp, rfl⟩ := hpe.1.form
    obtain ⟨aq, cq, rfl⟩ := hqe.1.form
    have rX := row_of_block (hI.hX rfl).1
    have rY := row_of_block (hI.hY rfl).1
    have hXY : X ≠ Y := hI.xy rfl rfl
    have hYX : Y ≠ X := Ne.symm hXY
    have E2 := Lib.hid (own_two S1.out hI rX rY)
    obtain ⟨z0, z1, f0, f1, l0⟩ := row_facts rX
    obtain ⟨y0, y1, g0, g1, l1⟩ := row_facts rY
    clear hI hpe hqe rX rY
    go_upto_region 2 with fail
    clear z0 z1 f0 f1 l0 y0 y1 g0 g1 l1
    generalize (((w4.setCell ⟨X, 0, none⟩ (.int .i64 n)).setCell ⟨X, 1, none⟩ (.slice ap l.length cp)).setCell ⟨Y, 0, none⟩ (.int .i64 m)).setCell ⟨Y, 1, none⟩ (.slice aq k.length cq) = w5 at *
    obtain ⟨u0, u1, u2, u3, u4, u5, u6, u7, u8, u9, u10, u11⟩ := E2.out.facts
    go_wp2_with fail
    refine (twoFault_is Hs.out _ _ w5 E2.out.ts.he E2.out.ts.hf).mono ?_
    rintro e w6 ⟨rfl, hb6⟩
    have E6 := Lib.hid ((E2.out.below hb6).below (below1 w6 (Obj.cells #[.int .i64 c, .int .i64 a] 27)))
    have F6 := Lib.hid (VarF.new w6 c a 27)
    clear u0 u1 u2 u3 u4 u5 u6 u7 u8 u9 u10 u11 hb6
    go_upto_region 3 with fail
    generalize w6.heap.size = F at *
    generalize w6.alloc (Obj.cells #[.int .i64 c, .int .i64 a] 27) = w7 at *
    obtain ⟨u0, u1, u2, u3, u4, u5, u6, u7, u8, u9, u10, u11⟩ := E6.out.facts
    go_wp2_with fail
    refine (minor_is Hs.out _ _ w7 E6.out.hx.he E6.out.hy.he).mono ?_
    rintro e w8 ⟨hb8, hr8⟩
    have E8 := Lib.hid ((E6.out.below hb8).below (below1 w8 (Obj.cells #[.int .i64 c, .int .i64 a] 27)))
    have F8 := Lib.hid ((F6.out.below hb8).below (below1 w8 (Obj.cells #[.int .i64 c, .int .i64 a] 27)))
    have G8 := Lib.hid (VarF.new w8 c a 27)
    have B8 := Lib.hid (below1 w8 (Obj.cells #[.int .i64 c, .int .i64 a] 27))
    clear u0 u1 u2 u3 u4 u5 u6 u7 u8 u9 u10 u11 hb8
    have hcase : ∃ (o : Option (List Nat)) (v : Value) (b : Bool), minorG n l m k c = o ∧ (b = o.isSome) ∧ (∀ r, o = some r → IsRows w8 v (r.map fun s => ints (bitsTo s n.toNat))) ∧ (o = none → v = .slice none 0 0) ∧ e = .returned (.tuple #[v, .bool b, .agg #[.int .i64 c, .int .i64 a]]) ∧ ∃ va vn vc, v = .slice va vn vc := by
      rcases hr8 with ⟨r, v, hr, rfl, hi⟩ | ⟨hr, rfl⟩
      · obtain ⟨va, vc, vb, vo, rfl, -⟩ := id hi
        exact ⟨some r, _, true, hr, rfl, fun r' h => by cases h; exact hi, (fun h => by cases h), rfl, _, _, _, rfl⟩
      · exact ⟨none, _, false, hr, rfl, (fun r' h => by cases h), fun _ => rfl, rfl, _, _, _, rfl⟩
    obtain ⟨o, v, b, ho, hbo, hv1, hv2, rfl, va, vn, vc, rfl⟩ := hcase
    have Ho := Lib.hid ho
    have Hbo := Lib.hid hbo
    have hv1' : ∀ r, o = some r → IsRows (w8.alloc (Obj.cells #[.int .i64 c, .int .i64 a] 27)) (.slice va vn vc) (r.map fun s => ints (bitsTo s n.toNat)) := fun r h => (hv1 r h).below (below1 _ _)
    have Hv1 := Lib.hid hv1'
    clear hv1'
    have Hv2 := Lib.hid hv2
    clear ho hbo hv1 hv2 hr8
    go_upto_region 4 with fail
    generalize w8.heap.size = G at *
    generalize hw9 : w8.alloc (Obj.cells #[.int .i64 c, .int .i64 a] 27) = w9 at *
    clear hw9
    go_wp2_with fail
    refine (minorBegun_any w9).mono ?_
    rintro e w10 ⟨rfl, hb10⟩
    have E10 := Lib.hid (E8.out.below hb10)
    have F10 := Lib.hid (F8.out.below hb10)
    have G10 := Lib.hid (G8.out.below hb10)
    have B10 := Lib.hid hb10
    clear hb10
    obtain ⟨u0, u1, u2, u3, u4, u5, u6, u7, u8, u9, u10, u11⟩ := E10.out.facts
    have x0 := F10.out.c0
    have x1 := F10.out.c1
    have g0 := G10.out.c0
    have g1 := G10.out.c1
    go_wp2_with fail
    refine (kept_is (decide_eq_true ⟨rfl, rfl⟩) _ _ _ E10.out.hx.he E10.out.ts.he).mono ?_
    rintro e w11 ⟨rfl, hb11⟩
    clear u0 u1 u2 u3 u4 u5 u6 u7 u8 u9 u10 u11 x0 x1 g0 g1
    have E11 := Lib.hid (E10.out.below hb11)
    have F11 := Lib.hid (F10.out.below hb11)
    have B11 := Lib.hid (upb B10.out hb11)
    clear hb11
    obtain ⟨u0, u1, u2, u3, u4, u5, u6, u7, u8, u9, u10, u11⟩ := E11.out.facts
    go_wp2_with fail
    refine (kept_is (decide_eq_true ⟨rfl, rfl⟩) _ _ _ E11.out.hy.he E11.out.ts.hf).mono ?_
    rintro e w12 ⟨rfl, hb12⟩
    clear u0 u1 u2 u3 u4 u5 u6 u7 u8 u9 u10 u11
    have E12 := Lib.hid (E11.out.below hb12)
    have F12 := Lib.hid (F11.out.below hb12)
    have B12 := Lib.hid (upb B11.out hb12)
    clear hb12
    have x0 := F12.out.c0
    by_cases hc : c = 0
    · subst hc
      obtain ⟨g1, g2, hN, hM, -⟩ := Hs.out.good
      obtain ⟨N, rfl⟩ := Int.eq_ofNat_of_zero_le g1.lo
      obtain ⟨M, rfl⟩ := Int.eq_ofNat_of_zero_le g2.lo
      have ho2 : minorF N M l k = o := by
        have := Ho.out
        unfold minorG at this
        rw [if_pos rfl] at this
        exact this
      have Ho2 := Lib.hid ho2
      have hok : ∀ j, j < l.length → EndsOk (N : Int) (l.getD j (0, 0)) ∧ (l.getD j (0, 0)).1 ≠ (l.getD j (0, 0)).2 := fun j hj => ⟨(g1.fine j hj).1, (g1.fine j hj).2.1⟩
      have hok' : ∀ j, j < k.length → EndsOk (M : Int) (k.getD j (0, 0)) ∧ (k.getD j (0, 0)).1 ≠ (k.getD j (0, 0)).2 := fun j hj => ⟨(g2.fine j hj).1, (g2.fine j hj).2.1⟩
      have Hok := Lib.hid hok
      have Hok' := Lib.hid hok'
      have hN10 : N ≤ 10 := by omega
      have hM6 : M ≤ 6 := by omega
      have G1 := Lib.hid g1
      have G2 := Lib.hid g2
      clear g1 g2 hok hok' hN hM ho2
      cases o with
      | some S =>
        obtain ⟨m1, m2, m3, m4⟩ := minorF_has Ho2.out
        have hr1 := ((Hv1.out S rfl).below B12.out)
        have M1 := Lib.hid m1
        have M3 := Lib.hid m3
        have M4 := Lib.hid m4
        have Hr1 := Lib.hid hr1
        have hb0 := Hbo.out
        subst hb0
        have t0 := E12.out.ts.cn
        have t1 := E12.out.ts.cs
        have t2 := E12.out.ts.dm
        have t3 := E12.out.ts.dt
        clear m1 m2 m3 m4 hr1
        go_wp2_with fail
        refine (sets_yes G1.out G2.out hN10 hM6 M1.out M3.out M4.out _ _ _ w12 E12.out.ts.he E12.out.ts.hf Hr1.out).mono ?_
        rintro e w13 ⟨rfl, hb13⟩
        go_wp2
        go_ret
        exact ⟨rfl, upb E12.out.ts.hb hb13⟩
      | none =>
        have hv := Hv2.out rfl
        simp only [Value.slice.injEq] at hv
        obtain ⟨rfl, rfl, rfl⟩ := hv
        have hb0 := Hbo.out
        subst hb0
        have Hno := Lib.hid (fun (L : List Nat) (h : L.length = N) (_ : ∀ x ∈ L, x ≤ M) => minorF_not Ho2.out L h)
        go_upto_region 12 with fail
        clear x0
        have t0 := E12.out.ts.cn
        have t2 := E12.out.ts.dm
        by_cases h6 : 6 < N
        · have p1 : decide ((6 : Int) < (N : Int)) = true := decide_eq_true (by omega)
          go_quiet (fail)
          go_wp2
          go_ret
          exact ⟨rfl, Below.drewN' E12.out.ts.hb _⟩
        · by_cases h4 : 4 < M
          · have p1 : decide ((6 : Int) < (N : Int)) = false := decide_eq_false (by omega)
            have p2 : decide ((4 : Int) < (M : Int)) = true := decide_eq_true (by omega)
            go_quiet (fail)
            go_wp2
            go_ret
            exact ⟨rfl, Below.drewN' E12.out.ts.hb _⟩
          · have p1 : decide ((6 : Int) < (N : Int)) = false := decide_eq_false (by omega)
            have p2 : decide ((4 : Int) < (M : Int)) = false := decide_eq_false (by omega)
            have q0 : Own4 w.heap.size (N : Int) (.slice ad l.length cap) (M : Int) (.slice ad' k.length cap') w12.drew := E12.out.ts.own4
            have hd : Below w12.heap.size w12 w12.drew := (Below.refl _ _).drew
            clear t0 t2
            go_region_held3 (fun w' => w'.cell? ⟨w.heap.size, 0, none⟩ = some (.int .i64 (N : Int)) ∧ w'.cell? ⟨w.heap.size, 1, none⟩ = some (.slice ad l.length cap) ∧ w'.cell? ⟨w.heap.size + 1, 0, none⟩ = some (.int .i64 (M : Int)) ∧ w'.cell? ⟨w.heap.size + 1, 1, none⟩ = some (.slice ad' k.length cap'))
              (first | with_reducible exact q3 | with_reducible exact q2 | with_reducible exact q1 | exact q0)
              (first
                | (go_at_call_of 17 (Value.agg #[.int .i64 (N : Int), .slice ad l.length cap]); (refine (gridOf_any l N (.slice ad l.length cap) _ (E12.out.ts.he.below hd) (by omega) Hok.out).mono ?_; rintro e wp ⟨v1, rfl, hg1, hb1⟩; obtain ⟨a1, c1, rfl⟩ := HasGrid.form ⟨_, hg1⟩; have h01 : Below w12.heap.size w12 wp := upb hd hb1; have q1 := Own4.below E12.out.ts.own4 h01))
                | (go_at_call_of 17 (Value.agg #[.int .i64 (M : Int), .slice ad' k.length cap']); refine (gridOf_any k M (.slice ad' k.length cap') _ (E12.out.ts.hf.below h01) (by omega) Hok'.out).mono ?_; rintro e wq ⟨v2, rfl, hg2, hb2⟩; obtain ⟨a2, c2, rfl⟩ := HasGrid.form ⟨_, hg2⟩; have h02 : Below w12.heap.size w12 wq := upb h01 hb2; have q2 := Own4.below E12.out.ts.own4 h02)
                | (go_at_call 37; refine (refMinor_no N M (adj l) (adj k) (by omega) (by omega) _ _ _ (HasGrid.below ⟨_, hg1⟩ hb2) ⟨_, hg2⟩ Hno.out).mono ?_; rintro e wr ⟨rfl, hb3⟩; have h03 : Below w12.heap.size w12 wr := upb h02 hb3; have q3 := Own4.below E12.out.ts.own4 h03))
            have E13 := Lib.hid (E12.out.ts.below h03)
            clear q0 hd hg1 hg2 hb1 hb2 hb3 h01 h02 h03 q1 q2 q3
            go_wp2
            go_ret
            exact ⟨rfl, E13.out.hb⟩
    · have q : (c != 0) = true := by simpa using hc
      have ho2 : o = none := by
        have := Ho.out
        unfold minorG at this
        rw [if_neg hc] at this
        exact this.symm
      subst ho2
      have hv := Hv2.out rfl
      simp only [Value.slice.injEq] at hv
      obtain ⟨rfl, rfl, rfl⟩ := hv
      have hb0 := Hbo.out
      subst hb0
      clear hc
      go_wp2
      go_ret
      exact ⟨rfl, E12.out.ts.hb⟩

end

section
open Go.ChangeShapes Go.WideShapes Go.ChangeAt Go.RowKit Go.Deep

set_option maxHeartbeats 1600000 in
set_option maxRecDepth 100000 in
theorem minorMinors_lifted (os : Os) (started : os.Started) (H : Type) (enc : TypeId × Value → H) :
    ReturnsInHanded {} Try.checked os 6 .any (Rows.minorMinorsSpec.pre6 enc Try.prog Try.f6 Rows.minorMinorsRow.domain false) (Rows.minorMinorsSpec.post enc Try.prog Try.f6 false true false false) := by
  refine returnsInHanded_of_change_sized (C := Try.checked) Try.own started (by kernel_rfl) Try.func6
    (ChangeSpec.witness6 (enc := enc) (C := Try.checked) false ⟨#[], #[.agg #[.int .i64 0, .slice none 0 0], .agg #[.int .i64 0, .slice none 0 0]], []⟩ 8 (by kernel_rfl) (by kernel_rfl) (by kernel_rfl) (by kernel_rfl)) ?_
  intro W base args ds gs before hval0 hW _ hsz0 _
  have hsz : (DataW.weightsEach Try.prog (Try.f6.params.toList ++ Rows.minorMinorsSpec.plain.varTypes Try.prog) (ds ++ gs)).all (· ≤ reachBytes) = true := hsz0
  clear hsz0
  have hval : ∀ (j : Nat) t v, Try.f6.params[j]? = some t → args[j]? = some v → Value.okWide Try.prog W .any base t v := hval0
  have hW' := hW
  obtain ⟨p, q, hA0, hV, rfl, hfz, _⟩ := hW
  have hA : DataW.TrodAll enc Try.prog W 0 (fun _ => true) true Try.f6.params.toList args.toList ds p := hA0
  rw [Try.params6] at hA hval hsz
  obtain ⟨v0, v1, d0, d1, p0, p1, rfl, rfl, rfl, h0, h1⟩ := trodAll_two hA
  obtain ⟨rfl, rfl⟩ := trodVars_none hV
  clear hA0 hval0 hA
  simp only [List.append_nil] at hW' hfz hsz
  have hlt0 : ∀ x ∈ p0, x.block < W.heap.size := fun x hx => hW'.lt x (by simp [hx])
  have hlt1 : ∀ x ∈ p1, x.block < W.heap.size := fun x hx => hW'.lt x (by simp [hx])
  obtain ⟨n, s, l, rfl, hl, hl1⟩ := graph_of_trod (hval 0 24 v0 rfl rfl) h0 hsz (j := 0) rfl rfl
  obtain ⟨m, t, k, rfl, hk, hk1⟩ := graph_of_trod (hval 1 24 v1 rfl rfl) h1 hsz (j := 1) rfl rfl
  refine (mminors_any n m l k hl1 hk1 s t W hl hk).mono fun e W' ⟨he, hb⟩ => ?_
  subst he
  exact ⟨_, rfl, _, _, _, [], _, [], hW', trodAll_mk1 (shut_bool Try.underlying4 true), trodAll_mk2 (Below.trod Try.laidOut (by kernel_rfl) (of_decide_eq_true (by kernel_rfl)) h0 hb hlt0) (Below.trod Try.laidOut (by kernel_rfl) (of_decide_eq_true (by kernel_rfl)) h1 hb hlt1), rfl, hb.frame _, fun h => by cases h⟩

theorem minorMinors_holds : Rows.MinorMinorsSaid :=
  OpenClaim.holds_of_wide 6 Try.f6 rfl rfl rfl rfl rfl rfl rfl ⟨rfl, rfl, rfl, rfl, rfl⟩ rfl rfl rfl rfl rfl (by kernel_rfl) Try.func6 (by kernel_rfl)
    (of_decide_eq_true (by kernel_rfl)) (by unfold Func.isWrapper; rw [if_neg (of_decide_eq_false (by kernel_rfl))]; exact ⟨rfl, rfl⟩)
    (fun os started H enc _ => minorMinors_lifted os started H enc)

end

end Go.Proofs.Ytfflnpcbpcldeaa
