/- graph.Induced. -/
import Derived.Test.YtbnbhjeknocboaaIndF
import Derived.Test.YtbnbhjeknocboaaKept
namespace Go.Proofs.Ytbnbhjeknocboaa
open Go.RowKit

/-- What graph.Induced finds: its own variables. -/
structure ISt (w wr : World) (n : Int) (s u : Value) : Prop where
  hb : Below w.heap.size w wr
  gb : wr.rowIs w.heap.size 24 2 (fun i => if i = 0 then .int .i64 n else s)
  ub : wr.rowIs (w.heap.size + 1) 25 1 (fun _ => u)
  r0 : wr.rowIs (w.heap.size + 1 + 1) 24 2 (fun i => if i = 0 then .int .i64 0 else .slice none 0 0)
  r1 : wr.rowIs (w.heap.size + 1 + 1 + 1) 28 2 (fun i => if i = 0 then .int .i64 0 else .int .i64 0)
theorem one_row (w : World) (c : Value) (T : TypeId) : (w.alloc (Obj.cells #[c] T)).rowIs w.heap.size T 1 (fun _ => c) :=
  World.rowIs_alloc w #[c] T _ (fun i hi => by
    match i, hi with
    | 0, _ => rfl)
theorem ISt.start (w : World) (n : Int) (s u : Value) : ISt w ((((w.alloc (Obj.cells #[.int .i64 n, s] 24)).alloc (Obj.cells #[u] 25)).alloc (Obj.cells #[.int .i64 0, .slice none 0 0] 24)).alloc (Obj.cells #[.int .i64 0, .int .i64 0] 28)) n s u := by
  have h0 := two_row w (.int .i64 n) s 24
  have h1 := one_row (w.alloc (Obj.cells #[.int .i64 n, s] 24)) u 25
  have h2 := two_row ((w.alloc (Obj.cells #[.int .i64 n, s] 24)).alloc (Obj.cells #[u] 25)) (.int .i64 0) (.slice none 0 0) 24
  have h3 := two_row (((w.alloc (Obj.cells #[.int .i64 n, s] 24)).alloc (Obj.cells #[u] 25)).alloc (Obj.cells #[.int .i64 0, .slice none 0 0] 24)) (.int .i64 0) (.int .i64 0) 28
  rw [World.size_alloc] at h1
  rw [World.size_alloc, World.size_alloc] at h2
  rw [World.size_alloc, World.size_alloc, World.size_alloc] at h3
  exact ⟨((below2 _ _ _).alloc (by simp; omega) _).alloc (by simp; omega) _, ((h0.alloc _).alloc _).alloc _, (h1.alloc _).alloc _, h2.alloc _, h3⟩
theorem ISt.below {w wr w' : World} {n : Int} {s u : Value} (h : ISt w wr n s u) (hb : Below wr.heap.size wr w') : ISt w w' n s u :=
  ⟨h.hb.trans (hb.mono h.hb.size), h.gb.of_block (hb.block _ h.gb.lt), h.ub.of_block (hb.block _ h.ub.lt), h.r0.of_block (hb.block _ h.r0.lt), h.r1.of_block (hb.block _ h.r1.lt)⟩
theorem ISt.set {w wr : World} {n : Int} {s u : Value} (h : ISt w wr n s u) {S : Nat} (hS : w.heap.size + 1 + 1 + 1 < S) (k : Nat) (x : Value) : ISt w (wr.setCell ⟨S, k, none⟩ x) n s u :=
  ⟨h.hb.setCell (p := ⟨S, k, none⟩) (by show w.heap.size ≤ S; omega) _, h.gb.setOther (a := ⟨S, k, none⟩) (show w.heap.size ≠ S by omega) _, h.ub.setOther (a := ⟨S, k, none⟩) (show w.heap.size + 1 ≠ S by omega) _, h.r0.setOther (a := ⟨S, k, none⟩) (show w.heap.size + 1 + 1 ≠ S by omega) _, h.r1.setOther (a := ⟨S, k, none⟩) (show w.heap.size + 1 + 1 + 1 ≠ S by omega) _⟩
theorem ISt.drew {w wr : World} {n : Int} {s u : Value} (h : ISt w wr n s u) (q : Nat) : ISt w (wr.drewN q) n s u := ⟨Below.drewN' h.hb q, h.gb, h.ub, h.r0, h.r1⟩
/-- The facts, in plain sight. -/
theorem ISt.facts {w wr : World} {n : Int} {s u : Value} (h : ISt w wr n s u) :
    wr.cell? ⟨w.heap.size, 0, none⟩ = some (.int .i64 n) ∧ wr.cell? ⟨w.heap.size, 1, none⟩ = some s ∧ wr.cell? ⟨w.heap.size + 1, 0, none⟩ = some u ∧
    w.heap.size < wr.heap.size ∧ w.heap.size + 1 < wr.heap.size ∧ w.heap.size + 1 + 1 < wr.heap.size ∧ w.heap.size + 1 + 1 + 1 < wr.heap.size :=
  ⟨h.gb.cell (show 0 < 2 by omega), h.gb.cell (show 1 < 2 by omega), h.ub.cell (show 0 < 1 by omega), h.gb.lt, h.ub.lt, h.r0.lt, h.r1.lt⟩

set_option maxHeartbeats 3200000 in
set_option maxRecDepth 100000 in
theorem induced_bad {n : Int} {l : List (Int × Int)} {m : List Int} {c a : Int} (hs : GraphSpec n l c a) (hc : c ≠ 0) (s u : Value) (w : World) (h : IsEdges w s l) (hm : IsInts w u m) :
    Calls Try.prog 11 #[.agg #[.int .i64 n, s], u] w (TwoPost 0 [] c a w) := by
  obtain ⟨ad, cap, rfl⟩ := h.form
  obtain ⟨am, cm, bm, om, rfl, -⟩ := hm
  have Hs := Lib.hid hs
  have q : (c != 0) = true := by simpa using hc
  have Hd := Lib.hid h
  have St := Lib.hid (ISt.start w n (.slice ad l.length cap) (.slice am m.length cm))
  clear hs hc h
  go_enter Try.func11, Try.ntmps11
  go_upto_region 1 with fail
  generalize (((w.alloc (Obj.cells #[.int .i64 n, .slice ad l.length cap] 24)).alloc (Obj.cells #[.slice am m.length cm] 25)).alloc (Obj.cells #[.int .i64 0, .slice none 0 0] 24)).alloc (Obj.cells #[.int .i64 0, .int .i64 0] 28) = w1 at *
  obtain ⟨cn, cs, cu, l0, l1, l2, l3⟩ := St.out.facts
  go_wp2_with fail
  refine (gcheck_is Hs.out _ _ (Hd.out.below St.out.hb)).mono ?_
  rintro e w2 ⟨rfl, hb2⟩
  have e01 := two_cells w2 (.int .i64 c) (.int .i64 a) 28
  have S3' := (St.out.below hb2).below (below1 w2 (Obj.cells #[.int .i64 c, .int .i64 a] 28))
  have hl2 := (St.out.below hb2).r1.lt
  clear hb2 cn cs cu l0 l1 l2 l3
  go_wp2_with fail
  have S3 := Lib.hid S3'
  obtain ⟨z0, z1, f0, f1, l0⟩ := row_facts S3.out.r0
  obtain ⟨y0, y1, g0, g1, l1⟩ := row_facts S3.out.r1
  clear S3'
  generalize w2.alloc (Obj.cells #[.int .i64 c, .int .i64 a] 28) = w3 at *
  obtain ⟨e0, e1⟩ := e01
  have n1 : w.heap.size + 1 + 1 ≠ w2.heap.size := by omega
  have n2 : w.heap.size + 1 + 1 + 1 ≠ w2.heap.size := by omega
  have n3 : w.heap.size + 1 + 1 ≠ w.heap.size + 1 + 1 + 1 := by omega
  generalize w2.heap.size = E at *
  go_region_held3 (fun w' => w'.cell? ⟨E, 0, none⟩ = some (.int .i64 c) ∧ w'.cell? ⟨E, 1, none⟩ = some (.int .i64 a)) (go_keep) (fail)
  all_goals have SD := S3.out
  all_goals obtain ⟨c0, c1, c2, c3⟩ := four_set SD.r0 SD.r1 (show w.heap.size + 1 + 1 ≠ w.heap.size + 1 + 1 + 1 by omega) (.int .i64 0) (.slice none 0 0) (.int .i64 c) (.int .i64 a)
  all_goals have hfin := four_below SD.hb (show w.heap.size ≤ w.heap.size + 1 + 1 by omega) (show w.heap.size ≤ w.heap.size + 1 + 1 + 1 by omega) (.int .i64 0) (.slice none 0 0) (.int .i64 c) (.int .i64 a)
  all_goals
    go_wp2
    exact bodyPost_ret (v := .tuple #[.agg #[.int .i64 0, .slice none 0 0], .agg #[.int .i64 c, .int .i64 a]]) (by simp [results, Try.results11, go_sem, c0, c1, c2, c3]) rfl ⟨_, OwnE.nil _ _, hfin.drew, rfl⟩

theorem eg_ind : ∀ args w, (callFunc 39 args).run Try.prog w = .ok (.enter 39 args) w := enters_of Try.func39 (by kernel_rfl) rfl

set_option maxHeartbeats 6400000 in
set_option maxRecDepth 100000 in
theorem induced_ok {N : Nat} {l : List (Int × Int)} {m : List Int} (hgood : GoodGraph N l) {N' : Int} {L' : List (Int × Int)} {c' a' : Int} (hr : IndRes N l m N' L' c' a') (s u : Value) (w : World) (h : IsEdges w s l) (hm : IsInts w u m) :
    Calls Try.prog 11 #[.agg #[.int .i64 (N : Int), s], u] w (TwoPost N' L' c' a' w) := by
  obtain ⟨ad, cap, rfl⟩ := h.form
  have HM := Lib.hid hm
  obtain ⟨am, cm, bm, om, rfl, hcap, hmax, hadr, -, hcell⟩ := hm
  have hN : N ≤ 100 := by have := hgood.hi; omega
  have hok : ∀ j, j < l.length → EndsOk (N : Int) (l.getD j (0, 0)) ∧ (l.getD j (0, 0)).1 ≠ (l.getD j (0, 0)).2 := fun j hj => ⟨(hgood.fine j hj).1, (hgood.fine j hj).2.1⟩
  have Hok := Lib.hid hok
  have Hg := Lib.hid hgood
  have Hr := Lib.hid hr
  have Hd := Lib.hid h
  have St := Lib.hid (ISt.start w (N : Int) (.slice ad l.length cap) (.slice am m.length cm))
  clear hgood hr h hok
  go_enter Try.func11, Try.ntmps11
  go_upto_region 1 with fail
  generalize (((w.alloc (Obj.cells #[.int .i64 (N : Int), .slice ad l.length cap] 24)).alloc (Obj.cells #[.slice am m.length cm] 25)).alloc (Obj.cells #[.int .i64 0, .slice none 0 0] 24)).alloc (Obj.cells #[.int .i64 0, .int .i64 0] 28) = w1 at *
  obtain ⟨cn, cs, cu, l0, l1, l2, l3⟩ := St.out.facts
  go_wp2_with fail
  refine (gcheck_is Hg.out.spec _ _ (Hd.out.below St.out.hb)).mono ?_
  rintro e w2 ⟨rfl, hb2⟩
  have S3 := Lib.hid ((St.out.below hb2).below (below1 w2 (Obj.cells #[.int .i64 0, .int .i64 0] 28)))
  clear hb2 cn cs cu l0 l1 l2 l3
  go_upto_region 4 with fail
  generalize w2.alloc (Obj.cells #[.int .i64 0, .int .i64 0] 28) = w3 at *
  obtain ⟨cn, cs, cu, l0, l1, l2, l3⟩ := S3.out.facts
  have hmk := run_make_row' (P := Try.prog) 40 4 (.bool false) 1 Try.underlying40 info4 rfl .i64 .i64 N (by omega) (by omega)
  go_upto_region 5 with fail
  clear hmk
  have hrow := World.rowIs_made w3 (.bool false) N 4
  have S4 := Lib.hid (S3.out.below (below1 w3 (.cells (madeCells #[.bool false] N) 4)))
  have hS := S3.out.r1.lt
  clear cn cs cu l0 l1 l2 l3
  generalize w3.alloc (.cells (madeCells #[.bool false] N) 4) = w4 at *
  generalize w3.heap.size = S at *
  obtain ⟨cn, cs, cu, l0, l1, l2, l3⟩ := S4.out.facts
  have R4 := Lib.hid (show w4.rowIs S 4 N (rb (seenI m 0)) from hrow.congr fun k _ => by simp [rb, seenI_zero])
  clear hrow
  go_wp2
  clear cn cs cu l0 l1 l2 l3
  go_loopg [23] m.length (fun g s23 wr => ∃ k : Nat, k ≤ m.length ∧ g = m.length - k ∧ s23 = .int .i64 k ∧ (∀ j, j < k → IFine N m j) ∧ ISt w wr (N : Int) (.slice ad l.length cap) (.slice am m.length cm) ∧ wr.rowIs S 4 N (rb (seenI m k)))
  case atStart => exact ⟨0, Nat.zero_le _, rfl, rfl, fun _ h => absurd h (Nat.not_lt_zero _), S4.out, R4.out⟩
  case round =>
    obtain ⟨k, hk, rfl, rfl, hf, hst, hrow⟩ := hrel
    have Hf := Lib.hid hf
    have S5 := Lib.hid hst
    obtain ⟨cn, cs, cu, l0, l1, l2, l3⟩ := S5.out.facts
    by_cases hlt : k < m.length
    · obtain rfl := hadr (by omega)
      obtain ⟨x, Hx, cx⟩ := ints_at hcell hst.hb hlt
      obtain ⟨z0, z1, f0, f1, -⟩ := row_facts S5.out.r0
      obtain ⟨y0, y1, g0, g1, -⟩ := row_facts S5.out.r1
      have R5 := Lib.hid hrow
      clear hf hst hrow
      by_cases hlo : x < 0
      · have hbad : IBad N m k 3 := ⟨hlt, Hf.out, Or.inl ⟨fun hi => by unfold inI at hi; rw [Hx.out] at hi; omega, rfl⟩⟩
        obtain ⟨rfl, rfl, rfl, rfl⟩ := Hr.out.bad hbad
        clear hbad
        go_wp2_with (go_at_call 37; refine (gfault_any _ _ _).mono ?_; rintro e wf ⟨rfl, rfl⟩)
        obtain ⟨e0, e1, e2, e3⟩ := four_set S5.out.r0 S5.out.r1 (show w.heap.size + 1 + 1 ≠ w.heap.size + 1 + 1 + 1 by omega) (.int .i64 0) (.slice none 0 0) (.int .i64 3) (.int .i64 (k : Int))
        have hfin := four_below S5.out.hb (show w.heap.size ≤ w.heap.size + 1 + 1 by omega) (show w.heap.size ≤ w.heap.size + 1 + 1 + 1 by omega) (.int .i64 0) (.slice none 0 0) (.int .i64 3) (.int .i64 (k : Int))
        have c0 := below_cell (below1 _ (Obj.cells #[Value.int .i64 3, .int .i64 (k : Int)] 28)) e0
        have c1 := below_cell (below1 _ (Obj.cells #[Value.int .i64 3, .int .i64 (k : Int)] 28)) e1
        have c2 := below_cell (below1 _ (Obj.cells #[Value.int .i64 3, .int .i64 (k : Int)] 28)) e2
        have c3 := below_cell (below1 _ (Obj.cells #[Value.int .i64 3, .int .i64 (k : Int)] 28)) e3
        exact bodyPost_ret (v := .tuple #[.agg #[.int .i64 0, .slice none 0 0], .agg #[.int .i64 3, .int .i64 (k : Int)]]) (by simp [results, Try.results11, go_sem, c0, c1, c2, c3]) rfl ⟨_, OwnE.nil _ _, hfin.alloc hfin.size _, rfl⟩
      · by_cases hhi : (N : Int) ≤ x
        · have hbad : IBad N m k 3 := ⟨hlt, Hf.out, Or.inl ⟨fun hi => by unfold inI at hi; rw [Hx.out] at hi; omega, rfl⟩⟩
          obtain ⟨rfl, rfl, rfl, rfl⟩ := Hr.out.bad hbad
          clear hbad
          go_wp2_with (go_at_call 37; refine (gfault_any _ _ _).mono ?_; rintro e wf ⟨rfl, rfl⟩)
          obtain ⟨e0, e1, e2, e3⟩ := four_set S5.out.r0 S5.out.r1 (show w.heap.size + 1 + 1 ≠ w.heap.size + 1 + 1 + 1 by omega) (.int .i64 0) (.slice none 0 0) (.int .i64 3) (.int .i64 (k : Int))
          have hfin := four_below S5.out.hb (show w.heap.size ≤ w.heap.size + 1 + 1 by omega) (show w.heap.size ≤ w.heap.size + 1 + 1 + 1 by omega) (.int .i64 0) (.slice none 0 0) (.int .i64 3) (.int .i64 (k : Int))
          have c0 := below_cell (below1 _ (Obj.cells #[Value.int .i64 3, .int .i64 (k : Int)] 28)) e0
          have c1 := below_cell (below1 _ (Obj.cells #[Value.int .i64 3, .int .i64 (k : Int)] 28)) e1
          have c2 := below_cell (below1 _ (Obj.cells #[Value.int .i64 3, .int .i64 (k : Int)] 28)) e2
          have c3 := below_cell (below1 _ (Obj.cells #[Value.int .i64 3, .int .i64 (k : Int)] 28)) e3
          exact bodyPost_ret (v := .tuple #[.agg #[.int .i64 0, .slice none 0 0], .agg #[.int .i64 3, .int .i64 (k : Int)]]) (by simp [results, Try.results11, go_sem, c0, c1, c2, c3]) rfl ⟨_, OwnE.nil _ _, hfin.alloc hfin.size _, rfl⟩
        · obtain ⟨X, rfl⟩ := Int.eq_ofNat_of_zero_le (show 0 ≤ x by omega)
          have hX : X < N := by omega
          have hin : inI N m k := by unfold inI; rw [Hx.out]; omega
          have Hin := Lib.hid hin
          have cS := R5.out.cell hX
          have fS := R5.out.frozen X
          have lS := R5.out.lt
          simp only [rb] at cS
          clear hin
          cases hq : seenI m k X with
          | true =>
            rw [hq] at cS
            have hbad : IBad N m k 5 := ⟨hlt, Hf.out, Or.inr ⟨Hin.out, (seen_dup Hx.out).1 hq, rfl⟩⟩
            clear hq
            obtain ⟨rfl, rfl, rfl, rfl⟩ := Hr.out.bad hbad
            clear hbad
            go_wp2_with (go_at_call 37; refine (gfault_any _ _ _).mono ?_; rintro e wf ⟨rfl, rfl⟩)
            obtain ⟨e0, e1, e2, e3⟩ := four_set S5.out.r0 S5.out.r1 (show w.heap.size + 1 + 1 ≠ w.heap.size + 1 + 1 + 1 by omega) (.int .i64 0) (.slice none 0 0) (.int .i64 5) (.int .i64 (k : Int))
            have hfin := four_below S5.out.hb (show w.heap.size ≤ w.heap.size + 1 + 1 by omega) (show w.heap.size ≤ w.heap.size + 1 + 1 + 1 by omega) (.int .i64 0) (.slice none 0 0) (.int .i64 5) (.int .i64 (k : Int))
            have c0 := below_cell (below1 _ (Obj.cells #[Value.int .i64 5, .int .i64 (k : Int)] 28)) e0
            have c1 := below_cell (below1 _ (Obj.cells #[Value.int .i64 5, .int .i64 (k : Int)] 28)) e1
            have c2 := below_cell (below1 _ (Obj.cells #[Value.int .i64 5, .int .i64 (k : Int)] 28)) e2
            have c3 := below_cell (below1 _ (Obj.cells #[Value.int .i64 5, .int .i64 (k : Int)] 28)) e3
            exact bodyPost_ret (v := .tuple #[.agg #[.int .i64 0, .slice none 0 0], .agg #[.int .i64 5, .int .i64 (k : Int)]]) (by simp [results, Try.results11, go_sem, c0, c1, c2, c3]) rfl ⟨_, OwnE.nil _ _, hfin.alloc hfin.size _, rfl⟩
          | false =>
            rw [hq] at cS
            have hd : ¬ dupI m k := fun hd => by rw [(seen_dup Hx.out).2 hd] at hq; cases hq
            have Hd2 := Lib.hid hd
            clear hd hq z0 z1 f0 f1 y0 y1 g0 g1
            have hrow2 := row_rb (row_set_rb R5.out X true) (fun v _ => seenI_put Hx.out v)
            have Hrow2 := Lib.hid hrow2
            have S6 := Lib.hid (S5.out.set hS X (.bool true))
            clear hrow2
            go_wp2
            go_roundg (m.length - (k + 1))
            case measure => go_light; omega
            case rel => exact ⟨k + 1, by omega, rfl, by go_num, fun j hj => by
              by_cases e : j = k
              · rw [e]; exact ⟨Hin.out, Hd2.out⟩
              · exact Hf.out j (by omega), S6.out, Hrow2.out⟩
    · obtain rfl : k = m.length := by omega
      clear hf hst hrow
      have hlen := ifine_few Hf.out
      have hinn : ∀ k, k < m.length → 0 ≤ m.getD k 0 ∧ m.getD k 0 < (N : Int) := fun k hk => (Hf.out k hk).1
      obtain ⟨hpr, rfl⟩ := Hr.out.ok Hf.out
      have Hpr := Lib.hid hpr
      have Hinn := Lib.hid hinn
      clear hpr hinn Hr hcell hadr
      go_wp2_with fail
      refine (table_any l N _ _ (Hd.out.below S5.out.hb) hN Hok.out).mono ?_
      rintro e w6 ⟨v6, rfl, hg6, hb6⟩
      obtain ⟨a6, c6, rfl⟩ := HasGrid.form ⟨_, hg6⟩
      have G7 := Lib.hid (HasGrid.below ⟨_, hg6⟩ (below1 w6 (Obj.cells #[.slice a6 N c6] 36)))
      have S7 := Lib.hid ((S5.out.below hb6).below (below1 w6 (Obj.cells #[.slice a6 N c6] 36)))
      have t7 : (w6.alloc (Obj.cells #[.slice a6 N c6] 36)).cell? ⟨w6.heap.size, 0, none⟩ = some (.slice a6 N c6) := by simp
      clear hg6 hb6 cn cs cu l0 l1 l2 l3
      go_upto_region 15 with fail
      generalize w6.alloc (Obj.cells #[.slice a6 N c6] 36) = w7 at *
      generalize w6.heap.size = T at *
      obtain ⟨cn, cs, cu, l0, l1, l2, l3⟩ := S7.out.facts
      go_wp2_with (go_at_call 35; refine (from_is Hpr.out 39 #[.pointer (some ⟨T, 0, none⟩), .pointer (some ⟨w.heap.size + 1, 0, none⟩)] w7 eg_ind (by omega) (fun W i j hij hj hbW => induced1_any W (below_cell hbW t7) (below_cell hbW cu) (G7.out.below hbW) (HM.out.below (upb S7.out.hb hbW)) Hinn.out (by omega) hj)).mono ?_; rintro e w8 ⟨v8, ho8, hb8, rfl⟩; obtain ⟨a8, c8, rfl⟩ := ho8.form; have S8 := Lib.hid (S7.out.below hb8); obtain ⟨p0, p1, pf0, pf1, pl0⟩ := row_facts S8.out.r0; obtain ⟨r0, r1, rg0, rg1, rl1⟩ := row_facts S8.out.r1; have Ho8 := Lib.hid ho8; clear hb8 ho8)
      obtain ⟨e0, e1, e2, e3⟩ := four_set S8.out.r0 S8.out.r1 (show w.heap.size + 1 + 1 ≠ w.heap.size + 1 + 1 + 1 by omega) (.int .i64 N') (.slice a8 L'.length c8) (.int .i64 c') (.int .i64 0)
      have hfin := four_below S8.out.hb (show w.heap.size ≤ w.heap.size + 1 + 1 by omega) (show w.heap.size ≤ w.heap.size + 1 + 1 + 1 by omega) (.int .i64 N') (.slice a8 L'.length c8) (.int .i64 c') (.int .i64 0)
      have hoe := ((((Ho8.out.set l2 0 (.int .i64 N')).set l2 1 (.slice a8 L'.length c8)).set l3 0 (.int .i64 c')).set l3 1 (.int .i64 0)).low (show w.heap.size ≤ _ by omega)
      exact bodyPost_ret (v := .tuple #[.agg #[.int .i64 N', .slice a8 L'.length c8], .agg #[.int .i64 c', .int .i64 0]]) (by simp [results, Try.results11, go_sem, e0, e1, e2, e3]) rfl ⟨_, hoe, hfin, rfl⟩

end Go.Proofs.Ytbnbhjeknocboaa
