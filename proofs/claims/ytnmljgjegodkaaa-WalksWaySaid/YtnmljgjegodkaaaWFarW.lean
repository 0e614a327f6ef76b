/- walks.far: how far all nodes are from one, by a search in breadth. -/
import Derived.Test.YtnmljgjegodkaaaPRow
import Derived.Test.YtnmljgjegodkaaaQueue
import Derived.Test.YtnmljgjegodkaaaPA
import Derived.BigQuiet
namespace Go.Proofs.Ytnmljgjegodkaaa
open Go.RowKit

/-- A row of numbers, under way. -/
structure RiSt (w wr : World) (b N : Nat) (F : Nat → Int) : Prop where
  hb : Below w.heap.size w wr
  nI : w.heap.size ≤ b
  row : wr.rowIs b 3 N (ri F)
theorem RiSt.set {w wr : World} {b N : Nat} {F : Nat → Int} (h : RiSt w wr b N F) (k : Nat) (x : Int) : RiSt w (wr.setCell ⟨b, k, none⟩ (.int .i64 x)) b N (fun q => if q = k then x else F q) :=
  ⟨h.hb.setCell h.nI _, h.nI, row_set_ri h.row k x⟩
theorem RiSt.below {w wr w' : World} {b N : Nat} {F : Nat → Int} (h : RiSt w wr b N F) (hb : Below wr.heap.size wr w') : RiSt w w' b N F :=
  ⟨h.hb.trans (hb.mono h.hb.size), h.nI, h.row.of_block (hb.block _ h.row.lt)⟩
theorem RiSt.congr {w wr : World} {b N : Nat} {F F' : Nat → Int} (h : RiSt w wr b N F) (e : ∀ q, q < N → F q = F' q) : RiSt w wr b N F' := ⟨h.hb, h.nI, row_ri h.row e⟩
theorem wrap_midF {x : Int} (h0 : -9223372036854775808 ≤ x) (h1 : x < 9223372036854775808) : IntKind.i64.wrap x = x := by
  simp [IntKind.wrap, IntKind.bits, IntKind.signed]; omega
theorem one_cellF (w : World) (a : Addr) (x v : Value) (t : TypeId) : ((w.setCell a x).alloc (.cells #[v] t)).cell? ((⟨w.heap.size, 0, none⟩ : Addr).add 0) = some v := by
  rw [Addr.add_lit, World.cell?_alloc_at _ _ _ _ (size_setCell w a x).symm]; rfl

set_option maxHeartbeats 6400000 in
set_option maxRecDepth 100000 in
theorem wfar_any {N a B : Nat} {G : Nat → Nat → Bool} {X : Nat → List Nat} {V : Nat → Value} (hN : N ≤ 100) (hX : ∀ v, v < N → ∀ u, u ∈ X v ↔ u < N ∧ G v u = true) (hXl : ∀ v, v < N → (X v).length ≤ N) (ha : a < N) (w : World) (hnb : NB w B N V X) :
    Calls Try.prog 51 #[.slice (some ⟨B, 0, none⟩) N N, .int .i64 (a : Int)] w fun e w' => ∃ b F, e = .returned (.slice (some ⟨b, 0, none⟩) N N) ∧ w.heap.size ≤ b ∧ w'.rowIs b 3 N (ri F) ∧ FarOk N G a F ∧ Below w.heap.size w w' := by
  have Hnb := Lib.hid hnb; have HX := Lib.hid hX; have HXl := Lib.hid hXl
  have hmk := run_make_row' (P := Try.prog) 29 3 (.int .i64 0) 8 Try.underlying29 info3 rfl .i64 .i64 N (by omega) (by omega)
  have hr1 := (World.rowIs_made w (.int .i64 0) N 3).congr (g := ri fun _ => 0) fun _ _ => rfl
  have R1 := Lib.hid (RiSt.mk (below1 w (.cells (madeCells #[.int .i64 0] N) 3)) (Nat.le_refl _) hr1)
  have hz1 : (w.alloc (.cells (madeCells #[.int .i64 0] N) 3)).heap.size = w.heap.size + 1 := World.size_alloc _ _
  clear hnb hX hXl hr1
  go_enter Try.func51, Try.ntmps51
  go_upto_region 3 with fail
  clear hmk
  generalize w.alloc (.cells (madeCells #[.int .i64 0] N) 3) = w1 at *
  go_wp2
  go_loopg [15] N (fun g s15 wr => ∃ i : Nat, i ≤ N ∧ g = N - i ∧ s15 = .int .i64 (i : Int) ∧ RiSt w wr w.heap.size N (fun v => if v < i then -1 else 0) ∧ wr.heap.size = w.heap.size + 1)
  case atStart => exact ⟨0, Nat.zero_le _, rfl, rfl, R1.out.congr fun q _ => by simp, hz1⟩
  case round =>
    obtain ⟨i, hi, rfl, rfl, hst, hz⟩ := hrel
    by_cases hlt : i < N
    · have ci := hst.row.cell hlt
      have fi := hst.row.frozen i
      have li := hst.row.lt
      simp only [ri] at ci
      have Hst := Lib.hid ((hst.set i (-1)).congr (F' := fun v => if v < i + 1 then -1 else 0) fun q _ => by
        by_cases e : q = i
        · subst e; simp
        · rw [if_neg e]
          by_cases e2 : q < i
          · simp [e2, show q < i + 1 by omega]
          · simp [e2, show ¬ q < i + 1 by omega])
      have hz2 : (wr.setCell ⟨w.heap.size, i, none⟩ (.int .i64 (-1))).heap.size = w.heap.size + 1 := by rw [size_setCell, hz]
      have Hz2 := Lib.hid hz2
      clear hst hz2
      go_wp2
      go_roundg (N - (i + 1))
      case measure => go_light; omega
      case rel => exact ⟨i + 1, by omega, rfl, by go_num, Hst.out, Hz2.out⟩
    · obtain rfl : i = N := by omega
      have t0 := hst.row.cell ha
      have f0 := hst.row.frozen a
      have l0 := hst.row.lt
      simp only [ri] at t0
      have R2 := Lib.hid ((hst.set a 0).congr (F' := fun v => if v = a then 0 else -1) fun q hq => by
        by_cases e : q = a <;> simp [e, hq])
      have hz4 : (wr.setCell ⟨w.heap.size, a, none⟩ (.int .i64 0)).heap.size = w.heap.size + 1 := by rw [size_setCell, hz]
      clear hst
      go_upto_region 8 with fail
      clear t0 f0 l0 hz R1
      generalize wr.setCell ⟨w.heap.size, a, none⟩ (.int .i64 0) = w4 at *
      have R3 := Lib.hid (R2.out.below (below1 w4 (.cells #[.int .i64 (a : Int)] 3)))
      have hq4 := QIs.one w4 (w.heap.size + 1) a (by omega)
      rw [hz4] at hq4
      have Hq4 := Lib.hid hq4
      clear hq4 R2
      go_wp2
      generalize w4.alloc (.cells #[.int .i64 (a : Int)] 3) = w5 at *
      clear hz4
      generalize Value.slice (some ⟨w.heap.size + 1, 0, none⟩) 1 1 = vq at *
      go_loopg [7] i (fun g s7 wr => ∃ (F : Nat → Int) (Q : List Nat), g + cnt (seenF F) i = i + Q.length ∧ WfI i G a F Q ∧ RiSt w wr w.heap.size i F ∧ QIs wr (w.heap.size + 1) s7 Q)
      case atStart =>
        refine ⟨_, [a], ?_, WfI.start ha, R3.out, Hq4.out⟩
        have h0 : ∀ n, cnt (fun _ => false) n = 0 := fun n => by
          induction n with
          | zero => rfl
          | succ n ih => rw [cnt, ih]; simp
        have h1 := cnt_seen (I := fun _ => false) ha rfl
        rw [h0] at h1
        have e : (seenF fun v => if v = a then (0 : Int) else -1) = fun q => if q = a then true else (fun _ => false) q := by
          funext q; unfold seenF; by_cases e : q = a <;> simp [e]
        rw [e, h1]; rfl
      case round =>
        obtain ⟨F, Q, hg, hbf, hst, hq⟩ := hrel
        have Hg1 := Lib.hid hg; have Hbf := Lib.hid hbf; have Hst := Lib.hid hst
        obtain ⟨b, off, cap, K, f, rfl, hq⟩ := hq
        have Hq := Lib.hid hq
        clear hg hbf
        rcases Q with _ | ⟨x, R⟩
        · clear hst hq
          go_wp2
          exact bodyPost_ret (v := .slice (some ⟨w.heap.size, 0, none⟩) i i) (by simp [results, Try.results51, go_sem]) rfl ⟨w.heap.size, F, rfl, Nat.le_refl _, Hst.out.row, Hbf.out.done, Hst.out.hb⟩
        · have hq0 := hq.cell (show 0 < (x :: R).length by simp)
          rw [Nat.add_zero] at hq0
          have hq0 : wr.cell? ⟨b, off, none⟩ = some (.int .i64 (x : Int)) := hq0
          have hx := (Hbf.out.qs x (by simp)).1
          have hnb5 := Hnb.out.below hst.hb
          obtain ⟨au, cu, eu⟩ := hnb5.form hx
          have Eu := Lib.hid eu
          have t1 := hnb5.ro.cell hx
          rw [eu] at t1
          have hlR : (0 : Int) < (((x :: R).length : Nat) : Int) := by simp only [List.length_cons]; omega
          have hlR' : 0 < (x :: R).length := by simp only [List.length_cons]; omega
          have hcap := hq.len
          have hnu := HXl.out x hx
          clear hq hst hnb5 eu
          generalize hnQ : (x :: R).length = nQ at *
          have HnQ := Lib.hid hnQ
          clear hnQ
          generalize hnX : (X x).length = nu at *
          have HnX := Lib.hid hnX
          clear hnX
          go_wp2
          have Hq0 := Lib.hid hq0
          clear hq0 t1 hcap hlR hlR'
          go_loopg [7, 39] nu (fun g s7 s39 wi => ∃ (j : Nat) (F' : Nat → Int) (R' : List Nat), j ≤ nu ∧ g = nu - j ∧ s39 = .int .i64 (j : Int) ∧ gk + cnt (seenF F') i = i + (x :: R').length ∧ WfI i G a F' (x :: R') ∧ RiSt w wi w.heap.size i F' ∧ QIs wi (w.heap.size + 1) s7 (x :: R') ∧ ∀ j', j' < j → 0 ≤ F' ((X x).getD j' 0))
          case atStart => exact ⟨0, F, R, Nat.zero_le _, rfl, rfl, by rw [Hg1.out, HnQ.out], Hbf.out, Hst.out, ⟨b, off, cap, K, f, by rw [HnQ.out], Hq.out⟩, fun _ h => absurd h (Nat.not_lt_zero _)⟩
          case round =>
            clear Hg1 Hbf Hst Hq Hq0 HnQ
            obtain ⟨j, F', R', hj, rfl, rfl, hg, hbf, hst, hq, hall⟩ := hrel
            have Hg1 := Lib.hid hg; have Hbf := Lib.hid hbf; have Hst := Lib.hid hst; have Hall := Lib.hid hall
            obtain ⟨b2, off2, cap2, K2, f2, rfl, hq⟩ := hq
            have Hq := Lib.hid hq
            have hq2 := hq.cell (show 0 < (x :: R').length by simp)
            rw [Nat.add_zero] at hq2
            have hq2 : wr.cell? ⟨b2, off2, none⟩ = some (.int .i64 (x : Int)) := hq2
            have hcap2 := hq.len
            have hlR2 : 0 < (x :: R').length := by simp only [List.length_cons]; omega
            clear hg hbf hall
            generalize hn2 : (x :: R').length = n2 at *
            have Hn2 := Lib.hid hn2
            clear hn2
            by_cases hlt : j < nu
            · obtain ⟨gu, cu', eu, hcu⟩ := (Hnb.out.below hst.hb).lookR hx (show j < (X x).length by rw [HnX.out]; exact hlt)
              obtain ⟨rfl, rfl⟩ : au = some ⟨gu, 0, none⟩ ∧ cu = cu' := by
                have := Eu.out.symm.trans eu
                simp only [Value.slice.injEq] at this
                exact ⟨this.1, this.2.2⟩
              have hmem : (X x).getD j 0 ∈ X x := by
                have hj' : j < (X x).length := by rw [HnX.out]; exact hlt
                rw [List.getD, List.getElem?_eq_getElem hj']
                exact List.getElem_mem hj'
              have hu2 := (HX.out x hx _).1 hmem
              have hu := hu2.1
              have Hgu := Lib.hid hu2.2
              generalize hij : (X x).getD j 0 = u at *
              have Hij := Lib.hid hij
              have cw := hst.row.cell hu
              have cx := hst.row.cell hx
              simp only [ri] at cw cx
              have fw := hst.row.frozen u
              have hzi := hst.row.lt
              have hsz := hst.hb.size
              have hFx := (Hbf.out.qs x (by simp)).2
              have hFr := Hbf.out.rng x hx
              have hcl := cnt_le (seenF F') i
              clear hij hmem eu hst hu2
              by_cases hI : 0 ≤ F' u
              · have hI2 : ¬ F' u < 0 := by omega
                have HI := Lib.hid hI
                clear hI hq
                go_wp2
                go_roundg (nu - (j + 1))
                case measure => go_light; omega
                case rel => exact ⟨j + 1, F', R', by omega, rfl, by go_num, by rw [Hn2.out]; exact Hg1.out, Hbf.out, Hst.out, ⟨b2, off2, cap2, K2, f2, by rw [Hn2.out], Hq.out⟩, fun j' hj' => by
                  by_cases e : j' = j
                  · subst e; rw [Hij.out]; exact HI.out
                  · exact Hall.out j' (by omega)⟩
              · have hI2 : F' u < 0 := by omega
                have HI := Lib.hid hI2
                have hroom := Hbf.out.room
                rw [Hn2.out] at hroom
                have hn2s : n2 < 1000000 := by omega
                have hfx : IntKind.i64.wrap (F' x + 1) = F' x + 1 := wrap_midF (by omega) (by omega)
                have hst5 := (Hst.out.set u (F' x + 1)).below (below1 _ (.cells #[.int .i64 (u : Int)] 3))
                have hq5 : QIs ((wr.setCell ⟨w.heap.size, u, none⟩ (.int .i64 (F' x + 1))).alloc (.cells #[.int .i64 (u : Int)] 3)) (w.heap.size + 1) (.slice (some ⟨b2, off2, none⟩) n2 cap2) (x :: R') :=
                  QIs.below (QIs.set (w := wr) ⟨b2, off2, cap2, K2, f2, by rw [Hn2.out], Hq.out⟩ (by omega) u _) ((Below.refl _ _).alloc (Nat.le_refl _) _)
                have Hst5 := Lib.hid hst5; have Hq5 := Lib.hid hq5; have Hpush := Lib.hid (Hbf.out.push hu HI.out Hgu.out)
                have Hcs := Lib.hid (show cnt (seenF fun q => if q = u then F' x + 1 else F' q) i = cnt (seenF F') i + 1 from by
                  rw [seen_put (by omega)]
                  exact cnt_seen hu (by unfold seenF; simp; omega))
                have Hnn := Lib.hid (show 0 ≤ F' x + 1 by omega)
                clear hI hq hst5 hq5 hroom hcl hFr hFx
                generalize F' x = fx at *
                generalize F' u = fu at *
                go_wp2_with (at_builtin; refine wpList_append_q rfl (.tmp 58) (.tmp 60) 29 rfl Try.underlying29 info3 _ (x :: R') rfl Hq5.out _ _ u rfl (one_cellF _ _ _ _ _) (by rw [Hn2.out]; exact hn2s) (by rw [World.size_alloc, size_setCell]; omega) ?_; intro v6 w6 hq6 hb6; have Hq6 := Lib.hid hq6; have Hb6 := Lib.hid hb6; clear hq6 hb6)
                go_roundg (nu - (j + 1))
                case measure => go_light; omega
                case rel =>
                  have h1 := Hg1.out
                  have h2 := Hcs.out
                  have h3 := Hn2.out
                  refine ⟨j + 1, _, R' ++ [u], by omega, rfl, by go_num, ?_, Hpush.out, ⟨Hst5.out.hb.trans (Hb6.out.mono (by omega)), Nat.le_refl _, Hst5.out.row.of_block (Hb6.out.block _ (by omega))⟩, Hq6.out, fun j' hj' => ?_⟩
                  · rw [h2, ← List.cons_append, List.length_append, h3]
                    simp only [List.length_cons, List.length_nil]
                    omega
                  · by_cases e : (X x).getD j' 0 = u
                    · rw [if_pos e]; exact Hnn.out
                    · rw [if_neg e]
                      by_cases e2 : j' = j
                      · subst e2; exact absurd Hij.out e
                      · exact Hall.out j' (by omega)
            · obtain rfl : nu = j := by omega
              obtain ⟨i3, hi3, -, hsz3, -⟩ := info_parts info3
              have hcapq := Hq.out.len
              have hsl : ∀ w, (Instr.slice 29 (.slice (some ⟨b2, off2, none⟩) n2 cap2) (some (.int .i64 1)) none none).run Try.prog w = .ok (.slice (cutAt b2 off2 (cap2 - 1)) R'.length (cap2 - 1)) w := by rw [← Hn2.out]; exact run_slice_one (P := Try.prog) Try.underlying29 hi3 hsz3 b2 off2 R'.length cap2 hcapq
              have hcle := cnt_le (seenF F') i
              have Hcle := Lib.hid hcle
              clear hst hq hcap2 hi3 hsz3 hcle hq2 hcapq
              go_wp2
              go_roundg (gk - 1)
              case measure =>
                have h1 := Hg1.out
                have h2 := Hcle.out
                have h3 := Hn2.out
                simp only [List.length_cons] at h3
                go_light; omega
              case rel =>
                have h1 := Hg1.out
                have h2 := Hcle.out
                have h3 := Hn2.out
                simp only [List.length_cons] at h3
                refine ⟨F', R', by omega, Hbf.out.pop fun u hu hgu => ?_, Hst.out, Hq.out.cut⟩
                obtain ⟨j', hj', rfl⟩ := List.mem_iff_getElem.1 ((HX.out x hx u).2 ⟨hu, hgu⟩)
                have e : (X x)[j'] = (X x).getD j' 0 := by simp [List.getD, hj']
                rw [e]
                exact Hall.out j' (by rw [← HnX.out]; exact hj')

end Go.Proofs.Ytnmljgjegodkaaa
