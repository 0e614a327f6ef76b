/- (*flow.pipes).levels. -/
import Derived.Test.YtbnbhjeknocboaaPC
import Derived.Test.YtbnbhjeknocboaaPA
import Derived.Test.YtbnbhjeknocboaaRCheck
namespace Go.Proofs.Ytbnbhjeknocboaa
open Go.RowKit

theorem PB.look {w : World} {base bP bA N : Nat} {V : Nat → Value} {X : Nat → List Nat} (h : PB w base bP bA N V X) {r : Nat} (hr : r < N + 2) (hp : 0 < (X r).length) :
    ∃ g c, V r = .slice (some ⟨g, 0, none⟩) (X r).length c ∧ base ≤ g ∧ g < w.heap.size ∧ ∀ j, j < (X r).length → w.cell? ⟨g, j, none⟩ = some (.int .i64 ((X r).getD j 0 : Nat)) ∧ w.frozen? ⟨g, j, none⟩ = false := by
  have ho := h.owns hr
  have ho2 := ho
  obtain ⟨a, c, e⟩ := ownsRow_form ho
  rcases ho.2 with ⟨-, h0⟩ | ⟨g, cap, cur, e1, hge, -⟩
  · omega
  · have hlt := (ho.lt g (by rw [e1]; rfl)).2
    rw [e1] at ho2
    refine ⟨g, cap, e1, hge, hlt, fun j hj => ⟨?_, ho2.frozenAt j⟩⟩
    rw [ho2.cellAt j (by omega)]
    simp [ints, List.getD, hj]

theorem one_cell (w : World) (a : Addr) (x v : Value) (t : TypeId) : ((w.setCell a x).alloc (.cells #[v] t)).cell? ((⟨w.heap.size, 0, none⟩ : Addr).add 0) = some v := by
  rw [Addr.add_lit, World.cell?_alloc_at _ _ _ _ (size_setCell w a x).symm]; rfl

/-- Levels come back. -/
def LevPost (N : Nat) (X : Nat → List Nat) (s : Nat) (w : World) (e : Ending) (w' : World) : Prop :=
  ∃ lev b, e = .returned (.slice (some ⟨b, 0, none⟩) N N) ∧ w.heap.size ≤ b ∧ w'.rowIs b 3 N (ri lev) ∧ LevOk N X s lev ∧ Below w.heap.size w w'

set_option maxHeartbeats 6400000 in
set_option maxRecDepth 100000 in
theorem flevels_any (base bP bA N M s : Nat) (V : Nat → Value) (X : Nat → List Nat) (w : World) (hs : s < N) (hX : NetOk N M X) (h : PB w base bP bA N V X) :
    Calls Try.prog 54 #[.pointer (some ⟨bP, 0, none⟩), .int .i64 (s : Int)] w (LevPost N X s w) := by
  have H := Lib.hid h; have HX := Lib.hid hX
  have hN := hX.small.1
  have hM := hX.small.2
  have p2 := h.rP.cell (show 2 < 3 by omega)
  simp only [show ¬ (2 : Nat) = 0 by omega, show ¬ (2 : Nat) = 1 by omega, if_false] at p2
  have lP := h.rP.lt
  have hmk := run_make_row' (P := Try.prog) 25 3 (.int .i64 0) 8 Try.underlying25 info3 rfl .i64 .i64 N (by omega) (by omega)
  have hrow := World.rowIs_made w (.int .i64 0) N 3
  have hb1 := below1 w (.cells (madeCells #[Value.int .i64 0] N) 3)
  have Hrow := Lib.hid hrow; have Hb1 := Lib.hid hb1
  clear h hX hrow hb1
  go_enter Try.func54, Try.ntmps54
  go_wp2
  generalize w.alloc (.cells (madeCells #[Value.int .i64 0] N) 3) = w1 at *
  go_loopg [19] N (fun g s19 wr => ∃ k : Nat, k ≤ N ∧ g = N - k ∧ s19 = .int .i64 k ∧ wr.rowIs w.heap.size 3 N (ri fun q => if q < k then -1 else 0) ∧ Below w.heap.size w wr)
  case atStart => exact ⟨0, Nat.zero_le _, rfl, rfl, Hrow.out.congr fun q _ => by simp [ri], Hb1.out⟩
  case round =>
    obtain ⟨k, hk, rfl, rfl, hr, hb⟩ := hrel
    have Hr := Lib.hid hr; have Hb := Lib.hid hb
    by_cases hlt : k < N
    · have cO := hr.cell hlt
      have fO := hr.frozen k
      have hzr := hr.lt
      clear hr hb p2
      go_wp2
      go_roundg (N - (k + 1))
      case measure => go_light; omega
      case rel => exact ⟨k + 1, by omega, rfl, by go_num, row_ri (row_set_ri Hr.out k (-1)) fun q hq => by
        by_cases e : q = k
        · subst e; simp
        · rw [if_neg e]
          by_cases e2 : q < k
          · rw [if_pos e2, if_pos (by omega)]
          · rw [if_neg e2, if_neg (by omega)], Hb.out.setCell (p := ⟨w.heap.size, k, none⟩) (Nat.le_refl _) _⟩
    · obtain rfl : N = k := by omega
      have cO := hr.cell hs
      have fO := hr.frozen s
      have hzr := hr.lt
      have hsz := hb.size
      have hr2 := (row_ri (g' := fun v => if v = s then 0 else -1) (row_set_ri Hr.out s 0) (fun q hq => by
        by_cases e : q = s
        · simp [e]
        · simp only [if_neg e, if_pos hq])).alloc (.cells #[.int .i64 (s : Int)] 3)
      have hb2 := (Hb.out.setCell (p := ⟨w.heap.size, s, none⟩) (Nat.le_refl _) (.int .i64 0)).alloc (by rw [size_setCell]; omega) (.cells #[.int .i64 (s : Int)] 3)
      have hq2 := QIs.one (wr.setCell ⟨w.heap.size, s, none⟩ (.int .i64 0)) (w.heap.size + 1) s (by rw [size_setCell]; omega)
      rw [size_setCell] at hq2
      have Hr2 := Lib.hid hr2; have Hb2 := Lib.hid hb2; have Hq2 := Lib.hid hq2
      clear hr hb hr2 hb2 hq2 Hr Hb p2
      go_wp2
      generalize (wr.setCell ⟨w.heap.size, s, none⟩ (.int .i64 0)).alloc (.cells #[.int .i64 (s : Int)] 3) = w2 at *
      clear cO fO hzr hsz hk hlt
      generalize Value.slice (some ⟨wr.heap.size, 0, none⟩) 1 1 = vq at *
      have hmeas : 0 < cnt (seenB fun v => if v = s then 0 else -1) N := by have := (LevI.start (X := X) hs).room; simp only [List.length_cons, List.length_nil] at this; omega
      go_loopg [7] N (fun g s7 wr => ∃ (lev : Nat → Int) (Q : List Nat), g + cnt (seenB lev) N = N + Q.length ∧ LevI N X s lev Q ∧ wr.rowIs w.heap.size 3 N (ri lev) ∧ QIs wr (w.heap.size + 1) s7 Q ∧ Below w.heap.size w wr)
      case atStart =>
        have hc : cnt (seenB fun v => if v = s then (0 : Int) else -1) N = 1 := by
          have := cnt_put (n := N) (x := s) (I := fun _ => false) (J := seenB fun v => if v = s then 0 else -1) hs rfl (by simp [seenB]) (fun k hk => by simp [seenB, hk])
          rw [this]
          have h0 : ∀ n, cnt (fun _ => false) n = 0 := fun n => by
            induction n with
            | zero => rfl
            | succ n ih => rw [cnt, ih]; simp
          rw [h0]
        exact ⟨_, [s], by rw [hc]; rfl, LevI.start hs, Hr2.out, Hq2.out, Hb2.out⟩
      case round =>
        obtain ⟨lev, Q, hg, hlv, hr, hq, hb⟩ := hrel
        have Hg := Lib.hid hg; have Hlv := Lib.hid hlv; have Hr := Lib.hid hr; have Hb := Lib.hid hb
        obtain ⟨b, off, cap, K, f, rfl, hq⟩ := hq
        have Hq := Lib.hid hq
        clear hg hlv
        rcases Q with _ | ⟨u, R⟩
        · clear hr hq hb
          go_wp2
          exact bodyPost_ret (v := .slice (some ⟨w.heap.size, 0, none⟩) N N) (by simp [results, Try.results54, go_sem]) rfl ⟨lev, w.heap.size, rfl, Nat.le_refl _, Hr.out, Hlv.out.done, Hb.out⟩
        · have hq0 := hq.cell (show 0 < (u :: R).length by simp)
          rw [Nat.add_zero] at hq0
          obtain ⟨hu, hlu⟩ := Hlv.out.qs u (by simp)
          obtain ⟨au, cu, eu⟩ := H.out.form (show u + 2 < N + 2 by omega)
          have Eu := Lib.hid eu
          have hrP := H.out.rP.of_block (hb.block _ H.out.rP.lt)
          have hrA := H.out.rA.of_block (hb.block _ H.out.rA.lt)
          have p2 := hrP.cell (show 2 < 3 by omega)
          simp only [show ¬ (2 : Nat) = 0 by omega, show ¬ (2 : Nat) = 1 by omega, if_false] at p2
          have t1 := hrA.cell hu
          rw [eu] at t1
          have HrP := Lib.hid hrP; have HrA := Lib.hid hrA
          have hlR : (0 : Int) < (((u :: R).length : Nat) : Int) := by simp only [List.length_cons]; omega
          have hlR' : 0 < (u :: R).length := by simp only [List.length_cons]; omega
          have hcap := hq.len
          clear hq hr hb hrP hrA eu
          generalize hnQ : (u :: R).length = nQ at *
          have HnQ := Lib.hid hnQ
          clear hnQ
          go_wp2
          go_quiet (fail)
          go_wp2
          have Hq0 := Lib.hid hq0
          clear hq0 t1 p2 hcap hlR hlR'
          generalize hnu : (X (u + 2)).length = nu at *
          have Hnu := Lib.hid hnu
          have hnuM : nu ≤ 10000 := by have := HX.out.at_len u hu; omega
          clear hnu
          go_loopg [7, 46] nu (fun g s7 s46 wi => ∃ (j : Nat) (lev' : Nat → Int) (R' : List Nat), j ≤ nu ∧ g = nu - j ∧ s46 = .int .i64 (j : Int) ∧ gk + cnt (seenB lev') N = N + (u :: R').length ∧ LevI N X s lev' (u :: R') ∧ wi.rowIs w.heap.size 3 N (ri lev') ∧ QIs wi (w.heap.size + 1) s7 (u :: R') ∧ Below w.heap.size w wi ∧ ∀ j', j' < j → 0 < leftX X ((X (u + 2)).getD j' 0) → 0 ≤ lev' (toX X ((X (u + 2)).getD j' 0)))
          case atStart => exact ⟨0, lev, R, Nat.zero_le _, rfl, rfl, by rw [Hg.out, HnQ.out], Hlv.out, Hr.out.drew, ⟨b, off, cap, K, f, by rw [HnQ.out], Hq.out.below (Below.drewN' (Below.refl _ _) _)⟩, Below.drewN' Hb.out _, fun _ h => absurd h (Nat.not_lt_zero _)⟩
          case round =>
            clear Hg Hlv Hr Hb Hq Hq0 HnQ HrP HrA
            obtain ⟨j, lev', R', hj, rfl, rfl, hg, hlv, hr, hq, hb, hall⟩ := hrel
            have Hg := Lib.hid hg; have Hlv := Lib.hid hlv; have Hr := Lib.hid hr; have Hb := Lib.hid hb; have Hall := Lib.hid hall
            obtain ⟨b2, off2, cap2, K2, f2, rfl, hq⟩ := hq
            have Hq := Lib.hid hq
            clear hg hlv hall
            generalize hn2 : (u :: R').length = n2 at *
            have Hn2 := Lib.hid hn2
            clear hn2
            by_cases hlt : j < nu
            · obtain ⟨gu, cu', eu, -, -, hcu⟩ := H.out.look (show u + 2 < N + 2 by omega) (by rw [Hnu.out]; omega)
              obtain ⟨rfl, rfl⟩ : au = some ⟨gu, 0, none⟩ ∧ cu = cu' := by
                have := Eu.out.symm.trans eu
                simp only [Value.slice.injEq] at this
                exact ⟨this.1, this.2.2⟩
              have c1 := below_cell hb (hcu j (by rw [Hnu.out]; exact hlt)).1
              have hmem : (X (u + 2)).getD j 0 ∈ X (u + 2) := by
                have hj' : j < (X (u + 2)).length := by rw [Hnu.out]; exact hlt
                rw [List.getD, List.getElem?_eq_getElem hj']
                exact List.getElem_mem hj'
              obtain ⟨him, -⟩ := HX.out.at_lt u hu _ hmem
              have Hmem := Lib.hid hmem
              generalize hij : (X (u + 2)).getD j 0 = i at *
              have Hij := Lib.hid hij
              obtain ⟨gT, cT, eT, -, -, hcT⟩ := H.out.look (show 0 < N + 2 by omega) (by rw [HX.out.toL]; omega)
              obtain ⟨gL, cL, eL, -, -, hcL⟩ := H.out.look (show 1 < N + 2 by omega) (by rw [HX.out.leftL]; omega)
              have hrP := H.out.rP.of_block (hb.block _ H.out.rP.lt)
              have p0 := hrP.cell (show 0 < 3 by omega)
              have p1 := hrP.cell (show 1 < 3 by omega)
              simp only [show ¬ (1 : Nat) = 0 by omega, if_true, if_false] at p0 p1
              rw [eT, HX.out.toL] at p0
              rw [eL, HX.out.leftL] at p1
              have c2 := below_cell hb (hcT i (by rw [HX.out.toL]; exact him)).1
              have c3 := below_cell hb (hcL i (by rw [HX.out.leftL]; exact him)).1
              have htw : (X 0).getD i 0 < N := HX.out.to_lt i him
              generalize hto : (X 0).getD i 0 = tw at *
              generalize hle : (X 1).getD i 0 = le at *
              have Hto := Lib.hid (show toX X i = tw from hto); have Hle := Lib.hid (show leftX X i = le from hle)
              clear hto hle hij hmem hcu hcT hcL eT eL eu hrP
              have cw := hr.cell htw
              simp only [ri] at cw
              have fw := hr.frozen tw
              have hzi := hr.lt
              by_cases hl0 : le = 0
              · subst hl0
                clear hr hb hq cw
                go_wp2
                go_roundg (nu - (j + 1))
                case measure => go_light; omega
                case rel => exact ⟨j + 1, lev', R', by omega, rfl, by go_num, by rw [Hn2.out]; exact Hg.out, Hlv.out, Hr.out, ⟨b2, off2, cap2, K2, f2, by rw [Hn2.out], Hq.out⟩, Hb.out, fun j' hj' h0 => by
                  by_cases e : j' = j
                  · subst e; rw [Hij.out, Hle.out] at h0; omega
                  · exact Hall.out j' (by omega) h0⟩
              · have hlp : (0 : Int) < (le : Int) := by omega
                by_cases hlw : lev' tw < 0
                · have hqc := hq.cell (show 0 < (u :: R').length by simp)
                  rw [Nat.add_zero] at hqc
                  have hqc : wr.cell? ⟨b2, off2, none⟩ = some (.int .i64 (u : Int)) := hqc
                  have cu1 := hr.cell hu
                  simp only [ri] at cu1
                  have hrg := Hlv.out.rng u hu
                  have hug := (Hlv.out.qs u (by simp)).2
                  have hcn := cnt_le (seenB lev') N
                  have hwr : IntKind.i64.wrap (lev' u + 1) = lev' u + 1 := IntWalk.i64_in _ (by omega)
                  have hn2p : 0 < n2 := by rw [← Hn2.out]; simp
                  have hn2q : (0 : Int) < (n2 : Int) := by omega
                  have hroom := Hlv.out.room
                  rw [Hn2.out] at hroom
                  have hn2s : n2 < 1000000 := by omega
                  have hsz := hb.size
                  have hcap2 : n2 ≤ cap2 := by rw [← Hn2.out]; exact hq.len
                  obtain ⟨P1, P2⟩ := Hlv.out.push hu hug Hmem.out htw Hto.out (by rw [Hle.out]; omega) hlw
                  have HP1 := Lib.hid P1; have HP2 := Lib.hid P2
                  have hr5 := (row_set_ri Hr.out tw (lev' u + 1)).alloc (.cells #[.int .i64 (tw : Int)] 3)
                  have hb5 := (Hb.out.setCell (p := ⟨w.heap.size, tw, none⟩) (Nat.le_refl _) (.int .i64 (lev' u + 1))).alloc (by rw [size_setCell]; omega) (.cells #[.int .i64 (tw : Int)] 3)
                  have hq5 : QIs ((wr.setCell ⟨w.heap.size, tw, none⟩ (.int .i64 (lev' u + 1))).alloc (.cells #[.int .i64 (tw : Int)] 3)) (w.heap.size + 1) (.slice (some ⟨b2, off2, none⟩) n2 cap2) (u :: R') :=
                    QIs.below (QIs.set (w := wr) ⟨b2, off2, cap2, K2, f2, by rw [Hn2.out], Hq.out⟩ (by omega) tw _) ((Below.refl _ _).alloc (Nat.le_refl _) _)
                  have Hr5 := Lib.hid hr5; have Hb5 := Lib.hid hb5; have Hq5 := Lib.hid hq5; have Hug := Lib.hid hug
                  clear hr hb hq hr5 hb5 hq5 P1 P2 hrg hug hcn hroom
                  generalize hlu1 : lev' u + 1 = lu at *
                  go_wp2_with (at_builtin; refine wpList_append_q rfl (.tmp 82) (.tmp 84) 25 rfl Try.underlying25 info3 _ (u :: R') rfl Hq5.out _ _ tw rfl (one_cell _ _ _ _ _) (by rw [Hn2.out]; exact hn2s) (by rw [World.size_alloc, size_setCell]; omega) ?_; intro v6 w6 hq6 hb6; have Hq6 := Lib.hid hq6; have Hb6 := Lib.hid hb6; clear hq6 hb6)
                  go_roundg (nu - (j + 1))
                  case measure => go_light; omega
                  case rel =>
                    have h1 := Hg.out
                    have h2 := HP2.out
                    have h3 := Hn2.out
                    have h4 := Hug.out
                    refine ⟨j + 1, _, R' ++ [tw], by omega, rfl, by go_num, ?_, HP1.out, Hr5.out.of_block (Hb6.out.block _ (by omega)), Hq6.out, Hb5.out.trans (Hb6.out.mono (by omega)), fun j' hj' h0 => ?_⟩
                    · rw [h2, ← List.cons_append, List.length_append, h3]
                      simp only [List.length_cons, List.length_nil]
                      omega
                    · by_cases e : toX X ((X (u + 2)).getD j' 0) = tw
                      · rw [if_pos e]; omega
                      · rw [if_neg e]
                        by_cases e2 : j' = j
                        · subst e2; exact absurd (by rw [Hij.out]; exact Hto.out) e
                        · exact Hall.out j' (by omega) h0
                · have hlw' : ¬ lev' tw < 0 := hlw
                  generalize hlx : lev' tw = lx at *
                  have Hlx := Lib.hid hlx
                  have Hge := Lib.hid (show 0 ≤ lx by omega)
                  clear hr hb hq hlx
                  go_wp2
                  go_roundg (nu - (j + 1))
                  case measure => go_light; omega
                  case rel => exact ⟨j + 1, lev', R', by omega, rfl, by go_num, by rw [Hn2.out]; exact Hg.out, Hlv.out, Hr.out, ⟨b2, off2, cap2, K2, f2, by rw [Hn2.out], Hq.out⟩, Hb.out, fun j' hj' h0 => by
                    by_cases e : j' = j
                    · subst e; rw [Hij.out, Hto.out, Hlx.out]; exact Hge.out
                    · exact Hall.out j' (by omega) h0⟩
            · obtain rfl : nu = j := by omega
              have hcap := Hq.out.len
              obtain ⟨i3, hi3, -, hsz3, -⟩ := info_parts info3
              have hsl : ∀ w, (Instr.slice 25 (.slice (some ⟨b2, off2, none⟩) n2 cap2) (some (.int .i64 1)) none none).run Try.prog w = .ok (.slice (cutAt b2 off2 (cap2 - 1)) R'.length (cap2 - 1)) w := by rw [← Hn2.out]; exact run_slice_one (P := Try.prog) Try.underlying25 hi3 hsz3 b2 off2 R'.length cap2 hcap
              have hcle := cnt_le (seenB lev') N
              have Hcle := Lib.hid hcle
              clear hr hb hq hcap hi3 hsz3 hcle
              go_wp2
              go_roundg (gk - 1)
              case measure =>
                have h1 := Hg.out
                have h2 := Hcle.out
                have h3 := Hn2.out
                simp only [List.length_cons] at h3
                go_light; omega
              case rel =>
                have h1 := Hg.out
                have h2 := Hcle.out
                have h3 := Hn2.out
                simp only [List.length_cons] at h3
                refine ⟨lev', R', by omega, Hlv.out.pop fun i hi hl => ?_, Hr.out, Hq.out.cut, Hb.out⟩
                obtain ⟨j', hj', rfl⟩ := List.mem_iff_getElem.1 hi
                have e : (X (u + 2))[j'] = (X (u + 2)).getD j' 0 := by simp [List.getD, hj']
                rw [e] at hl ⊢
                exact Hall.out j' (by rw [← Hnu.out]; exact hj') hl

end Go.Proofs.Ytbnbhjeknocboaa
