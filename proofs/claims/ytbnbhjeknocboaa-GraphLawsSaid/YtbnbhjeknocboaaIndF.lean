/- arborref.InducedFault. -/
import Derived.Test.YtbnbhjeknocboaaIndP
namespace Go.Proofs.Ytbnbhjeknocboaa
open Go.RowKit

/-- A fault is laid into a result variable. -/
theorem two_set {w wx : World} {B : Nat} {T : TypeId} {f : Nat → Value} (h : wx.rowIs B T 2 f) (hb : Below w.heap.size w wx) (hB : w.heap.size ≤ B) (x y : Value) :
    ((wx.setCell ⟨B, 0, none⟩ x).setCell ⟨B, 1, none⟩ y).cell? ⟨B, 0, none⟩ = some x ∧ ((wx.setCell ⟨B, 0, none⟩ x).setCell ⟨B, 1, none⟩ y).cell? ⟨B, 1, none⟩ = some y ∧
      Below w.heap.size w ((wx.setCell ⟨B, 0, none⟩ x).setCell ⟨B, 1, none⟩ y) := by
  have a := (h.set 0 x).set 1 y
  exact ⟨a.cell (show 0 < 2 by omega), a.cell (show 1 < 2 by omega), (hb.setCell (p := ⟨B, 0, none⟩) hB _).setCell (p := ⟨B, 1, none⟩) hB _⟩

set_option maxHeartbeats 6400000 in
set_option maxRecDepth 100000 in
theorem indFault_any {N : Nat} {l : List (Int × Int)} {m : List Int} {c a : Int} (hs : IndSpec N m c a) (s u : Value) (w : World) (h : IsEdges w s l) (hm : IsInts w u m) :
    Calls Try.prog 22 #[.agg #[.int .i64 (N : Int), s], u] w (FaultIs c a w) := by
  obtain ⟨ad, cap, rfl⟩ := h.form
  obtain ⟨am, cm, bm, om, rfl, hcap, hmax, hadr, -, hcell⟩ := hm
  have Hs := Lib.hid hs
  have h1 := two_cells w (.int .i64 (N : Int)) (.slice ad l.length cap) 24
  have r1 := two_row (w.alloc (Obj.cells #[.int .i64 (N : Int), .slice ad l.length cap] 24)) (.int .i64 0) (.int .i64 0) 28
  rw [World.size_alloc] at r1
  have cn1 := below_cell (below1 (w.alloc (Obj.cells #[.int .i64 (N : Int), .slice ad l.length cap] 24)) (Obj.cells #[.int .i64 0, .int .i64 0] 28)) h1.1
  have hb1 := below2 w (Obj.cells #[.int .i64 (N : Int), .slice ad l.length cap] 24) (Obj.cells #[.int .i64 0, .int .i64 0] 28)
  have R1 := Lib.hid r1
  have Cn1 := Lib.hid cn1
  have Hb1 := Lib.hid hb1
  clear hs h h1 r1 cn1 hb1
  go_enter Try.func22, Try.ntmps22
  go_wp2
  generalize (w.alloc (Obj.cells #[.int .i64 (N : Int), .slice ad l.length cap] 24)).alloc (Obj.cells #[.int .i64 0, .int .i64 0] 28) = w1 at *
  go_loopg [5] m.length (fun g s5 wr => ∃ k : Nat, k ≤ m.length ∧ g = m.length - k ∧ s5 = .int .i64 k ∧ Below w1.heap.size w1 wr ∧ ∀ j, j < k → IFine N m j)
  case atStart => exact ⟨0, Nat.zero_le _, rfl, rfl, Below.refl _ _, fun _ h => absurd h (Nat.not_lt_zero _)⟩
  case round =>
    obtain ⟨k, hk, rfl, rfl, hb, hf⟩ := hrel
    have hb0 := Hb1.out.trans (hb.mono Hb1.out.size)
    have R2 := Lib.hid (R1.out.of_block (hb.block _ R1.out.lt))
    have cn := below_cell hb Cn1.out
    obtain ⟨z0, z1, f0, f1, l0⟩ := row_facts R2.out
    have Hb0 := Lib.hid hb0
    have Hf := Lib.hid hf
    by_cases hlt : k < m.length
    · obtain rfl := hadr (by omega)
      obtain ⟨x, Hx, cx⟩ := ints_at hcell hb0 hlt
      have HB := Lib.hid hb
      clear hb hb0 hf
      by_cases hlo : x < 0
      · have hbad : IBad N m k 3 := ⟨hlt, Hf.out, Or.inl ⟨fun hi => by unfold inI at hi; rw [Hx.out] at hi; omega, rfl⟩⟩
        obtain ⟨rfl, rfl⟩ := Hs.out.bad hbad
        clear hbad
        go_wp2
        go_quiet (fail)
        have HB9 := Lib.hid (Below.drewN' Hb0.out nq)
        have R3 : (wr.drewN nq).rowIs (w.heap.size + 1) 28 2 (fun i => if i = 0 then .int .i64 0 else .int .i64 0) := R2.out
        clear z0 z1 f0 f1 l0 R2
        generalize wr.drewN nq = wq at *
        obtain ⟨z0, z1, f0, f1, l0⟩ := row_facts R3
        go_wp2_with (go_at_call 20; refine (F_any _ _ _).mono ?_; rintro e wf ⟨rfl, rfl⟩)
        obtain ⟨e0, e1, hfin⟩ := two_set R3 HB9.out (show w.heap.size ≤ w.heap.size + 1 by omega) (.int .i64 3) (.int .i64 (k : Int))
        have g0 := below_cell (below1 _ (Obj.cells #[Value.int .i64 3, .int .i64 (k : Int)] 28)) e0
        have g1 := below_cell (below1 _ (Obj.cells #[Value.int .i64 3, .int .i64 (k : Int)] 28)) e1
        exact bodyPost_ret (v := .agg #[.int .i64 3, .int .i64 (k : Int)]) (by simp [results, Try.results22, go_sem, g0, g1]) rfl ⟨rfl, hfin.alloc hfin.size _⟩
      · by_cases hhi : (N : Int) ≤ x
        · have hbad : IBad N m k 3 := ⟨hlt, Hf.out, Or.inl ⟨fun hi => by unfold inI at hi; rw [Hx.out] at hi; omega, rfl⟩⟩
          obtain ⟨rfl, rfl⟩ := Hs.out.bad hbad
          clear hbad
          go_wp2
          go_quiet (fail)
          have HB9 := Lib.hid (Below.drewN' Hb0.out nq)
          have R3 : (wr.drewN nq).rowIs (w.heap.size + 1) 28 2 (fun i => if i = 0 then .int .i64 0 else .int .i64 0) := R2.out
          clear z0 z1 f0 f1 l0 R2
          generalize wr.drewN nq = wq at *
          obtain ⟨z0, z1, f0, f1, l0⟩ := row_facts R3
          go_wp2_with (go_at_call 20; refine (F_any _ _ _).mono ?_; rintro e wf ⟨rfl, rfl⟩)
          obtain ⟨e0, e1, hfin⟩ := two_set R3 HB9.out (show w.heap.size ≤ w.heap.size + 1 by omega) (.int .i64 3) (.int .i64 (k : Int))
          have g0 := below_cell (below1 _ (Obj.cells #[Value.int .i64 3, .int .i64 (k : Int)] 28)) e0
          have g1 := below_cell (below1 _ (Obj.cells #[Value.int .i64 3, .int .i64 (k : Int)] 28)) e1
          exact bodyPost_ret (v := .agg #[.int .i64 3, .int .i64 (k : Int)]) (by simp [results, Try.results22, go_sem, g0, g1]) rfl ⟨rfl, hfin.alloc hfin.size _⟩
        · have hin : inI N m k := by unfold inI; rw [Hx.out]; omega
          have Hin := Lib.hid hin
          clear hin
          go_wp2
          go_quiet (fail)
          clear z0 z1 f0 f1 l0 R2 cn Hb0
          have HB2 := Lib.hid (Below.drewN' HB.out nq)
          clear HB
          generalize wr.drewN nq = wq at *
          go_wp2
          go_loopg [6] k (fun g s6 wr => ∃ j : Nat, j ≤ k ∧ g = k - j ∧ s6 = .int .i64 j ∧ Below w1.heap.size w1 wr ∧ ∀ i, i < j → m.getD i 0 ≠ m.getD k 0)
          case atStart => exact ⟨0, Nat.zero_le _, rfl, rfl, HB2.out, fun _ h => absurd h (Nat.not_lt_zero _)⟩
          case round =>
            obtain ⟨j, hj, rfl, rfl, hb, hne⟩ := hrel
            have hb0 := Hb1.out.trans (hb.mono Hb1.out.size)
            have Hne := Lib.hid hne
            have HB3 := Lib.hid hb
            have HB0 := Lib.hid hb0
            clear hne
            by_cases hjk : j < k
            · obtain ⟨y, Hy, cy⟩ := ints_at hcell hb0 (show j < m.length by omega)
              have cx := below_cell hb0 (hcell k hlt)
              rw [Hx.out] at cx
              have R2 := Lib.hid (R1.out.of_block (hb.block _ R1.out.lt))
              obtain ⟨z0, z1, f0, f1, l0⟩ := row_facts R2.out
              clear hb hb0
              by_cases e : y = x
              · have q := ieq e
                have hbad : IBad N m k 5 := ⟨hlt, Hf.out, Or.inr ⟨Hin.out, ⟨j, hjk, by rw [Hy.out, Hx.out, e]⟩, rfl⟩⟩
                obtain ⟨rfl, rfl⟩ := Hs.out.bad hbad
                clear hbad e
                go_wp2
                go_quiet (fail)
                have HB9 := Lib.hid (Below.drewN' HB0.out nq)
                have R3 : (wr.drewN nq).rowIs (w.heap.size + 1) 28 2 (fun i => if i = 0 then .int .i64 0 else .int .i64 0) := R2.out
                clear z0 z1 f0 f1 l0 R2
                generalize wr.drewN nq = wq at *
                obtain ⟨z0, z1, f0, f1, l0⟩ := row_facts R3
                go_wp2_with (go_at_call 20; refine (F_any _ _ _).mono ?_; rintro e wf ⟨rfl, rfl⟩)
                obtain ⟨e0, e1, hfin⟩ := two_set R3 HB9.out (show w.heap.size ≤ w.heap.size + 1 by omega) (.int .i64 5) (.int .i64 (k : Int))
                have g0 := below_cell (below1 _ (Obj.cells #[Value.int .i64 5, .int .i64 (k : Int)] 28)) e0
                have g1 := below_cell (below1 _ (Obj.cells #[Value.int .i64 5, .int .i64 (k : Int)] 28)) e1
                exact bodyPost_ret (v := .agg #[.int .i64 5, .int .i64 (k : Int)]) (by simp [results, Try.results22, go_sem, g0, g1]) rfl ⟨rfl, hfin.alloc hfin.size _⟩
              · have q := ine e
                have E := Lib.hid e
                clear e R2 z0 z1 f0 f1 l0
                go_wp2
                go_quiet (fail)
                go_wp2
                go_roundg (k - (j + 1))
                case measure => go_light; omega
                case rel => exact ⟨j + 1, by omega, rfl, by go_num, Below.drewN' HB3.out _, fun i hi => by
                  by_cases e : i = j
                  · rw [e, Hy.out, Hx.out]; exact E.out
                  · exact Hne.out i (by omega)⟩
            · obtain rfl : j = k := by omega
              clear hb hb0
              go_wp2
              go_roundg (m.length - (j + 1))
              case measure => go_light; omega
              case rel => exact ⟨j + 1, by omega, rfl, by go_num, HB3.out, fun i hi => by
                by_cases e : i = j
                · rw [e]; exact ⟨Hin.out, fun ⟨q, h1, h2⟩ => Hne.out q h1 h2⟩
                · exact Hf.out i (by omega)⟩
    · obtain rfl : k = m.length := by omega
      clear hb hb0 hf hcell hadr
      obtain ⟨rfl, rfl⟩ := Hs.out.fine Hf.out
      go_wp2
      obtain ⟨e0, e1, hfin⟩ := two_set R2.out Hb0.out (show w.heap.size ≤ w.heap.size + 1 by omega) (.int .i64 0) (.int .i64 0)
      exact bodyPost_ret (v := .agg #[.int .i64 0, .int .i64 0]) (by simp [results, Try.results22, go_sem, e0, e1]) rfl ⟨rfl, hfin⟩

end Go.Proofs.Ytbnbhjeknocboaa
