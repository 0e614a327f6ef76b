/- Pairs of integers are compared. arborref.Same: are two graphs the same? arborlaw.kept. -/
import Derived.Test.YtnhhohhhpaejmaaPairMap
import Derived.ChangeKeysEq
import Derived.Test.YtnhhohhhpaejmaaGCheck
import Derived.Test.YtnhhohhhpaejmaaGood
namespace Go.Proofs.Ytnhhohhhpaejmaa
open Go.RowKit

theorem pair_equalIn (d : Nat) (x y x' y' : Int) (w : World) : (Op.equalIn (d + 1 + 1) 52 (.agg #[.int .i64 x, .int .i64 y]) (.agg #[.int .i64 x', .int .i64 y'])).run Try.prog w = .ok (decide (x = x' ∧ y = y')) w := by
  obtain ⟨i, hi, -⟩ := info_parts info3
  have hp : Try.prog.plainKey 3 = true := by kernel_rfl
  have p0 : ∀ (a b : Int), (part 3 #[.int .i64 a, .int .i64 b] 0).run Try.prog w = .ok (.int .i64 a) w := fun a b => run_part_plain w hp rfl
  have p1 : ∀ (a b : Int), (part 3 #[.int .i64 a, .int .i64 b] 1).run Try.prog w = .ok (.int .i64 b) w := fun a b => run_part_plain w hp rfl
  have q : ∀ (a b : Int), (Op.equalIn (d + 1) 3 (.int .i64 a) (.int .i64 b)).run Try.prog w = .ok (decide (a = b)) w := fun a b => by
    rw [run_equalIn_int w d _ .i64 .i64 a b Try.underlying3]
    by_cases h : a = b <;> simp [h]
  rw [run_equalIn_array w (d + 1) _ _ pair_type hi, Try.cellsInt]
  simp only [List.range, List.range.loop, Op.eqItems, Sem.run_bind, Nat.zero_mul, Nat.one_mul, Nat.mul_one, p0, p1, q, Result.andThen_ok]
  by_cases h1 : x = x' <;> by_cases h2 : y = y' <;> simp [h1, h2, p0, p1, q]

theorem pair_neq (x y x' y' : Int) (w : World) : (Op.equalIn 10000 52 (.agg #[.int .i64 x, .int .i64 y]) (.agg #[.int .i64 x', .int .i64 y'])).run Try.prog w = .ok (decide (x = x' ∧ y = y')) w := pair_equalIn 9998 x y x' y' w

end Go.Proofs.Ytnhhohhhpaejmaa
namespace Go.Proofs.Ytnhhohhhpaejmaa
open Go.RowKit

set_option maxHeartbeats 3200000 in
set_option maxRecDepth 100000 in
theorem same_any (l m : List (Int × Int)) (n p : Int) (s t : Value) (w : World) (h : IsEdges w s l) (h' : IsEdges w t m) :
    Calls Try.prog 34 #[.agg #[.int .i64 n, s], .agg #[.int .i64 p, t]] w fun e w' => e = .returned (.bool (decide (n = p ∧ l = m))) ∧ Below w.heap.size w w' := by
  obtain ⟨a, cap, bb, o, rfl, hcap, hmax, hadr, -, hcell⟩ := h
  obtain ⟨a', cap', bb', o', rfl, -, -, hadr', -, hcell'⟩ := h'
  have hb1 := below2 w (Obj.cells #[.int .i64 n, .slice a l.length cap] 24) (Obj.cells #[.int .i64 p, .slice a' m.length cap'] 24)
  have c0 := below_cell (below1 _ (Obj.cells #[.int .i64 p, .slice a' m.length cap'] 24)) (two_cells w (.int .i64 n) (.slice a l.length cap) 24).2
  have d0 := two_cells (w.alloc (Obj.cells #[.int .i64 n, .slice a l.length cap] 24)) (.int .i64 p) (.slice a' m.length cap') 24
  rw [World.size_alloc] at d0
  have Hb1 := Lib.hid hb1; have C0 := Lib.hid c0; have D0 := Lib.hid d0.2
  clear hb1 c0 d0
  by_cases hnp : n = p
  · have q1 : (n != p) = false := by simp [hnp]
    have q1' : (n == p) = true := by simp [hnp]
    by_cases hlm : l.length = m.length
    · have q2 : ((l.length : Int) != (m.length : Int)) = false := by rw [hlm]; simp
      have q2' : ((l.length : Int) == (m.length : Int)) = true := by rw [hlm]; simp
      have Hnp := Lib.hid hnp; have Hlm := Lib.hid hlm
      clear hnp hlm
      go_enter Try.func34, Try.ntmps34
      go_wp2
      generalize (w.alloc (Obj.cells #[.int .i64 n, .slice a l.length cap] 24)).alloc (Obj.cells #[.int .i64 p, .slice a' m.length cap'] 24) = w1 at *
      clear q1 q1' q2 q2'
      go_loopg [5] l.length (fun g s5 wr => ∃ k : Nat, k ≤ l.length ∧ g = l.length - k ∧ s5 = .int .i64 k ∧ Drew w1 wr ∧ ∀ j, j < k → l.getD j (0, 0) = m.getD j (0, 0))
      case atStart => exact ⟨0, Nat.zero_le _, rfl, rfl, Drew.refl _, fun _ h => absurd h (Nat.not_lt_zero _)⟩
      case round =>
        obtain ⟨k, hk, rfl, rfl, hd, hok⟩ := hrel
        have Hok := Lib.hid hok; clear hok
        have hb := hd.below (B := w1.heap.size)
        have c0 := below_cell hb C0.out
        have d0 := below_cell hb D0.out
        by_cases hlt : k < l.length
        · have hltm : k < m.length := by have := Hlm.out; omega
          obtain rfl := hadr (by omega)
          obtain rfl := hadr' (by omega)
          have hpe := pair_neq
          obtain ⟨x, y, He, cx, cy⟩ := edges_at hcell (Hb1.out.trans (hb.mono Hb1.out.size)) hlt
          obtain ⟨x', y', He', cx', cy'⟩ := edges_at hcell' (Hb1.out.trans (hb.mono Hb1.out.size)) hltm
          have Hd := Lib.hid hd
          clear hd hb hcell hcell' hadr hadr'
          by_cases hxy : x = x' ∧ y = y'
          · obtain ⟨rfl, rfl⟩ := hxy
            go_wp2
            go_quiet (fail)
            go_wp2
            go_roundg (l.length - (k + 1))
            case measure => go_light; omega
            case rel => exact ⟨k + 1, by omega, rfl, by go_num, Hd.out.add _, fun j hj => by
              by_cases e : j = k
              · rw [e, He.out, He'.out]
              · exact Hok.out j (by omega)⟩
          · have q3 : decide (x = x' ∧ y = y') = false := decide_eq_false hxy
            have Hxy := Lib.hid hxy
            clear hxy
            go_wp2
            go_quiet (fail)
            go_wp2
            go_ret
            refine ⟨ret_bool (decide_eq_false (fun e => Hxy.out ?_)).symm, Hb1.out.trans (Hd.out.add _).below⟩
            have h1 := He.out
            rw [e.2, He'.out] at h1
            simp only [Prod.mk.injEq] at h1
            exact ⟨h1.1.symm, h1.2.symm⟩
        · obtain rfl : l.length = k := by omega
          have Hd := Lib.hid hd
          clear hd hb hcell hcell' hadr hadr'
          go_wp2
          go_ret
          refine ⟨ret_bool (decide_eq_true ⟨Hnp.out, ?_⟩).symm, Hb1.out.trans Hd.out.below⟩
          refine List.ext_getElem Hlm.out fun j h1 h2 => ?_
          have := Hok.out j h1
          simpa [List.getD, h1, h2] using this
    · have q2 : ((l.length : Int) != (m.length : Int)) = true := by simp; omega
      have q2' : ((l.length : Int) == (m.length : Int)) = false := by simp; omega
      have Hnp := Lib.hid hnp; have Hlm := Lib.hid hlm
      clear hnp hlm
      go_enter Try.func34, Try.ntmps34
      go_wp2
      go_ret
      exact ⟨ret_bool (decide_eq_false (fun e => Hlm.out (by rw [e.2]))).symm, Hb1.out⟩
  · have q1 : (n != p) = true := by simp [hnp]
    have q1' : (n == p) = false := by simp [hnp]
    have Hnp := Lib.hid hnp
    clear hnp
    go_enter Try.func34, Try.ntmps34
    go_wp2
    go_ret
    exact ⟨ret_bool (decide_eq_false (fun e => Hnp.out e.1)).symm, Hb1.out⟩

end Go.Proofs.Ytnhhohhhpaejmaa
namespace Go.Proofs.Ytnhhohhhpaejmaa
open Go.RowKit

theorem upb {a b c : World} (h : Below a.heap.size a b) (k : Below b.heap.size b c) : Below a.heap.size a c := h.trans (k.mono h.size)

/-- What a function of two graphs finds: the graphs' own variables. -/
structure TwoSt (w wr : World) (n : Int) (s : Value) (l : List (Int × Int)) (m : Int) (t : Value) (k : List (Int × Int)) : Prop where
  hb : Below w.heap.size w wr
  cn : wr.cell? ⟨w.heap.size, 0, none⟩ = some (.int .i64 n)
  cs : wr.cell? ⟨w.heap.size, 1, none⟩ = some s
  dm : wr.cell? ⟨w.heap.size + 1, 0, none⟩ = some (.int .i64 m)
  dt : wr.cell? ⟨w.heap.size + 1, 1, none⟩ = some t
  he : IsEdges wr s l
  hf : IsEdges wr t k
  lt : w.heap.size + 1 < wr.heap.size
theorem TwoSt.start {w : World} {n : Int} {s : Value} {l : List (Int × Int)} {m : Int} {t : Value} {k : List (Int × Int)} (h : IsEdges w s l) (h' : IsEdges w t k) :
    TwoSt w ((w.alloc (Obj.cells #[.int .i64 n, s] 24)).alloc (Obj.cells #[.int .i64 m, t] 24)) n s l m t k := by
  have h1 := two_cells w (.int .i64 n) s 24
  have h2 := two_cells (w.alloc (Obj.cells #[.int .i64 n, s] 24)) (.int .i64 m) t 24
  rw [World.size_alloc] at h2
  exact ⟨below2 _ _ _, below_cell (below1 _ _) h1.1, below_cell (below1 _ _) h1.2, h2.1, h2.2, h.below (below2 _ _ _), h'.below (below2 _ _ _), by rw [World.size_alloc, World.size_alloc]; omega⟩
theorem TwoSt.below {w wr w' : World} {n : Int} {s : Value} {l : List (Int × Int)} {m : Int} {t : Value} {k : List (Int × Int)} (h : TwoSt w wr n s l m t k) (hb : Below wr.heap.size wr w') : TwoSt w w' n s l m t k :=
  ⟨h.hb.trans (hb.mono h.hb.size), below_cell hb h.cn, below_cell hb h.cs, below_cell hb h.dm, below_cell hb h.dt, h.he.below hb, h.hf.below hb, Nat.lt_of_lt_of_le h.lt hb.size⟩

set_option maxHeartbeats 800000 in
theorem kept_is {n m : Int} {l k : List (Int × Int)} {r : Bool} (hr : decide (n = m ∧ l = k) = r) (s t : Value) (w : World) (h : IsEdges w s l) (h' : IsEdges w t k) :
    Calls Try.prog 11 #[.agg #[.int .i64 n, s], .agg #[.int .i64 m, t]] w fun e w' => e = .returned (.bool r) ∧ Below w.heap.size w w' := by
  obtain ⟨ad, cap, rfl⟩ := h.form
  obtain ⟨ad', cap', rfl⟩ := h'.form
  have St := Lib.hid (TwoSt.start (n := n) (m := m) h h')
  have Hr := Lib.hid hr
  clear h h' hr
  go_enter Try.func11, Try.ntmps11
  go_upto_region 1 with fail
  generalize (w.alloc (Obj.cells #[.int .i64 n, .slice ad l.length cap] 24)).alloc (Obj.cells #[.int .i64 m, .slice ad' k.length cap'] 24) = w1 at *
  have cn := St.out.cn
  have cs := St.out.cs
  have dm := St.out.dm
  have dt := St.out.dt
  have hl1 := St.out.lt
  have hl0 : w.heap.size < w1.heap.size := by omega
  go_wp2_with fail
  refine (same_any l k n m _ _ _ St.out.he St.out.hf).mono ?_
  rintro e w2 ⟨rfl, hb2⟩
  rw [Hr.out]
  go_wp2
  go_ret
  exact ⟨rfl, St.out.hb.trans (hb2.mono St.out.hb.size)⟩

end Go.Proofs.Ytnhhohhhpaejmaa
