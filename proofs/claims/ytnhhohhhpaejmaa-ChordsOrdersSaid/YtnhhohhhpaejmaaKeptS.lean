/- arborlaw.kept. -/
import Derived.Test.YtnhhohhhpaejmaaGood
import Derived.Test.YtnhhohhhpaejmaaSame
namespace Go.Proofs.Ytnhhohhhpaejmaa
open Go.RowKit

theorem upb {a b c : World} (h : Below a.heap.size a b) (k : Below b.heap.size b c) : Below a.heap.size a c := h.trans (k.mono h.size)

/-- What a function of two graphs finds: the graphs' own variables. -/
structure TwoSt (w wr : World) (n : Int) (s : Value) (l : List (Int × Int)) (m : Int) (t : Value) (k : List (Int × Int)) : Prop where
  hb : Below w.heap.size w wr
  cn : wr.cell? ⟨w.heap.size, 0, none⟩ = some (.int .i64 n)
  cs : wr.cell? ⟨w.heap.size, 1, none⟩ = some s
  dm : wr.cell? ⟨w.heap.size + 1, 0, none⟩ = some (.int .i64 m)
  dt : wr.cell? ⟨w.heap.size + 1, 1, none⟩ = some t
  he : IsEdges wr s l
  hf : IsEdges wr t k
  lt : w.heap.size + 1 < wr.heap.size
theorem TwoSt.start {w : World} {n : Int} {s : Value} {l : List (Int × Int)} {m : Int} {t : Value} {k : List (Int × Int)} (h : IsEdges w s l) (h' : IsEdges w t k) :
    TwoSt w ((w.alloc (Obj.cells #[.int .i64 n, s] 24)).alloc (Obj.cells #[.int .i64 m, t] 24)) n s l m t k := by
  have h1 := two_cells w (.int .i64 n) s 24
  have h2 := two_cells (w.alloc (Obj.cells #[.int .i64 n, s] 24)) (.int .i64 m) t 24
  rw [World.size_alloc] at h2
  exact ⟨below2 _ _ _, below_cell (below1 _ _) h1.1, below_cell (below1 _ _) h1.2, h2.1, h2.2, h.below (below2 _ _ _), h'.below (below2 _ _ _), by rw [World.size_alloc, World.size_alloc]; omega⟩
theorem TwoSt.below {w wr w' : World} {n : Int} {s : Value} {l : List (Int × Int)} {m : Int} {t : Value} {k : List (Int × Int)} (h : TwoSt w wr n s l m t k) (hb : Below wr.heap.size wr w') : TwoSt w w' n s l m t k :=
  ⟨h.hb.trans (hb.mono h.hb.size), below_cell hb h.cn, below_cell hb h.cs, below_cell hb h.dm, below_cell hb h.dt, h.he.below hb, h.hf.below hb, Nat.lt_of_lt_of_le h.lt hb.size⟩

set_option maxHeartbeats 800000 in
theorem kept_is {n m : Int} {l k : List (Int × Int)} {r : Bool} (hr : decide (n = m ∧ l = k) = r) (s t : Value) (w : World) (h : IsEdges w s l) (h' : IsEdges w t k) :
    Calls Try.prog 11 #[.agg #[.int .i64 n, s], .agg #[.int .i64 m, t]] w fun e w' => e = .returned (.bool r) ∧ Below w.heap.size w w' := by
  obtain ⟨ad, cap, rfl⟩ := h.form
  obtain ⟨ad', cap', rfl⟩ := h'.form
  have St := Lib.hid (TwoSt.start (n := n) (m := m) h h')
  have Hr := Lib.hid hr
  clear h h' hr
  go_enter Try.func11, Try.ntmps11
  go_upto_region 1 with fail
  generalize (w.alloc (Obj.cells #[.int .i64 n, .slice ad l.length cap] 24)).alloc (Obj.cells #[.int .i64 m, .slice ad' k.length cap'] 24) = w1 at *
  have cn := St.out.cn
  have cs := St.out.cs
  have dm := St.out.dm
  have dt := St.out.dt
  have hl1 := St.out.lt
  have hl0 : w.heap.size < w1.heap.size := by omega
  go_wp2_with fail
  refine (same_any l k n m _ _ _ St.out.he St.out.hf).mono ?_
  rintro e w2 ⟨rfl, hb2⟩
  rw [Hr.out]
  go_wp2
  go_ret
  exact ⟨rfl, St.out.hb.trans (hb2.mono St.out.hb.size)⟩

end Go.Proofs.Ytnhhohhhpaejmaa
