/- minor.Within. -/
import Derived.Test.YtfflnpcbpcldeaaWithin1
import Derived.Test.YtfflnpcbpcldeaaTwoFault
import Derived.Test.YtfflnpcbpcldeaaMasks
import Derived.Test.YtfflnpcbpcldeaaTwo
import Derived.Laws.EntriesVeiled
namespace Go.Proofs.Ytfflnpcbpcldeaa
open Go.RowKit

/-- A list comes back, or none; and a fault. -/
def WithinPost (r : Option (List Nat)) (c a : Int) (w : World) (e : Ending) (w' : World) : Prop :=
  Below w.heap.size w w' ∧ ((∃ l v, r = some l ∧ e = .returned (.tuple #[v, .bool true, .agg #[.int .i64 c, .int .i64 a]]) ∧ IsInts w' v (ints l)) ∨
  (r = none ∧ e = .returned (.tuple #[.slice none 0 0, .bool false, .agg #[.int .i64 c, .int .i64 a]])))

/-- The variables of minor.Within: two graphs, a list, a fault. -/
structure WSt (w wr : World) (n : Int) (s : Value) (l : List (Int × Int)) (m : Int) (t : Value) (k : List (Int × Int)) : Prop where
  ts : TwoSt w wr n s l m t k
  rt : wr.heap[w.heap.size + 1 + 1]? = some (.cells #[.slice none 0 0] 51 (0, 0))
  rf : wr.rowIs (w.heap.size + 1 + 1 + 1) 27 2 (fun i => if i = 0 then .int .i64 0 else .int .i64 0)
section
variable {w wr w' : World} {n : Int} {s : Value} {l : List (Int × Int)} {m : Int} {t : Value} {k : List (Int × Int)}
theorem WSt.below (h : WSt w wr n s l m t k) (hb : Below wr.heap.size wr w') : WSt w w' n s l m t k :=
  ⟨h.ts.below hb, by rw [hb.block _ (lt_of_block h.rt)]; exact h.rt, h.rf.of_block (hb.block _ h.rf.lt)⟩
theorem WSt.start (h : IsEdges w s l) (h' : IsEdges w t k) :
    WSt w ((((w.alloc (Obj.cells #[.int .i64 n, s] 24)).alloc (Obj.cells #[.int .i64 m, t] 24)).alloc (Obj.cells #[.slice none 0 0] 51)).alloc (Obj.cells #[.int .i64 0, .int .i64 0] 27)) n s l m t k := by
  have st := TwoSt.start (n := n) (m := m) h h'
  have h1 := heap_alloc_new ((w.alloc (Obj.cells #[.int .i64 n, s] 24)).alloc (Obj.cells #[.int .i64 m, t] 24)) (Obj.cells #[.slice none 0 0] 51)
  have h2 := two_row (((w.alloc (Obj.cells #[.int .i64 n, s] 24)).alloc (Obj.cells #[.int .i64 m, t] 24)).alloc (Obj.cells #[.slice none 0 0] 51)) (.int .i64 0) (.int .i64 0) 27
  rw [World.size_alloc, World.size_alloc] at h1
  rw [World.size_alloc, World.size_alloc, World.size_alloc] at h2
  exact ⟨st.below (below2 _ _ _), by rw [(below1 _ _).block _ (by rw [World.size_alloc, World.size_alloc, World.size_alloc]; omega)]; exact h1, h2⟩
theorem WSt.facts (h : WSt w wr n s l m t k) : wr.cell? ⟨w.heap.size, 0, none⟩ = some (.int .i64 n) ∧ wr.cell? ⟨w.heap.size, 1, none⟩ = some s ∧ wr.cell? ⟨w.heap.size + 1, 0, none⟩ = some (.int .i64 m) ∧ wr.cell? ⟨w.heap.size + 1, 1, none⟩ = some t ∧
    wr.cell? ⟨w.heap.size + 1 + 1, 0, none⟩ = some (.slice none 0 0) ∧ wr.frozen? ⟨w.heap.size + 1 + 1, 0, none⟩ = false ∧ wr.cell? ⟨w.heap.size + 1 + 1 + 1, 0, none⟩ = some (.int .i64 0) ∧ wr.cell? ⟨w.heap.size + 1 + 1 + 1, 1, none⟩ = some (.int .i64 0) ∧
    wr.frozen? ⟨w.heap.size + 1 + 1 + 1, 0, none⟩ = false ∧ wr.frozen? ⟨w.heap.size + 1 + 1 + 1, 1, none⟩ = false ∧ w.heap.size + 1 + 1 + 1 < wr.heap.size := by
  obtain ⟨z0, z1, f0, f1, l0⟩ := row_facts h.rf
  exact ⟨h.ts.cn, h.ts.cs, h.ts.dm, h.ts.dt, cell_of_one h.rt, free_of_one h.rt, z0, z1, f0, f1, l0⟩
/-- What the three results read as at the end. -/
theorem WSt.fin (h : WSt w wr n s l m t k) (v : Value) (c a : Int) :
    (((wr.setCell ⟨w.heap.size + 1 + 1, 0, none⟩ v).setCell ⟨w.heap.size + 1 + 1 + 1, 0, none⟩ (.int .i64 c)).setCell ⟨w.heap.size + 1 + 1 + 1, 1, none⟩ (.int .i64 a)).cell? ⟨w.heap.size + 1 + 1, 0, none⟩ = some v ∧
    (((wr.setCell ⟨w.heap.size + 1 + 1, 0, none⟩ v).setCell ⟨w.heap.size + 1 + 1 + 1, 0, none⟩ (.int .i64 c)).setCell ⟨w.heap.size + 1 + 1 + 1, 1, none⟩ (.int .i64 a)).cell? ⟨w.heap.size + 1 + 1 + 1, 0, none⟩ = some (.int .i64 c) ∧
    (((wr.setCell ⟨w.heap.size + 1 + 1, 0, none⟩ v).setCell ⟨w.heap.size + 1 + 1 + 1, 0, none⟩ (.int .i64 c)).setCell ⟨w.heap.size + 1 + 1 + 1, 1, none⟩ (.int .i64 a)).cell? ⟨w.heap.size + 1 + 1 + 1, 1, none⟩ = some (.int .i64 a) ∧
    Below w.heap.size w (((wr.setCell ⟨w.heap.size + 1 + 1, 0, none⟩ v).setCell ⟨w.heap.size + 1 + 1 + 1, 0, none⟩ (.int .i64 c)).setCell ⟨w.heap.size + 1 + 1 + 1, 1, none⟩ (.int .i64 a)) := by
  have hr := row_put (h.rf.setOther (a := ⟨w.heap.size + 1 + 1, 0, none⟩) (show w.heap.size + 1 + 1 + 1 ≠ w.heap.size + 1 + 1 by omega) v) (.int .i64 c) (.int .i64 a)
  obtain ⟨z0, z1, f0, f1, l0⟩ := row_facts hr
  refine ⟨?_, z0, z1, ((h.ts.hb.setCell (p := ⟨w.heap.size + 1 + 1, 0, none⟩) (show w.heap.size ≤ w.heap.size + 1 + 1 by omega) _).setCell (p := ⟨w.heap.size + 1 + 1 + 1, 0, none⟩) (show w.heap.size ≤ w.heap.size + 1 + 1 + 1 by omega) _).setCell (p := ⟨w.heap.size + 1 + 1 + 1, 1, none⟩) (show w.heap.size ≤ w.heap.size + 1 + 1 + 1 by omega) _⟩
  rw [World.cell?_setCell_far _ _ _ _ (show w.heap.size + 1 + 1 + 1 ≠ w.heap.size + 1 + 1 by omega), World.cell?_setCell_far _ _ _ _ (show w.heap.size + 1 + 1 + 1 ≠ w.heap.size + 1 + 1 by omega)]
  exact World.cell?_setCell_same _ _ _ (cell_of_one h.rt)
end

set_option maxHeartbeats 3200000 in
set_option maxRecDepth 100000 in
theorem within_bad {n : Int} {l : List (Int × Int)} {m : Int} {k : List (Int × Int)} {c a : Int} (hs : FewSpec n l m k c a) (hc : c ≠ 0) (s t : Value) (w : World) (h : IsEdges w s l) (h' : IsEdges w t k) :
    Calls Try.prog 38 #[.agg #[.int .i64 n, s], .agg #[.int .i64 m, t]] w (WithinPost none c a w) := by
  obtain ⟨ad, cap, rfl⟩ := h.form
  obtain ⟨ad', cap', rfl⟩ := h'.form
  have St := Lib.hid (WSt.start (n := n) (m := m) h h')
  have Hs := Lib.hid hs
  have q : (c != 0) = true := by simpa using hc
  clear hs h h' hc
  go_enter Try.func38, Try.ntmps38
  go_upto_region 1 with fail
  generalize (((w.alloc (Obj.cells #[.int .i64 n, .slice ad l.length cap] 24)).alloc (Obj.cells #[.int .i64 m, .slice ad' k.length cap'] 24)).alloc (Obj.cells #[.slice none 0 0] 51)).alloc (Obj.cells #[.int .i64 0, .int .i64 0] 27) = w1 at *
  obtain ⟨u0, u1, u2, u3, u4, u5, u6, u7, u8, u9, u10⟩ := St.out.facts
  go_wp2_with fail
  refine (look_is Hs.out _ _ _ St.out.ts.he St.out.ts.hf).mono ?_
  rintro e w2 ⟨rfl, hb2⟩
  have S2 := Lib.hid ((St.out.below hb2).below (below1 w2 (Obj.cells #[.int .i64 c, .int .i64 a] 27)))
  have R2 := Lib.hid (VarF.new w2 c a 27)
  have hl2 := (St.out.below hb2).facts.2.2.2.2.2.2.2.2.2.2
  clear u0 u1 u2 u3 u4 u5 u6 u7 u8 u9 u10 hb2
  go_upto_region 3 with fail
  generalize w2.heap.size = F at *
  generalize w2.alloc (Obj.cells #[.int .i64 c, .int .i64 a] 27) = w3 at *
  obtain ⟨u0, u1, u2, u3, u4, u5, u6, u7, u8, u9, u10⟩ := S2.out.facts
  have c0 := R2.out.c0
  have c1 := R2.out.c1
  go_region
  all_goals
    obtain ⟨e0, e1, e2, hfin⟩ := S2.out.fin (.slice none 0 0) c a
    have hfin := hfin.drew
    go_wp2
    exact bodyPost_ret (v := .tuple #[.slice none 0 0, .bool false, .agg #[.int .i64 c, .int .i64 a]]) (by simp [results, Try.results38, go_sem, e0, e1, e2]) rfl ⟨hfin, Or.inr ⟨rfl, rfl⟩⟩

theorem eg_masks : ∀ args w, (callFunc 75 args).run Try.prog w = .ok (.enter 75 args) w := enters_of Try.func75 (by kernel_rfl) rfl

/-- Numbers in a block of one's own, between B and T. -/
def NumsIn (N : Nat) (M : Nat → Nat) (B T : Nat) (w : World) (v : Value) : Prop := ∃ b, v = .slice (some ⟨b, 0, none⟩) N N ∧ B ≤ b ∧ b < T ∧ w.rowIs b 3 N (rn M)
theorem NumsIn.stays (N : Nat) (M : Nat → Nat) : Stays (NumsIn N M) := fun _ _ _ _ _ ⟨b, h1, h2, h3, h4⟩ _ hb => ⟨b, h1, h2, h3, h4.of_block (hb.block _ h4.lt)⟩
theorem NumsPost.inside {N : Nat} {M : Nat → Nat} {w w' : World} {e : Ending} (h : NumsPost N M w e w') : ∃ v, e = .returned v ∧ NumsIn N M w.heap.size w'.heap.size w' v ∧ Below w.heap.size w w' := by
  obtain ⟨b, h1, h2, h3, h4⟩ := h
  exact ⟨_, h1, ⟨b, rfl, h2, h3.lt, h3⟩, h4⟩

/-- The function literal, and what it has captured. -/
abbrev wfun (T H G W N' F : Nat) : Value := .func (.func 81) #[] #[.pointer (some ⟨T, 0, none⟩), .pointer (some ⟨H, 0, none⟩), .pointer (some ⟨G, 0, none⟩), .pointer (some ⟨W, 0, none⟩), .pointer (some ⟨N', 0, none⟩), .pointer (some ⟨F, 0, none⟩)]

theorem wenv_start {w w4 : World} {N M : Nat} {s t : Value} {l k : List (Int × Int)} {mg mh : Nat → Nat} {X Y rA rB : Nat} (h : WSt w w4 (N : Int) s l (M : Int) t k)
    (hX : w4.heap[X]? = some (.cells #[.slice none 0 0] 51 (0, 0))) (hY : w4.heap[Y]? = some (.cells #[.slice none 0 0] 51 (0, 0))) (hXY : X ≠ Y)
    (ha : w4.rowIs rA 3 N (rn mg)) (hb : w4.rowIs rB 3 M (rn mh)) (nAX : rA ≠ X) (nAY : rA ≠ Y) (nBX : rB ≠ X) (nBY : rB ≠ Y) (x1 : w.heap.size + 1 + 1 + 1 < X) (y1 : w.heap.size + 1 + 1 + 1 < Y) (a1 : w.heap.size + 1 + 1 + 1 < rA) (b1 : w.heap.size + 1 + 1 + 1 < rB) :
    WEnv ((((w4.setCell ⟨X, 0, none⟩ (.slice (some ⟨rA, 0, none⟩) N N)).setCell ⟨Y, 0, none⟩ (.slice (some ⟨rB, 0, none⟩) M M)).alloc (Obj.cells #[wfun (w.heap.size + 1 + 1) (w.heap.size + 1) w.heap.size Y X w4.heap.size] 107))) N M mg mh
      (w.heap.size + 1 + 1) (w.heap.size + 1) w.heap.size Y X w4.heap.size rB rA (w4.heap.size + 1) := by
  have lX := lt_of_block hX
  have lY := lt_of_block hY
  have lA := ha.lt
  have lB := hb.lt
  have far : ∀ {b o : Nat} {v : Value}, b ≠ X → b ≠ Y → w4.cell? ⟨b, o, none⟩ = some v → ((w4.setCell ⟨X, 0, none⟩ (.slice (some ⟨rA, 0, none⟩) N N)).setCell ⟨Y, 0, none⟩ (.slice (some ⟨rB, 0, none⟩) M M)).cell? ⟨b, o, none⟩ = some v := fun h1 h2 hc => by
    rw [World.cell?_setCell_far _ _ _ _ (Ne.symm h2), World.cell?_setCell_far _ _ _ _ (Ne.symm h1)]; exact hc
  have sz : ((w4.setCell ⟨X, 0, none⟩ (.slice (some ⟨rA, 0, none⟩) N N)).setCell ⟨Y, 0, none⟩ (.slice (some ⟨rB, 0, none⟩) M M)).heap.size = w4.heap.size := by rw [size_setCell, size_setCell]
  have cX : ((w4.setCell ⟨X, 0, none⟩ (.slice (some ⟨rA, 0, none⟩) N N)).setCell ⟨Y, 0, none⟩ (.slice (some ⟨rB, 0, none⟩) M M)).cell? ⟨X, 0, none⟩ = some (.slice (some ⟨rA, 0, none⟩) N N) := by
    rw [World.cell?_setCell_far _ _ _ _ (Ne.symm hXY)]; exact World.cell?_setCell_same _ _ _ (cell_of_one hX)
  have cY : ((w4.setCell ⟨X, 0, none⟩ (.slice (some ⟨rA, 0, none⟩) N N)).setCell ⟨Y, 0, none⟩ (.slice (some ⟨rB, 0, none⟩) M M)).cell? ⟨Y, 0, none⟩ = some (.slice (some ⟨rB, 0, none⟩) M M) := by
    refine World.cell?_setCell_same (u := .slice none 0 0) _ _ _ ?_
    rw [World.cell?_setCell_far _ _ _ _ hXY]; exact cell_of_one hY
  have hb' := below1 ((w4.setCell ⟨X, 0, none⟩ (.slice (some ⟨rA, 0, none⟩) N N)).setCell ⟨Y, 0, none⟩ (.slice (some ⟨rB, 0, none⟩) M M)) (Obj.cells #[wfun (w.heap.size + 1 + 1) (w.heap.size + 1) w.heap.size Y X w4.heap.size] 107)
  refine ⟨below_cell hb' (far (by omega) (by omega) h.ts.cn), below_cell hb' (far (by omega) (by omega) h.ts.dm), below_cell hb' cY, below_cell hb' cX, ?_, ?_, ?_, by omega, by omega, by rw [World.size_alloc, sz]; omega⟩
  · exact (((hb.setOther (a := ⟨X, 0, none⟩) nBX _).setOther (a := ⟨Y, 0, none⟩) nBY _).of_block (hb'.block _ (by rw [sz]; exact lB)))
  · exact (((ha.setOther (a := ⟨X, 0, none⟩) nAX _).setOther (a := ⟨Y, 0, none⟩) nAY _).of_block (hb'.block _ (by rw [sz]; exact lA)))
  · rw [World.cell?_alloc_at _ _ _ _ sz.symm]; rfl

/-- Three results. -/
theorem fin3 {w : World} {T F : Nat} {v0 x y : Value} (ht : w.heap[T]? = some (.cells #[v0] 51 (0, 0))) (hf : w.rowIs F 27 2 (fun i => if i = 0 then x else y)) (hne : T ≠ F) (v : Value) (c a : Int) :
    (((w.setCell ⟨T, 0, none⟩ v).setCell ⟨F, 0, none⟩ (.int .i64 c)).setCell ⟨F, 1, none⟩ (.int .i64 a)).cell? ⟨T, 0, none⟩ = some v ∧
    (((w.setCell ⟨T, 0, none⟩ v).setCell ⟨F, 0, none⟩ (.int .i64 c)).setCell ⟨F, 1, none⟩ (.int .i64 a)).cell? ⟨F, 0, none⟩ = some (.int .i64 c) ∧
    (((w.setCell ⟨T, 0, none⟩ v).setCell ⟨F, 0, none⟩ (.int .i64 c)).setCell ⟨F, 1, none⟩ (.int .i64 a)).cell? ⟨F, 1, none⟩ = some (.int .i64 a) := by
  have hr := row_put (hf.setOther (a := ⟨T, 0, none⟩) (Ne.symm hne) v) (.int .i64 c) (.int .i64 a)
  obtain ⟨z0, z1, f0, f1, l0⟩ := row_facts hr
  refine ⟨?_, z0, z1⟩
  rw [World.cell?_setCell_far _ _ _ _ (Ne.symm hne), World.cell?_setCell_far _ _ _ _ (Ne.symm hne)]
  exact World.cell?_setCell_same _ _ _ (cell_of_one ht)

set_option maxHeartbeats 6400000 in
set_option maxRecDepth 100000 in
theorem within_ok {N M : Nat} {l k : List (Int × Int)} (hs : FewSpec N l M k 0 0) (s t : Value) (w : World) (h : IsEdges w s l) (h' : IsEdges w t k) :
    Calls Try.prog 38 #[.agg #[.int .i64 (N : Int), s], .agg #[.int .i64 (M : Int), t]] w (WithinPost (tryF N (adj l) (adj k) M []) 0 0 w) := by
  obtain ⟨ad, cap, rfl⟩ := h.form
  obtain ⟨ad', cap', rfl⟩ := h'.form
  have St := Lib.hid (WSt.start (n := (N : Int)) (m := (M : Int)) h h')
  have Hs := Lib.hid hs
  obtain ⟨g1, g2, hN, hM, -⟩ := hs.good
  have G1 := Lib.hid g1
  have G2 := Lib.hid g2
  clear hs h h' g1 g2
  go_enter Try.func38, Try.ntmps38
  go_upto_region 1 with fail
  generalize (((w.alloc (Obj.cells #[.int .i64 (N : Int), .slice ad l.length cap] 24)).alloc (Obj.cells #[.int .i64 (M : Int), .slice ad' k.length cap'] 24)).alloc (Obj.cells #[.slice none 0 0] 51)).alloc (Obj.cells #[.int .i64 0, .int .i64 0] 27) = w1 at *
  obtain ⟨u0, u1, u2, u3, u4, u5, u6, u7, u8, u9, u10⟩ := St.out.facts
  go_wp2_with fail
  refine (look_is Hs.out _ _ _ St.out.ts.he St.out.ts.hf).mono ?_
  rintro e w2 ⟨rfl, hb2⟩
  have S2 := Lib.hid ((St.out.below hb2).below (below1 w2 (Obj.cells #[.int .i64 0, .int .i64 0] 27)))
  have hl2 := (St.out.below hb2).facts.2.2.2.2.2.2.2.2.2.2
  clear u0 u1 u2 u3 u4 u5 u6 u7 u8 u9 u10 hb2
  go_upto_region 4 with fail
  generalize w2.heap.size = F at *
  generalize w2.alloc (Obj.cells #[.int .i64 0, .int .i64 0] 27) = w3 at *
  have S3 := Lib.hid (S2.out.below (Below.refl _ _).drew)
  have hok : ∀ j, j < l.length → EndsOk (N : Int) (l.getD j (0, 0)) ∧ (l.getD j (0, 0)).1 ≠ (l.getD j (0, 0)).2 := fun j hj => ⟨(G1.out.fine j hj).1, (G1.out.fine j hj).2.1⟩
  have hok' : ∀ j, j < k.length → EndsOk (M : Int) (k.getD j (0, 0)) ∧ (k.getD j (0, 0)).1 ≠ (k.getD j (0, 0)).2 := fun j hj => ⟨(G2.out.fine j hj).1, (G2.out.fine j hj).2.1⟩
  have Hok := Lib.hid hok
  have Hok' := Lib.hid hok'
  clear hok hok'
  refine two_calls (obj := Obj.cells #[.slice none 0 0] 51) (x := .agg #[.int .i64 (N : Int), .slice ad l.length cap]) (y := .agg #[.int .i64 (M : Int), .slice ad' k.length cap']) (pA := .pointer (some ⟨w.heap.size, 0, none⟩)) (pB := .pointer (some ⟨w.heap.size + 1, 0, none⟩))
    (RA := NumsIn N (near l N)) (RB := NumsIn M (near k M)) ?hT (by kernel_rfl) (NumsIn.stays _ _) (NumsIn.stays _ _) eg_masks eg_masks ?hal rfl rfl ?hlA ?hlB ?hcA ?hcB rfl (by kernel_rfl) (by kernel_rfl) (by kernel_rfl) (by kernel_rfl) ?h
  case hT => constructor <;> simp
  case hal => intro wx; go_simp
  case hlA =>
    intro wx hb
    obtain ⟨u0, u1, u2, u3, u4, u5, u6, u7, u8, u9, u10⟩ := (S3.out.below hb).facts
    go_simp
  case hlB =>
    intro wx hb
    obtain ⟨u0, u1, u2, u3, u4, u5, u6, u7, u8, u9, u10⟩ := (S3.out.below hb).facts
    go_simp
  case hcA =>
    intro wx hb
    exact (masks_any l N _ wx ((S3.out.below hb).ts.he) (by omega) Hok.out).mono fun _ _ h => h.inside
  case hcB =>
    intro wx hb
    exact (masks_any k M _ wx ((S3.out.below hb).ts.hf) (by omega) Hok'.out).mono fun _ _ h => h.inside
  case h =>
    intro X Y vA vB BA TA BB TB w4 hI
    simp only [ptr]
    obtain ⟨⟨rA, rfl, a1, a2, a3⟩, a0, -⟩ := hI.hA rfl
    obtain ⟨⟨rB, rfl, d1, d2, d3⟩, d0, -⟩ := hI.hB rfl
    obtain ⟨hX, x1, x2⟩ := hI.hX rfl
    obtain ⟨hY, y1, y2⟩ := hI.hY rfl
    have hXY : X ≠ Y := hI.xy rfl rfl
    have hYX : Y ≠ X := Ne.symm hXY
    have nAX : rA ≠ X := by have := hI.xA rfl rfl; omega
    have nAY : rA ≠ Y := by have := hI.yA rfl rfl; omega
    have nBX : rB ≠ X := by have := hI.xB rfl rfl; omega
    have nBY : rB ≠ Y := by have := hI.yB rfl rfl; omega
    have lA := a3.lt
    have lB := d3.lt
    have hb4 := hI.below
    have hz3 := S3.out.facts.2.2.2.2.2.2.2.2.2.2
    have cX := cell_of_one hX
    have fX := free_of_one hX
    have cY := cell_of_one hY
    have fY := free_of_one hY
    have Hall := Lib.hid (And.intro hX (And.intro hY (And.intro a3 (And.intro d3 hb4))))
    clear hX hY a3 d3 hb4 hI
    go_upto_region 7 with fail
    clear cX fX cY fY
    obtain ⟨hX, hY, a3, d3, hb4⟩ := Hall.out
    have S4 := S3.out.below hb4
    have hz4 := hb4.size
    have E5 := wenv_start S4 hX hY hXY a3 d3 nAX nAY nBX nBY (by omega) (by omega) (by omega) (by omega)
    have hb5 : Below w3.drew.heap.size w3.drew ((((w4.setCell ⟨X, 0, none⟩ (.slice (some ⟨rA, 0, none⟩) N N)).setCell ⟨Y, 0, none⟩ (.slice (some ⟨rB, 0, none⟩) M M)).alloc (Obj.cells #[wfun (w.heap.size + 1 + 1) (w.heap.size + 1) w.heap.size Y X w4.heap.size] 107))) := ((hb4.setCell x1 _).setCell y1 _).alloc (by rw [size_setCell, size_setCell]; exact hb4.size) _
    have S5 := S3.out.below hb5
    simp only [wfun] at E5 S5
    generalize ((w4.setCell ⟨X, 0, none⟩ (.slice (some ⟨rA, 0, none⟩) N N)).setCell ⟨Y, 0, none⟩ (.slice (some ⟨rB, 0, none⟩) M M)).alloc (Obj.cells #[Value.func (.func 81) #[] #[.pointer (some ⟨w.heap.size + 1 + 1, 0, none⟩), .pointer (some ⟨w.heap.size + 1, 0, none⟩), .pointer (some ⟨w.heap.size, 0, none⟩), .pointer (some ⟨Y, 0, none⟩), .pointer (some ⟨X, 0, none⟩), .pointer (some ⟨w4.heap.size, 0, none⟩)]] 107) = w5 at *
    have cf := E5.cf
    have eg := eg_within1
    have E5 := Lib.hid E5
    have S5 := Lib.hid S5
    clear hb5 S4 hX hY a3 d3 hb4 Hall
    go_wp2_with fail
    refine (within1_any N M (near l N) (near k M) _ _ _ _ _ _ _ _ _ (by omega) (by omega) (fun i _ => maskOf_few _ (by omega)) (fun i _ => maskOf_few _ (by omega)) M [] 0 w5 rfl (by simp) (by simp) (by decide) E5.out ⟨_, S5.out.rt, World.ownsRow_nil _ _ _ _⟩).mono ?_
    have hF5 := S5.out.facts.2.2.2.2.2.2.2.2.2.2
    have heq : tryF N (tells (near l N)) (tells (near k M)) M [] = tryF N (adj l) (adj k) M [] := tryF_congr (M := M) (fun v x hv hx => by
      show (near l N v).testBit x = _
      unfold near
      rw [maskOf_bit, decide_eq_true hx, Bool.true_and]) (fun v x hv hx => by
      show (near k M v).testBit x = _
      unfold near
      rw [maskOf_bit, decide_eq_true hx, Bool.true_and]) M [] rfl (by simp)
    rw [heq]
    clear heq
    rintro e w6 ⟨hc6, hr6⟩
    have rf6 := hc6.rowIs S5.out.rf (fun h => by
      rcases h with h | h
      · omega
      · omega)
    have hB6 : Below w.heap.size w w6 := S5.out.ts.hb.trans (hc6.toBelow S5.out.ts.hb.size (fun k hk hs => by
      rcases hs with h | h
      · omega
      · omega))
    have hne : w.heap.size + 1 + 1 ≠ w.heap.size + 1 + 1 + 1 := by omega
    have Rf6 := Lib.hid rf6
    have HB6 := Lib.hid hB6
    obtain ⟨z0, z1, f0, f1, l0⟩ := row_facts rf6
    clear hc6 rf6 hB6 cf
    rcases hr6 with ⟨r, hr, rfl, v6, h6, o6⟩ | ⟨hr, rfl, v6, h6, o6⟩
    · obtain ⟨a6, c6, rfl⟩ := ownsRow_form o6
      have ct := cell_of_one h6
      have ft := free_of_one h6
      have F3 := Lib.hid (fin3 h6 Rf6.out hne (.slice a6 r.length c6) 0 0)
      have hfin := (((HB6.out.setCell (p := ⟨w.heap.size + 1 + 1, 0, none⟩) (show w.heap.size ≤ w.heap.size + 1 + 1 by omega) (.slice a6 r.length c6)).setCell (p := ⟨w.heap.size + 1 + 1 + 1, 0, none⟩) (show w.heap.size ≤ w.heap.size + 1 + 1 + 1 by omega) (.int .i64 0)).setCell (p := ⟨w.heap.size + 1 + 1 + 1, 1, none⟩) (show w.heap.size ≤ w.heap.size + 1 + 1 + 1 by omega) (.int .i64 0)).drew
      have off : ∀ q, q < w4.heap.size + 1 → (Value.slice a6 r.length c6).ownBlock = none ∨ (Value.slice a6 r.length c6).ownBlock ≠ some q := fun q hq => by
        cases hv : (Value.slice a6 r.length c6).ownBlock with
        | none => exact Or.inl rfl
        | some g =>
          have := (o6.lt g hv).1
          exact Or.inr (fun e => by cases e; omega)
      have o9 := ((o6.kept (grown_set w6 (w.heap.size + 1 + 1) 0 (.slice a6 r.length c6)) (off _ (by omega))).kept (grown_set _ (w.heap.size + 1 + 1 + 1) 0 (.int .i64 0)) (off _ (by omega))).kept (grown_set _ (w.heap.size + 1 + 1 + 1) 1 (.int .i64 0)) (off _ (by omega))
      have hi := (IsInts.owned o9).below (Below.refl _ _).drew
      have Hi := Lib.hid hi
      have Hr := Lib.hid hr
      have Hf := Lib.hid hfin
      clear h6 o6 off o9 hi hr hfin
      go_upto_region 9 with fail
      go_region
      all_goals
        obtain ⟨e0, e1, e2⟩ := F3.out
        go_wp2
        exact bodyPost_ret (v := .tuple #[.slice a6 r.length c6, .bool true, .agg #[.int .i64 0, .int .i64 0]]) (by simp [results, Try.results38, go_sem, e0, e1, e2]) rfl ⟨Hf.out, Or.inl ⟨r, _, Hr.out, rfl, Hi.out⟩⟩
    · obtain ⟨a6, c6, rfl⟩ := ownsRow_form o6
      have ct := cell_of_one h6
      have ft := free_of_one h6
      have F3 := Lib.hid (fin3 h6 Rf6.out hne (.slice none 0 0) 0 0)
      have hfin := (((HB6.out.setCell (p := ⟨w.heap.size + 1 + 1, 0, none⟩) (show w.heap.size ≤ w.heap.size + 1 + 1 by omega) (.slice none 0 0)).setCell (p := ⟨w.heap.size + 1 + 1 + 1, 0, none⟩) (show w.heap.size ≤ w.heap.size + 1 + 1 + 1 by omega) (.int .i64 0)).setCell (p := ⟨w.heap.size + 1 + 1 + 1, 1, none⟩) (show w.heap.size ≤ w.heap.size + 1 + 1 + 1 by omega) (.int .i64 0)).drew
      have Hr := Lib.hid hr
      have Hf := Lib.hid hfin
      clear h6 o6 hr hfin
      go_upto_region 8 with fail
      go_region
      all_goals
        obtain ⟨e0, e1, e2⟩ := F3.out
        go_wp2
        exact bodyPost_ret (v := .tuple #[.slice none 0 0, .bool false, .agg #[.int .i64 0, .int .i64 0]]) (by simp [results, Try.results38, go_sem, e0, e1, e2]) rfl ⟨Hf.out, Or.inr ⟨Hr.out, rfl⟩⟩

end Go.Proofs.Ytfflnpcbpcldeaa
