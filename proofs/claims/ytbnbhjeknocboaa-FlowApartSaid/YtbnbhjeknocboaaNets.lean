/- Nets as values: lists of arcs. arborref.NetFault, flow.Check. Printed by gennets.py. -/
import Derived.Test.YtbnbhjeknocboaaRCheck
import Derived.Test.YtbnbhjeknocboaaGCheck
namespace Go.Proofs.Ytbnbhjeknocboaa
open Go.RowKit

/-- Slice value v reads as these arcs: from, to, how much. -/
def IsArcs (w : World) (v : Value) (l : List (Int × Int × Int)) : Prop :=
  ∃ (a : Option Addr) (cap b o : Nat), v = .slice a l.length cap ∧ l.length ≤ cap ∧ cap ≤ 9223372036854775807 ∧ (0 < l.length → a = some ⟨b, o, none⟩) ∧
    (a = none → cap = 0) ∧ ∀ j, j < l.length → w.cell? ⟨b, o + j * 3, none⟩ = some (.int .i64 (l.getD j (0, 0, 0)).1) ∧ w.cell? ⟨b, o + j * 3 + 1, none⟩ = some (.int .i64 (l.getD j (0, 0, 0)).2.1) ∧ w.cell? ⟨b, o + j * 3 + 2, none⟩ = some (.int .i64 (l.getD j (0, 0, 0)).2.2)
theorem IsArcs.below {w w' : World} {v : Value} {l : List (Int × Int × Int)} (h : IsArcs w v l) (hb : Below w.heap.size w w') : IsArcs w' v l := by
  obtain ⟨a, cap, b, o, h1, h2, h3, h4, h4', h5⟩ := h
  exact ⟨a, cap, b, o, h1, h2, h3, h4, h4', fun j hj => ⟨below_cell hb (h5 j hj).1, below_cell hb (h5 j hj).2.1, below_cell hb (h5 j hj).2.2⟩⟩
theorem arcs_at {w wr : World} {b o k : Nat} {l : List (Int × Int × Int)} (h : ∀ j, j < l.length → w.cell? ⟨b, o + j * 3, none⟩ = some (.int .i64 (l.getD j (0, 0, 0)).1) ∧ w.cell? ⟨b, o + j * 3 + 1, none⟩ = some (.int .i64 (l.getD j (0, 0, 0)).2.1) ∧ w.cell? ⟨b, o + j * 3 + 2, none⟩ = some (.int .i64 (l.getD j (0, 0, 0)).2.2)) (hb : Below w.heap.size w wr) (hk : k < l.length) :
    ∃ x y z, Hid (l.getD k (0, 0, 0) = (x, y, z)) ∧ wr.cell? ⟨b, o + k * 3, none⟩ = some (.int .i64 x) ∧ wr.cell? ⟨b, o + k * 3 + 1, none⟩ = some (.int .i64 y) ∧ wr.cell? ⟨b, o + k * 3 + 2, none⟩ = some (.int .i64 z) :=
  ⟨_, _, _, rfl, below_cell hb (h k hk).1, below_cell hb (h k hk).2.1, below_cell hb (h k hk).2.2⟩

/-- An arc is as it must be. -/
def ArcOk (n : Int) (a : Int × Int × Int) : Prop := 0 ≤ a.1 ∧ a.1 < n ∧ 0 ≤ a.2.1 ∧ a.2.1 < n ∧ 0 ≤ a.2.2 ∧ a.2.2 ≤ 1000000
def NetBig (n : Int) (l : List (Int × Int × Int)) : Prop := n < 0 ∨ 100 < n ∨ 1000 < l.length
/-- What is wrong with a net. -/
def NetSpec (n : Int) (l : List (Int × Int × Int)) (c a : Int) : Prop :=
  (NetBig n l ∧ c = 2 ∧ a = 0) ∨ (¬ NetBig n l ∧ ((∃ i : Nat, i < l.length ∧ (∀ j, j < i → ArcOk n (l.getD j (0, 0, 0))) ∧ ¬ ArcOk n (l.getD i (0, 0, 0)) ∧ c = 3 ∧ a = i) ∨ ((∀ j, j < l.length → ArcOk n (l.getD j (0, 0, 0))) ∧ c = 0 ∧ a = 0)))
theorem NetSpec.uniq {n : Int} {l : List (Int × Int × Int)} {c a c' a' : Int} (h : NetSpec n l c a) (h' : NetSpec n l c' a') : c = c' ∧ a = a' := by
  rcases h with ⟨h1, rfl, rfl⟩ | ⟨h1, h⟩ <;> rcases h' with ⟨h1', rfl, rfl⟩ | ⟨h1', h'⟩
  · exact ⟨rfl, rfl⟩
  · exact absurd h1 h1'
  · exact absurd h1' h1
  · rcases h with ⟨i, h2, h3, h4, rfl, rfl⟩ | ⟨h3, rfl, rfl⟩ <;> rcases h' with ⟨j, h2', h3', h4', rfl, rfl⟩ | ⟨h3', rfl, rfl⟩
    · refine ⟨rfl, ?_⟩
      rcases Nat.lt_trichotomy i j with e | e | e
      · exact absurd (h3' i e) h4
      · rw [e]
      · exact absurd (h3 j e) h4'
    · exact absurd (h3' i h2) h4
    · exact absurd (h3 j h2') h4'
    · exact ⟨rfl, rfl⟩

theorem netStart (w : World) (n : Int) (s : Value) : GRes w ((w.alloc (Obj.cells #[.int .i64 n, s] 75)).alloc (Obj.cells #[Value.int IntKind.i64 0, Value.int IntKind.i64 0] 28)) w.heap.size (w.heap.size + 1) n s := by
  refine ⟨below2 _ _ _, ?_, ?_, ?_, by omega, by omega⟩
  · rw [World.cell?_alloc_past _ _ _ (by simp), World.cell?_alloc_at _ _ _ _ rfl]; rfl
  · rw [World.cell?_alloc_past _ _ _ (by simp), World.cell?_alloc_at _ _ _ _ rfl]; rfl
  · have := World.rowIs_alloc (w.alloc (Obj.cells #[.int .i64 n, s] 75)) #[Value.int IntKind.i64 0, Value.int IntKind.i64 0] 28 (fun _ => .int .i64 0) (fun i hi => by
      match i, hi with
      | 0, _ => rfl
      | 1, _ => rfl)
    rw [World.size_alloc] at this
    exact this

theorem ffault_any (c a : Int) (w : World) :
    Calls Try.prog 61 #[.int .i64 c, .int .i64 a] w fun e w' => e = .returned (.agg #[.int .i64 c, .int .i64 a]) ∧ w.alloc (.cells #[.int .i64 c, .int .i64 a] 28) = w' := by
  go_enter Try.func61, Try.ntmps61
  go_wp2
  exact bodyPost_ret (v := .agg #[.int .i64 c, .int .i64 a]) (by simp [results, Try.results61, go_sem]) rfl ⟨rfl, rfl⟩

set_option maxHeartbeats 3200000 in
set_option maxRecDepth 100000 in
theorem fcheck_any (l : List (Int × Int × Int)) (n : Int) (s : Value) (w : World) (h : IsArcs w s l) :
    Calls Try.prog 56 #[.agg #[.int .i64 n, s]] w (Faulty (NetSpec n l) w) := by
  have hs := h
  obtain ⟨ad, cap, bb, o, rfl, hcap, hmax, hadr, -, hcell⟩ := h
  have hg := netStart w n (.slice ad l.length cap)
  have cn := hg.cn
  have cs := hg.cs
  have cz0 := hg.hz.cell (show 0 < 2 by omega)
  have cz1 := hg.hz.cell (show 1 < 2 by omega)
  have zz0 := hg.hz.frozen 0
  have zz1 := hg.hz.frozen 1
  have hBl := hg.hz.lt
  have Hg := Lib.hid hg; have Hs := Lib.hid hs
  clear hg hs
  go_enter Try.func56, Try.ntmps56
  go_upto_region 1 with fail
  generalize (w.alloc (Obj.cells #[.int .i64 n, .slice ad l.length cap] 75)).alloc (Obj.cells #[Value.int IntKind.i64 0, Value.int IntKind.i64 0] 28) = w1 at *
  by_cases b1 : n < 0
  · go_wp2_with (go_at_call 61; refine (ffault_any _ _ _).mono ?_; rintro e wf ⟨rfl, rfl⟩)
    obtain ⟨e0, e1, e2⟩ := Hg.out.putA (.int .i64 2) (.int .i64 0) (Obj.cells #[Value.int .i64 2, .int .i64 0] 28)
    exact bodyPost_ret (v := .agg #[.int .i64 2, .int .i64 0]) (by simp [results, Try.results56, go_sem, e0, e1]) rfl ⟨2, 0, Or.inl ⟨Or.inl b1, rfl, rfl⟩, rfl, e2⟩
  by_cases b2 : 100 < n
  · go_wp2_with (go_at_call 61; refine (ffault_any _ _ _).mono ?_; rintro e wf ⟨rfl, rfl⟩)
    obtain ⟨e0, e1, e2⟩ := Hg.out.putA (.int .i64 2) (.int .i64 0) (Obj.cells #[Value.int .i64 2, .int .i64 0] 28)
    exact bodyPost_ret (v := .agg #[.int .i64 2, .int .i64 0]) (by simp [results, Try.results56, go_sem, e0, e1]) rfl ⟨2, 0, Or.inl ⟨Or.inr (Or.inl b2), rfl, rfl⟩, rfl, e2⟩
  by_cases b3 : 1000 < l.length
  · have b3' : (1000 : Int) < (l.length : Int) := by omega
    go_wp2_with (go_at_call 61; refine (ffault_any _ _ _).mono ?_; rintro e wf ⟨rfl, rfl⟩)
    obtain ⟨e0, e1, e2⟩ := Hg.out.putA (.int .i64 2) (.int .i64 0) (Obj.cells #[Value.int .i64 2, .int .i64 0] 28)
    exact bodyPost_ret (v := .agg #[.int .i64 2, .int .i64 0]) (by simp [results, Try.results56, go_sem, e0, e1]) rfl ⟨2, 0, Or.inl ⟨Or.inr (Or.inr b3), rfl, rfl⟩, rfl, e2⟩
  have b3' : ¬ (1000 : Int) < (l.length : Int) := by omega
  have hbig : ¬ NetBig n l := by unfold NetBig; omega
  have Hbig := Lib.hid hbig
  clear hbig
  go_wp2
  generalize w.heap.size = A at *
  clear cn cs cz0 cz1 zz0 zz1 hBl
  go_loopg [23] l.length (fun g s3 wr => ∃ k : Nat, k ≤ l.length ∧ g = l.length - k ∧ s3 = .int .i64 k ∧ GRes w wr A (A + 1) n (.slice ad l.length cap) ∧ ∀ j, j < k → ArcOk n (l.getD j (0, 0, 0)))
  case atStart => exact ⟨0, Nat.zero_le _, rfl, rfl, Hg.out, fun _ h => absurd h (Nat.not_lt_zero _)⟩
  case round =>
    obtain ⟨k, hk, rfl, rfl, hg, hok⟩ := hrel
    have Hok := Lib.hid hok; clear hok
    have cn := hg.cn
    have cs := hg.cs
    have cz0 := hg.hz.cell (show 0 < 2 by omega)
    have cz1 := hg.hz.cell (show 1 < 2 by omega)
    have zz0 := hg.hz.frozen 0
    have zz1 := hg.hz.frozen 1
    have hBl := hg.hz.lt
    have hAl : A < wr.heap.size := by omega
    by_cases hlt : k < l.length
    · obtain rfl := hadr (by omega)
      obtain ⟨x, y, z, He, cx, cy, cz⟩ := arcs_at hcell hg.hb hlt
      have G2 := Lib.hid (hg.alloc (Obj.cells #[.int .i64 x, .int .i64 y, .int .i64 z] 72))
      have Hg1 := Lib.hid hg
      clear hg hcell hadr
      by_cases x1 : x < 0
      · go_wp2_with (go_at_call 61; refine (ffault_any _ _ _).mono ?_; rintro e wf ⟨rfl, rfl⟩)
        obtain ⟨e0, e1, e2⟩ := Hg1.out.putAA (.int .i64 3) (.int .i64 k) (Obj.cells #[.int .i64 x, .int .i64 y, .int .i64 z] 72) (Obj.cells #[Value.int .i64 3, .int .i64 k] 28)
        exact bodyPost_ret (v := .agg #[.int .i64 3, .int .i64 k]) (by simp [results, Try.results56, go_sem, e0, e1]) rfl ⟨3, k, Or.inr ⟨Hbig.out, Or.inl ⟨k, hlt, Hok.out, by rw [He.out]; unfold ArcOk; simp only; omega, rfl, rfl⟩⟩, rfl, e2⟩
      by_cases y1 : y < 0
      · go_wp2_with (go_at_call 61; refine (ffault_any _ _ _).mono ?_; rintro e wf ⟨rfl, rfl⟩)
        obtain ⟨e0, e1, e2⟩ := Hg1.out.putAA (.int .i64 3) (.int .i64 k) (Obj.cells #[.int .i64 x, .int .i64 y, .int .i64 z] 72) (Obj.cells #[Value.int .i64 3, .int .i64 k] 28)
        exact bodyPost_ret (v := .agg #[.int .i64 3, .int .i64 k]) (by simp [results, Try.results56, go_sem, e0, e1]) rfl ⟨3, k, Or.inr ⟨Hbig.out, Or.inl ⟨k, hlt, Hok.out, by rw [He.out]; unfold ArcOk; simp only; omega, rfl, rfl⟩⟩, rfl, e2⟩
      by_cases x2 : n ≤ x
      · go_wp2_with (go_at_call 61; refine (ffault_any _ _ _).mono ?_; rintro e wf ⟨rfl, rfl⟩)
        obtain ⟨e0, e1, e2⟩ := Hg1.out.putAA (.int .i64 3) (.int .i64 k) (Obj.cells #[.int .i64 x, .int .i64 y, .int .i64 z] 72) (Obj.cells #[Value.int .i64 3, .int .i64 k] 28)
        exact bodyPost_ret (v := .agg #[.int .i64 3, .int .i64 k]) (by simp [results, Try.results56, go_sem, e0, e1]) rfl ⟨3, k, Or.inr ⟨Hbig.out, Or.inl ⟨k, hlt, Hok.out, by rw [He.out]; unfold ArcOk; simp only; omega, rfl, rfl⟩⟩, rfl, e2⟩
      by_cases y2 : n ≤ y
      · go_wp2_with (go_at_call 61; refine (ffault_any _ _ _).mono ?_; rintro e wf ⟨rfl, rfl⟩)
        obtain ⟨e0, e1, e2⟩ := Hg1.out.putAA (.int .i64 3) (.int .i64 k) (Obj.cells #[.int .i64 x, .int .i64 y, .int .i64 z] 72) (Obj.cells #[Value.int .i64 3, .int .i64 k] 28)
        exact bodyPost_ret (v := .agg #[.int .i64 3, .int .i64 k]) (by simp [results, Try.results56, go_sem, e0, e1]) rfl ⟨3, k, Or.inr ⟨Hbig.out, Or.inl ⟨k, hlt, Hok.out, by rw [He.out]; unfold ArcOk; simp only; omega, rfl, rfl⟩⟩, rfl, e2⟩
      by_cases c1 : z < 0
      · go_wp2_with (go_at_call 61; refine (ffault_any _ _ _).mono ?_; rintro e wf ⟨rfl, rfl⟩)
        obtain ⟨e0, e1, e2⟩ := Hg1.out.putAA (.int .i64 3) (.int .i64 k) (Obj.cells #[.int .i64 x, .int .i64 y, .int .i64 z] 72) (Obj.cells #[Value.int .i64 3, .int .i64 k] 28)
        exact bodyPost_ret (v := .agg #[.int .i64 3, .int .i64 k]) (by simp [results, Try.results56, go_sem, e0, e1]) rfl ⟨3, k, Or.inr ⟨Hbig.out, Or.inl ⟨k, hlt, Hok.out, by rw [He.out]; unfold ArcOk; simp only; omega, rfl, rfl⟩⟩, rfl, e2⟩
      by_cases c2 : 1000000 < z
      · go_wp2_with (go_at_call 61; refine (ffault_any _ _ _).mono ?_; rintro e wf ⟨rfl, rfl⟩)
        obtain ⟨e0, e1, e2⟩ := Hg1.out.putAA (.int .i64 3) (.int .i64 k) (Obj.cells #[.int .i64 x, .int .i64 y, .int .i64 z] 72) (Obj.cells #[Value.int .i64 3, .int .i64 k] 28)
        exact bodyPost_ret (v := .agg #[.int .i64 3, .int .i64 k]) (by simp [results, Try.results56, go_sem, e0, e1]) rfl ⟨3, k, Or.inr ⟨Hbig.out, Or.inl ⟨k, hlt, Hok.out, by rw [He.out]; unfold ArcOk; simp only; omega, rfl, rfl⟩⟩, rfl, e2⟩
      have hends : ArcOk n (l.getD k (0, 0, 0)) := by rw [He.out]; unfold ArcOk; simp only; omega
      have Hends := Lib.hid hends
      clear hends
      go_wp2_with fail
      go_roundg (l.length - (k + 1))
      case measure => go_light; omega
      case rel => exact ⟨k + 1, by omega, rfl, by go_num, G2.out, fun j hj => by
        by_cases e : j = k
        · rw [e]; exact Hends.out
        · exact Hok.out j (by omega)⟩
    · obtain rfl : l.length = k := by omega
      have Hg1 := Lib.hid hg
      clear hg hcell hadr
      go_wp2
      obtain ⟨e0, e1, e2⟩ := Hg1.out.put (.int .i64 0) (.int .i64 0)
      exact bodyPost_ret (v := .agg #[.int .i64 0, .int .i64 0]) (by simp [results, Try.results56, go_sem, e0, e1]) rfl ⟨0, 0, Or.inr ⟨Hbig.out, Or.inr ⟨Hok.out, rfl, rfl⟩⟩, rfl, e2⟩

end Go.Proofs.Ytbnbhjeknocboaa
