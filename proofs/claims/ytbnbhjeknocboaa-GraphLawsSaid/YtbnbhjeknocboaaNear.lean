/- graph.Near: what one node sees. -/
import Derived.Test.YtbnbhjeknocboaaGLists
import Derived.Test.YtbnbhjeknocboaaForm
import Derived.Test.YtbnbhjeknocboaaIndF
import Derived.Deep.RegionHeld3
namespace Go.Proofs.Ytbnbhjeknocboaa
open Go.RowKit

theorem ownsRow_set {w : World} {base Z : Nat} {e : TypeId} {size : Nat} {v : Value} {n : Nat} {xs : List Value} (h : w.ownsRow base e size v n xs) (hZ : Z < base) (k : Nat) (x : Value) : (w.setCell ⟨Z, k, none⟩ x).ownsRow base e size v n xs := by
  refine h.kept (grown_set w Z k x) ?_
  cases hv : v.ownBlock with
  | none => exact Or.inl rfl
  | some g => exact Or.inr (fun e => by have := (h.lt g hv).1; cases e; omega)

/-- What graph.Near answers. -/
def NearR (l : List (Int × Int)) (v : Int) (N : Nat) (L : List Int) (c a : Int) : Prop :=
  ((v < 0 ∨ (N : Int) ≤ v) ∧ L = [] ∧ c = 3 ∧ a = 0) ∨ (0 ≤ v ∧ v < (N : Int) ∧ L = ints (nbrs l N v.toNat) ∧ c = 0 ∧ a = 0)
def NearPost (L : List Int) (c a : Int) (w : World) (e : Ending) (w' : World) : Prop :=
  ∃ v, e = .returned (.tuple #[v, .agg #[.int .i64 c, .int .i64 a]]) ∧ IsInts w' v L ∧ Below w.heap.size w w'

/-- Its own variables. -/
structure NSt (w wr : World) (n : Int) (s : Value) : Prop where
  hb : Below w.heap.size w wr
  gb : wr.rowIs w.heap.size 24 2 (fun i => if i = 0 then .int .i64 n else s)
  r1 : wr.rowIs (w.heap.size + 1) 28 2 (fun i => if i = 0 then .int .i64 0 else .int .i64 0)
theorem NSt.start (w : World) (n : Int) (s : Value) : NSt w ((w.alloc (Obj.cells #[.int .i64 n, s] 24)).alloc (Obj.cells #[.int .i64 0, .int .i64 0] 28)) n s := by
  have h0 := two_row w (.int .i64 n) s 24
  have h1 := two_row (w.alloc (Obj.cells #[.int .i64 n, s] 24)) (.int .i64 0) (.int .i64 0) 28
  rw [World.size_alloc] at h1
  exact ⟨below2 _ _ _, h0.alloc _, h1⟩
theorem NSt.below {w wr w' : World} {n : Int} {s : Value} (h : NSt w wr n s) (hb : Below wr.heap.size wr w') : NSt w w' n s :=
  ⟨h.hb.trans (hb.mono h.hb.size), h.gb.of_block (hb.block _ h.gb.lt), h.r1.of_block (hb.block _ h.r1.lt)⟩

set_option maxHeartbeats 3200000 in
set_option maxRecDepth 100000 in
theorem near_bad {n : Int} {l : List (Int × Int)} {c a : Int} (hs : GraphSpec n l c a) (hc : c ≠ 0) (s : Value) (v : Int) (w : World) (h : IsEdges w s l) :
    Calls Try.prog 31 #[.agg #[.int .i64 n, s], .int .i64 v] w (NearPost [] c a w) := by
  obtain ⟨ad, cap, rfl⟩ := h.form
  have Hs := Lib.hid hs
  have q : (c != 0) = true := by simpa using hc
  have Hd := Lib.hid h
  have St := Lib.hid (NSt.start w n (.slice ad l.length cap))
  clear hs hc h
  go_enter Try.func31, Try.ntmps31
  go_upto_region 1 with fail
  generalize (w.alloc (Obj.cells #[.int .i64 n, .slice ad l.length cap] 24)).alloc (Obj.cells #[.int .i64 0, .int .i64 0] 28) = w1 at *
  obtain ⟨cn, cs, -, -, hl0⟩ := row_facts St.out.gb
  go_wp2_with fail
  refine (gcheck_is Hs.out _ _ (Hd.out.below St.out.hb)).mono ?_
  rintro e w2 ⟨rfl, hb2⟩
  have e01 := two_cells w2 (.int .i64 c) (.int .i64 a) 28
  have S3' := (St.out.below hb2).below (below1 w2 (Obj.cells #[.int .i64 c, .int .i64 a] 28))
  have hl2 := (St.out.below hb2).r1.lt
  clear hb2 cn cs hl0
  go_wp2_with fail
  have S3 := Lib.hid S3'
  obtain ⟨y0, y1, g0, g1, l1⟩ := row_facts S3.out.r1
  clear S3'
  generalize w2.alloc (Obj.cells #[.int .i64 c, .int .i64 a] 28) = w3 at *
  obtain ⟨e0, e1⟩ := e01
  have n2 : w.heap.size + 1 ≠ w2.heap.size := by omega
  generalize w2.heap.size = E at *
  go_region_held3 (fun w' => w'.cell? ⟨E, 0, none⟩ = some (.int .i64 c) ∧ w'.cell? ⟨E, 1, none⟩ = some (.int .i64 a)) (go_keep) (fail)
  all_goals obtain ⟨c0, c1, hfin⟩ := two_set S3.out.r1 S3.out.hb (show w.heap.size ≤ w.heap.size + 1 by omega) (.int .i64 c) (.int .i64 a)
  all_goals
    go_wp2
    exact bodyPost_ret (v := .tuple #[.slice none 0 0, .agg #[.int .i64 c, .int .i64 a]]) (by simp [results, Try.results31, go_sem, c0, c1]) rfl ⟨_, rfl, IsInts.nil _, hfin.drew⟩

set_option maxHeartbeats 3200000 in
set_option maxRecDepth 100000 in
theorem near_ok {N : Nat} {l : List (Int × Int)} (hgood : GoodGraph N l) {L : List Int} {c a : Int} (v : Int) (hr : NearR l v N L c a) (s : Value) (w : World) (h : IsEdges w s l) :
    Calls Try.prog 31 #[.agg #[.int .i64 (N : Int), s], .int .i64 v] w (NearPost L c a w) := by
  obtain ⟨ad, cap, rfl⟩ := h.form
  have hN : N ≤ 100 := by have := hgood.hi; omega
  have Hg := Lib.hid hgood
  have Hr := Lib.hid hr
  have Hd := Lib.hid h
  have St := Lib.hid (NSt.start w (N : Int) (.slice ad l.length cap))
  clear hgood hr h
  go_enter Try.func31, Try.ntmps31
  go_upto_region 1 with fail
  generalize (w.alloc (Obj.cells #[.int .i64 (N : Int), .slice ad l.length cap] 24)).alloc (Obj.cells #[.int .i64 0, .int .i64 0] 28) = w1 at *
  obtain ⟨cn, cs, -, -, hl0⟩ := row_facts St.out.gb
  go_wp2_with fail
  refine (gcheck_is Hg.out.spec _ _ (Hd.out.below St.out.hb)).mono ?_
  rintro e w2 ⟨rfl, hb2⟩
  have S3 := Lib.hid ((St.out.below hb2).below (below1 w2 (Obj.cells #[.int .i64 0, .int .i64 0] 28)))
  clear hb2 cn cs hl0
  go_upto_region 4 with fail
  generalize w2.alloc (Obj.cells #[.int .i64 0, .int .i64 0] 28) = w3 at *
  obtain ⟨cn, cs, -, -, hl0⟩ := row_facts S3.out.gb
  obtain ⟨y0, y1, g0, g1, l1⟩ := row_facts S3.out.r1
  rcases Hr.out with ⟨hout, rfl, rfl, rfl⟩ | ⟨hv0, hvN, rfl, rfl, rfl⟩
  · by_cases hlo : v < 0
    · clear hout
      go_wp2_with (go_at_call 37; refine (gfault_any _ _ _).mono ?_; rintro e wf ⟨rfl, rfl⟩)
      obtain ⟨c0, c1, hfin⟩ := two_set S3.out.r1 S3.out.hb (show w.heap.size ≤ w.heap.size + 1 by omega) (.int .i64 3) (.int .i64 0)
      have k0 := below_cell (below1 _ (Obj.cells #[Value.int .i64 3, .int .i64 0] 28)) c0
      have k1 := below_cell (below1 _ (Obj.cells #[Value.int .i64 3, .int .i64 0] 28)) c1
      exact bodyPost_ret (v := .tuple #[.slice none 0 0, .agg #[.int .i64 3, .int .i64 0]]) (by simp [results, Try.results31, go_sem, k0, k1]) rfl ⟨_, rfl, IsInts.nil _, hfin.alloc hfin.size _⟩
    · have hhi : (N : Int) ≤ v := by omega
      clear hout
      go_wp2_with (go_at_call 37; refine (gfault_any _ _ _).mono ?_; rintro e wf ⟨rfl, rfl⟩)
      obtain ⟨c0, c1, hfin⟩ := two_set S3.out.r1 S3.out.hb (show w.heap.size ≤ w.heap.size + 1 by omega) (.int .i64 3) (.int .i64 0)
      have k0 := below_cell (below1 _ (Obj.cells #[Value.int .i64 3, .int .i64 0] 28)) c0
      have k1 := below_cell (below1 _ (Obj.cells #[Value.int .i64 3, .int .i64 0] 28)) c1
      exact bodyPost_ret (v := .tuple #[.slice none 0 0, .agg #[.int .i64 3, .int .i64 0]]) (by simp [results, Try.results31, go_sem, k0, k1]) rfl ⟨_, rfl, IsInts.nil _, hfin.alloc hfin.size _⟩
  · obtain ⟨x, rfl⟩ := Int.eq_ofNat_of_zero_le hv0
    have hx : x < N := by omega
    simp only [Int.toNat_natCast]
    have q1 : ¬ (x : Int) < 0 := by omega
    have q2 : ¬ (N : Int) ≤ (x : Int) := by omega
    go_wp2_with (go_at_call 51; refine (glists_any Hg.out _ _ (Hd.out.below S3.out.hb)).mono ?_; rintro e w5 ⟨B, V, rfl, hnb, hB, hb5⟩; have S5 := Lib.hid (S3.out.below hb5); obtain ⟨z0, z1, zf0, zf1, zl⟩ := row_facts S5.out.r1; obtain ⟨ax, cx, ex⟩ := hnb.form hx; have tx := hnb.ro.cell hx; rw [ex] at tx; have Hi := Lib.hid (show w5.ownsRow (B + 1) 3 1 (.slice ax (nbrs l N x).length cx) (nbrs l N x).length (nvals (nbrs l N x)) by have := hnb.owns hx; rw [ex] at this; exact this); have hBl := S3.out.r1.lt; clear ex hb5 hnb)
    obtain ⟨c0, c1, hfin⟩ := two_set S5.out.r1 S5.out.hb (show w.heap.size ≤ w.heap.size + 1 by omega) (.int .i64 0) (.int .i64 0)
    exact bodyPost_ret (v := .tuple #[.slice ax (nbrs l N x).length cx, .agg #[.int .i64 0, .int .i64 0]]) (by simp [results, Try.results31, go_sem, c0, c1]) rfl ⟨_, rfl, IsInts.owned (ownsRow_set (ownsRow_set Hi.out (show w.heap.size + 1 < B + 1 by omega) 0 _) (show w.heap.size + 1 < B + 1 by omega) 1 _), hfin⟩

end Go.Proofs.Ytbnbhjeknocboaa
