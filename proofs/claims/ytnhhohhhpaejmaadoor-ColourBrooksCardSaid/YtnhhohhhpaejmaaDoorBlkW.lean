/- parts.blocks: the blocks of the model's walk, each normed and in order, in order by their first edges. -/
import Derived.Test.YtnhhohhhpaejmaaDoorDWalk
import Derived.Test.YtnhhohhhpaejmaaDoorBSort
import Derived.Test.YtnhhohhhpaejmaaDoorGLists
import Derived.Test.YtnhhohhhpaejmaaDoorMake
namespace Go.Proofs.YtnhhohhhpaejmaaDoor
open Go.RowKit Go.Maps

/-- Where the walk begins. -/
def BStart (w1 : World) (N : Nat) (l : List (Int × Int)) (s3 : Value) (wx : World) : Prop :=
  ∃ bD B bA bL V, s3 = .pointer (some ⟨bD, 0, none⟩) ∧ DLies w1.heap.size wx.heap.size bD B bA bL N V ∧ DEnv wx wx.heap.size bD B bA bL N V (nbrs l N) startD (.slice none 0 0) (.slice none 0 0) ∧ Below w1.heap.size w1 wx
theorem bstart_of {w1 wf : World} {N B p q : Nat} {V : Nat → Value} {l : List (Int × Int)} (hnb : NB wf B N V (nbrs l N)) (hp : wf.rowIs p 3 N (rn fun _ => 0)) (hq : wf.rowIs q 3 N (rn fun _ => 0)) (hpq : p ≠ q) (hpB : p ≠ B) (hqB : q ≠ B)
    (hrows : ∀ r, r < N → ∀ g, (V r).ownBlock = some g → g ≠ p ∧ g ≠ q) (hp0 : w1.heap.size ≤ p) (hq0 : w1.heap.size ≤ q) (hb : Below w1.heap.size w1 wf) :
    BStart w1 N l (.pointer (some ⟨wf.heap.size, 0, none⟩)) (wf.alloc (Obj.cells #[.slice (some ⟨B, 0, none⟩) N N, .slice (some ⟨p, 0, none⟩) N N, .slice (some ⟨q, 0, none⟩) N N, .slice none 0 0, .slice none 0 0] 86)) := by
  have hro := World.rowIs_alloc wf #[.slice (some ⟨B, 0, none⟩) N N, .slice (some ⟨p, 0, none⟩) N N, .slice (some ⟨q, 0, none⟩) N N, .slice none 0 0, .slice none 0 0] 86 (dcell N B p q (.slice none 0 0) (.slice none 0 0)) (fun i hi => by
    match i, hi with
    | 0, _ => rfl
    | 1, _ => rfl
    | 2, _ => rfl
    | 3, _ => rfl
    | 4, _ => rfl)
  have b1 := below1 wf (Obj.cells #[.slice (some ⟨B, 0, none⟩) N N, .slice (some ⟨p, 0, none⟩) N N, .slice (some ⟨q, 0, none⟩) N N, .slice none 0 0, .slice none 0 0] 86)
  have lB := hnb.ro.lt; have lp := hp.lt; have lq := hq.lt
  have hz := hb.size
  have hsz : ∀ o : Obj, (wf.alloc o).heap.size = wf.heap.size + 1 := fun o => World.size_alloc _ _
  refine ⟨wf.heap.size, B, p, q, V, rfl, ?_, ?_, hb.trans (b1.mono hz)⟩
  · rw [hsz]
    exact ⟨⟨hz, by omega⟩, ⟨by omega, by omega⟩, ⟨hp0, by omega⟩, ⟨hq0, by omega⟩, by omega, by omega, hpq, Ne.symm hpB, Ne.symm hqB, fun r hr g e => by
      have h1 := hnb.low hr g e
      have h2 := hrows r hr g e
      exact ⟨by omega, by omega, h2.1, h2.2⟩, by omega⟩
  · exact ⟨hro, hnb.below b1, hp.of_block (b1.block _ lp), hq.of_block (b1.block _ lq), OwnE.nil _ _, ⟨[], World.ownsRow_nil _ _ _ _, fun j hj => absurd hj (Nat.not_lt_zero _)⟩, Nat.le_refl _⟩

/-- A block, normed and in order. -/
def BlkOf (b m : List (Int × Int)) : Prop := m.Perm (b.map norm) ∧ m.Pairwise fun a b => ¬ LexLt b a
/-- What blocks are told of the walk's. -/
structure BlksR (bs L : List (List (Int × Int))) : Prop where
  of : ∃ M : List (List (Int × Int)), M.length = bs.length ∧ (∀ j, j < bs.length → BlkOf (bs.getD j []) (M.getD j [])) ∧ L.Perm M
  sorted : L.Pairwise fun a b => ¬ LexLt (hdE b) (hdE a)
/-- The blocks that the model finds. -/
def blkD (l : List (Int × Int)) (N : Nat) : List (List (Int × Int)) := (allD (nbrs l N) N startD N).blk
/-- What parts.blocks answers. -/
def BlocksPost (l : List (Int × Int)) (N : Nat) (w : World) (e : Ending) (w' : World) : Prop :=
  ∃ v L, e = .returned v ∧ Blks w' w.heap.size (.slice none 0 0) v L ∧ Below w.heap.size w w' ∧ BlksR (blkD l N) L

theorem nbrs_ask {l : List (Int × Int)} {N : Nat} (hN : N ≤ 100) : DAsk N (nbrs l N) := ⟨hN, fun v _ => by rw [nbrs_length]; exact Nat.le_trans (cntN_le _ _) hN, fun v u _ h => by unfold nbrs at h; exact List.mem_range.1 (List.mem_filter.1 h).1⟩
theorem unv_start (N : Nat) : unv N startD = N := by
  unfold unv startD
  have : cntN N (fun _ => true) = N := by have := cntN_not N (fun _ => true); simp at this; rw [cntN_false] at this; omega
  simpa using this
theorem start_ok {N : Nat} (hN : N ≤ 100) : DOk N startD := ⟨by rw [unv_start]; simp [startD], by rw [unv_start]; simp [startD]; omega, by rw [unv_start]; simp [startD]; exact hN⟩
theorem allD_ok {nb : Nat → List Nat} {N : Nat} (hA : DAsk N nb) : ∀ k, k ≤ N → DOk N (allD nb N startD k) := by
  intro k
  induction k with
  | zero => intro _; exact start_ok hA.hN
  | succ k ih =>
    intro hk
    have h := ih (by omega)
    unfold allD
    split
    · exact (walkD_grow hA.hN hA.len hA.mem N k (-1) _ (by omega) (by assumption) (unv_le _ _)).2.1.ok h
    · exact h

theorem allD_big {nb : Nat → List Nat} {N : Nat} (hA : DAsk N nb) : ∀ k, k ≤ N → DBig (allD nb N startD k) := by
  intro k
  induction k with
  | zero => intro _ b hb; exact absurd hb (List.not_mem_nil)
  | succ k ih =>
    intro hk
    have h := ih (by omega)
    unfold allD
    split
    · exact walkD_big hA.hN hA.len hA.mem N k (-1) _ (by omega) (by assumption) (unv_le _ _) (allD_ok hA k (by omega)) h
    · exact h

/-- A row of N zeros. -/
abbrev zrow (N : Nat) : Obj := .cells (madeCells #[.int .i64 0] N) 3
abbrev deepO (N B p q : Nat) : Obj := Obj.cells #[.slice (some ⟨B, 0, none⟩) N N, .slice (some ⟨p, 0, none⟩) N N, .slice (some ⟨q, 0, none⟩) N N, .slice none 0 0, .slice none 0 0] 86
theorem zrow_is (W : World) (N : Nat) : (W.alloc (zrow N)).rowIs W.heap.size 3 N (rn fun _ => 0) := (World.rowIs_made W (.int .i64 0) N 3).congr fun i _ => rfl
theorem zrow_two (W : World) (N : Nat) : ((W.alloc (zrow N)).alloc (zrow N)).rowIs W.heap.size 3 N (rn fun _ => 0) ∧ ((W.alloc (zrow N)).alloc (zrow N)).rowIs (W.heap.size + 1) 3 N (rn fun _ => 0) := by
  have h2 := zrow_is (W.alloc (zrow N)) N
  rw [World.size_alloc] at h2
  exact ⟨(zrow_is W N).alloc _, h2⟩
section
variable {w1 w0 wL : World} {N B : Nat} {V : Nat → Value} {l : List (Int × Int)}
/-- The call came first. -/
theorem bs1 (hb0 : Below w1.heap.size w1 w0) (hbL : Below w0.heap.size w0 wL) (hnb : NB wL B N V (nbrs l N)) (hlo : w0.heap.size ≤ B) :
    BStart w1 N l (.pointer (some ⟨wL.heap.size + 1 + 1, 0, none⟩)) (((wL.alloc (zrow N)).alloc (zrow N)).alloc (deepO N B wL.heap.size (wL.heap.size + 1))) ∧
    BStart w1 N l (.pointer (some ⟨wL.heap.size + 1 + 1, 0, none⟩)) (((wL.alloc (zrow N)).alloc (zrow N)).alloc (deepO N B (wL.heap.size + 1) wL.heap.size)) := by
  obtain ⟨r1, r2⟩ := zrow_two wL N
  have hz : ((wL.alloc (zrow N)).alloc (zrow N)).heap.size = wL.heap.size + 1 + 1 := by rw [World.size_alloc, World.size_alloc]
  have lB := hnb.ro.lt
  have z0 := hb0.size; have zL := hbL.size
  have hb : Below w1.heap.size w1 ((wL.alloc (zrow N)).alloc (zrow N)) := (hb0.trans (hbL.mono z0)).trans ((below2 _ _ _).mono (by omega))
  have hn := hnb.below (below2 wL (zrow N) (zrow N))
  rw [← hz]
  exact ⟨bstart_of hn r1 r2 (by omega) (by omega) (by omega) (fun r hr g e => by have := hnb.low hr g e; omega) (by omega) (by omega) hb, bstart_of hn r2 r1 (by omega) (by omega) (by omega) (fun r hr g e => by have := hnb.low hr g e; omega) (by omega) (by omega) hb⟩
/-- The call came between. -/
theorem bs2 (hb0 : Below w1.heap.size w1 w0) (hbL : Below (w0.alloc (zrow N)).heap.size (w0.alloc (zrow N)) wL) (hnb : NB wL B N V (nbrs l N)) (hlo : (w0.alloc (zrow N)).heap.size ≤ B) :
    BStart w1 N l (.pointer (some ⟨wL.heap.size + 1, 0, none⟩)) ((wL.alloc (zrow N)).alloc (deepO N B w0.heap.size wL.heap.size)) ∧
    BStart w1 N l (.pointer (some ⟨wL.heap.size + 1, 0, none⟩)) ((wL.alloc (zrow N)).alloc (deepO N B wL.heap.size w0.heap.size)) := by
  have r0 := zrow_is w0 N
  have r1 := (r0.of_block (hbL.block _ r0.lt)).alloc (zrow N)
  have r2 := zrow_is wL N
  have hz : (wL.alloc (zrow N)).heap.size = wL.heap.size + 1 := World.size_alloc _ _
  have lB := hnb.ro.lt
  have z0 := hb0.size; have zL := hbL.size
  rw [World.size_alloc] at hlo zL
  have hb : Below w1.heap.size w1 (wL.alloc (zrow N)) := ((hb0.alloc z0 _).trans (hbL.mono (by rw [World.size_alloc]; omega))).trans ((below1 _ _).mono (by omega))
  have hn := hnb.below (below1 wL (zrow N))
  rw [← hz]
  exact ⟨bstart_of hn r1 r2 (by omega) (by omega) (by omega) (fun r hr g e => by have := hnb.low hr g e; omega) (by omega) (by omega) hb, bstart_of hn r2 r1 (by omega) (by omega) (by omega) (fun r hr g e => by have := hnb.low hr g e; omega) (by omega) (by omega) hb⟩
/-- The call came last. -/
theorem bs3 (hb0 : Below w1.heap.size w1 w0) (hbL : Below ((w0.alloc (zrow N)).alloc (zrow N)).heap.size ((w0.alloc (zrow N)).alloc (zrow N)) wL) (hnb : NB wL B N V (nbrs l N)) (hlo : ((w0.alloc (zrow N)).alloc (zrow N)).heap.size ≤ B) :
    BStart w1 N l (.pointer (some ⟨wL.heap.size, 0, none⟩)) (wL.alloc (deepO N B w0.heap.size (w0.heap.size + 1))) ∧
    BStart w1 N l (.pointer (some ⟨wL.heap.size, 0, none⟩)) (wL.alloc (deepO N B (w0.heap.size + 1) w0.heap.size)) := by
  obtain ⟨r1, r2⟩ := zrow_two w0 N
  have r1 := r1.of_block (hbL.block _ r1.lt)
  have r2 := r2.of_block (hbL.block _ r2.lt)
  have lB := hnb.ro.lt
  have z0 := hb0.size; have zL := hbL.size
  rw [World.size_alloc, World.size_alloc] at hlo zL
  have hb : Below w1.heap.size w1 wL := ((hb0.alloc z0 _).alloc (by rw [World.size_alloc]; omega) _).trans (hbL.mono (by rw [World.size_alloc, World.size_alloc]; omega))
  exact ⟨bstart_of hnb r1 r2 (by omega) (by omega) (by omega) (fun r hr g e => by have := hnb.low hr g e; omega) (by omega) (by omega) hb, bstart_of hnb r2 r1 (by omega) (by omega) (by omega) (fun r hr g e => by have := hnb.low hr g e; omega) (by omega) (by omega) hb⟩
end

set_option maxHeartbeats 6400000 in
set_option maxRecDepth 100000 in
theorem blocks_any {l : List (Int × Int)} {N : Nat} (hgood : GoodGraph N l) (s : Value) (w : World) (h : IsEdges w s l) :
    Calls Tryd.prog 46 #[.agg #[.int .i64 (N : Int), s]] w (BlocksPost l N w) := by
  obtain ⟨ad, cap, rfl⟩ := h.form
  have hN : N ≤ 100 := by have := hgood.hi; omega
  have hA : DAsk N (nbrs l N) := nbrs_ask hN
  have hb1 := below1 w (Obj.cells #[.int .i64 (N : Int), .slice ad l.length cap] 24)
  obtain ⟨cn, cs⟩ := two_cells w (.int .i64 (N : Int)) (.slice ad l.length cap) 24
  have he1 := h.below hb1
  have hmk := run_make_row' (P := Tryd.prog) 29 3 (.int .i64 0) 8 Tryd.underlying29 info3 rfl .i64 .i64 N (by omega) (by omega)
  have hz1 : w.heap.size < (w.alloc (Obj.cells #[.int .i64 (N : Int), .slice ad l.length cap] 24)).heap.size := by simp
  have Hg := Lib.hid hgood; have HA := Lib.hid hA; have HB1 := Lib.hid hb1
  clear hgood hA hb1 h
  go_enter Tryd.func46, Tryd.ntmps46
  go_upto_region 1 with fail
  generalize w.alloc (Obj.cells #[.int .i64 (N : Int), .slice ad l.length cap] 24) = w1 at *
  go_cut [3] from 9 to 19 (fun s3 wx => BStart w1 N l s3 wx)
  case first =>
    have B0 : Below w1.heap.size w1 w1.drew := (Below.refl _ _).drew
    have B1 := B0.alloc B0.size (zrow N)
    have B2 := B1.alloc B1.size (zrow N)
    have q0 : w1.drew.cell? ⟨w.heap.size, 0, none⟩ = some (.int .i64 (N : Int)) ∧ w1.drew.cell? ⟨w.heap.size, 1, none⟩ = some (.slice ad l.length cap) := ⟨cn, cs⟩
    have q1 := And.intro (below_cell (below1 _ (zrow N)) q0.1) (below_cell (below1 _ (zrow N)) q0.2)
    have q2 := And.intro (below_cell (below1 _ (zrow N)) q1.1) (below_cell (below1 _ (zrow N)) q1.2)
    have X0 := Lib.hid (he1.below B0); have X1 := Lib.hid (he1.below B1); have X2 := Lib.hid (he1.below B2)
    have B0 := Lib.hid B0
    clear he1 B1 B2
    go_region_held3 (fun w' => w'.cell? ⟨w.heap.size, 0, none⟩ = some (.int .i64 (N : Int)) ∧ w'.cell? ⟨w.heap.size, 1, none⟩ = some (.slice ad l.length cap))
      (first | exact q0 | exact q1 | exact q2 | exact qL | exact qL1 | exact qL2 | exact And.intro (below_cell (below1 _ _) qL.1) (below_cell (below1 _ _) qL.2) | exact And.intro (below_cell (below1 _ _) qL1.1) (below_cell (below1 _ _) qL1.2) | exact And.intro (below_cell (below1 _ _) qL2.1) (below_cell (below1 _ _) qL2.2))
      (first | (go_at_call 19; (first | refine (glists_any Hg.out _ _ X0.out).mono ?_ | refine (glists_any Hg.out _ _ X1.out).mono ?_ | refine (glists_any Hg.out _ _ X2.out).mono ?_); rintro e wL ⟨B, V, rfl, hnb, hlo, hbL⟩; have qL : wL.cell? ⟨w.heap.size, 0, none⟩ = some (.int .i64 (N : Int)) ∧ wL.cell? ⟨w.heap.size, 1, none⟩ = some (.slice ad l.length cap) := (by first | exact And.intro (below_cell hbL q0.1) (below_cell hbL q0.2) | exact And.intro (below_cell hbL q1.1) (below_cell hbL q1.2) | exact And.intro (below_cell hbL q2.1) (below_cell hbL q2.2)); have qL1 := And.intro (below_cell (below1 _ (zrow N)) qL.1) (below_cell (below1 _ (zrow N)) qL.2); have qL2 := And.intro (below_cell (below1 _ (zrow N)) qL1.1) (below_cell (below1 _ (zrow N)) qL1.2)))
    all_goals
      go_wp2
      go_meet
      first
        | exact (bs1 B0.out hbL hnb hlo).1
        | exact (bs1 B0.out hbL hnb hlo).2
        | exact (bs2 B0.out hbL hnb hlo).1
        | exact (bs2 B0.out hbL hnb hlo).2
        | exact (bs3 B0.out hbL hnb hlo).1
        | exact (bs3 B0.out hbL hnb hlo).2
  case rest =>
  obtain ⟨bD, B, bA, bL, V, rfl, hL, hE, hb⟩ := hcut
  obtain ⟨w2, rfl⟩ : ∃ w2 : World, w2 = wc := ⟨_, rfl⟩
  have hw1 : Below w.heap.size w w2 := HB1.out.trans (hb.mono HB1.out.size)
  have cn2 := below_cell hb cn
  have HL := Lib.hid hL; have HE := Lib.hid hE; have HB2 := Lib.hid hb
  clear hL hE hb hmk cs he1
  generalize hS : w2.heap.size = S at *
  have hz2 := HB2.out.size
  have HS := Lib.hid hS
  clear hS
  go_wp2
  go_loopg [4, 21] N (fun g s4 s21 wr => ∃ (k : Nat) (vs vb : Value), k ≤ N ∧ g = N - k ∧ s4 = .int .i64 ((allD (nbrs l N) N startD k).tm : Int) ∧ s21 = .int .i64 k ∧ DEnv wr S bD B bA bL N V (nbrs l N) (allD (nbrs l N) N startD k) vs vb ∧ Below w1.heap.size w1 wr)
  case atStart => exact ⟨0, .slice none 0 0, .slice none 0 0, Nat.zero_le _, rfl, rfl, rfl, HE.out, HB2.out⟩
  case round =>
    obtain ⟨k, vs, vb, hk, rfl, rfl, rfl, h, hb⟩ := hrel
    have hok := allD_ok HA.out k hk
    have hsucc : allD (nbrs l N) N startD (k + 1) = if (allD (nbrs l N) N startD k).num k = 0 then walkD (nbrs l N) N k (-1) (allD (nbrs l N) N startD k) else allD (nbrs l N) N startD k := rfl
    by_cases hlt : k < N
    · generalize allD (nbrs l N) N startD k = σ at *
      obtain ⟨d0, d1, d2, d3, d4⟩ := dcells h.ro
      have ca := h.num.cell hlt
      simp only [rn] at ca
      have H1 := Lib.hid h; have Hb := Lib.hid hb; have Hok := Lib.hid hok; have Hsu := Lib.hid hsucc
      clear h hb hok hsucc cn2
      by_cases h0 : σ.num k = 0
      · have Hsu2 := Lib.hid (Hsu.out.trans (if_pos h0))
        have H0 := Lib.hid h0
        rw [h0] at ca
        clear h0
        go_wp2_with (go_at_call 57; refine (walk_any w1.heap.size S bD B bA bL N V (nbrs l N) HL.out HA.out N k (-1) σ vs vb wr (unv_le _ _) hlt H0.out Hok.out H1.out).mono ?_; rintro e w5 ⟨vs5, vb5, rfl, h5, hb5⟩; have H5 := Lib.hid h5; have B5 := Lib.hid (Hb.out.trans hb5); clear h5 hb5)
        go_roundg (N - (k + 1))
        case measure => go_light; omega
        case rel => exact ⟨k + 1, vs5, vb5, by omega, rfl, by rw [Hsu2.out], by go_num, by rw [Hsu2.out]; exact H5.out, B5.out⟩
      · have Hsu2 := Lib.hid (Hsu.out.trans (if_neg h0))
        have q : ((σ.num k : Int) == 0) = false := by simp; omega
        clear h0
        go_wp2
        go_roundg (N - (k + 1))
        case measure => go_light; omega
        case rel => exact ⟨k + 1, vs, vb, by omega, rfl, by rw [Hsu2.out], by go_num, by rw [Hsu2.out]; exact H1.out, Hb.out⟩
    · obtain rfl : N = k := by omega
      have hbig := allD_big HA.out N (Nat.le_refl _)
      have hbl : (allD (nbrs l N) N startD N).blk.length ≤ 100 := by have := hok.blk; omega
      have hdd : (allD (nbrs l N) N startD N).blk = blkD l N := rfl
      clear hsucc hok
      obtain ⟨d0, d1, d2, d3, d4⟩ := dcells h.ro
      obtain ⟨vals, k1, k2⟩ := h.blks
      rw [hdd] at hbl k1 k2
      unfold DBig at hbig
      rw [hdd] at hbig
      generalize hbs : blkD l N = bs at *
      have Hbs := Lib.hid hbs
      clear hbs
      generalize allD (nbrs l N) N startD N = σ at *
      have cn3 := below_cell hb cn
      obtain ⟨aB, cB, rfl⟩ := ownsRow_form k1
      have HV := Lib.hid k1; have HK := Lib.hid k2; have Hbig := Lib.hid hbig; have Hb6 := Lib.hid hb
      clear k1 k2 hbig h hb hdd
      obtain ⟨n, hn⟩ : ∃ n, n = bs.length := ⟨_, rfl⟩
      rw [← hn] at hbl d4
      have Hn := Lib.hid hn
      obtain ⟨w6, rfl⟩ : ∃ w6 : World, w6 = wr := ⟨_, rfl⟩
      have hz6 := Hb6.out.size
      clear hn d0 d1 d2 d3
      go_wp2
      go_loopg [6, 42] n (fun g s6 s42 wr => ∃ (k : Nat) (M : List (List (Int × Int))), k ≤ n ∧ g = n - k ∧ s42 = .int .i64 k ∧ M.length = k ∧ (∀ j, j < k → BlkOf (bs.getD j []) (M.getD j [])) ∧ Blks wr w6.heap.size (.slice none 0 0) s6 M ∧ Below w6.heap.size w6 wr)
      case atStart => exact ⟨0, [], Nat.zero_le _, rfl, rfl, rfl, fun j hj => absurd hj (Nat.not_lt_zero _), ⟨[], World.ownsRow_nil _ _ _ _, fun j hj => absurd hj (Nat.not_lt_zero _)⟩, Below.refl _ _⟩
      case round =>
        obtain ⟨k, M, hk, rfl, rfl, hM, hof, hbk, hb⟩ := hrel
        obtain ⟨vals6, k1, k2⟩ := hbk
        obtain ⟨a6, c6, rfl⟩ := ownsRow_form k1
        have hz := hb.size
        by_cases hlt : k < n
        · obtain ⟨r, er, hor, -⟩ := HK.out k (by rw [← Hn.out]; exact hlt)
          have hv0 := HV.out
          obtain ⟨gB, eB⟩ : ∃ gB, aB = some ⟨gB, 0, none⟩ := by
            rcases hv0.2 with ⟨e, e0⟩ | ⟨g, cap', cur, e, -⟩
            · rw [← Hn.out] at e0; omega
            · simp only [Value.slice.injEq] at e; exact ⟨g, e.1⟩
          subst eB
          have cr := hv0.cells (g := gB) rfl _ _ er
          rw [Addr.add_lit, Nat.zero_add] at cr
          have cr2 := below_cell hb cr
          have cn4 := below_cell hb cn3
          have hmem : bs.getD k [] ∈ bs := by rw [List.getD, List.getElem?_eq_getElem (by rw [← Hn.out]; exact hlt)]; exact List.getElem_mem _
          have hlen := (Hbig.out _ hmem).2
          have hed := hor.edges.below hb
          generalize hbj : bs.getD k [] = bj at *
          have hM100 : M.length ≤ 100 := by omega
          have Hbj := Lib.hid hbj; have Hed := Lib.hid hed; have Hb := Lib.hid hb; have K1 := Lib.hid k1; have K2 := Lib.hid k2; have Hof := Lib.hid hof; have HM := Lib.hid hM
          clear hbj hed hb k1 k2 hof hv0 cr er hor hmem hM
          go_upto_region 13 with fail
          go_wp2_with (first | (go_at_call 37; refine (make_any bj (N : Int) r wr Hed.out (by omega)).mono ?_; rintro e w7 ⟨v7, L7, ho7, hb7, rfl, hp7, hs7⟩; obtain ⟨a7, k7, rfl⟩ := ho7.form; have hfe : (Instr.field 24 (.agg #[.int .i64 (N : Int), .slice a7 L7.length k7]) 1).run Tryd.prog w7 = .ok (.slice a7 L7.length k7) w7 := (by kernel_rfl); have hz7 := hb7.size; have Ho7 := Lib.hid (ho7.low hz); have Hb7 := Lib.hid hb7; have Hp7 := Lib.hid (show BlkOf bj L7 from ⟨hp7, hs7⟩); have G7 := Lib.hid (grown_of_below hb7); clear ho7 hb7 hp7 hs7) | (at_builtin; refine wpList_append_at rfl (.tmp 46) (.tmp 52) 74 rfl w6.heap.size 22 (.slice none 0 0) 24 Tryd.underlying74 infoE rfl (.slice a6 M.length c6) M.length vals6 rfl ((K1.out.kept G7.out (by cases (Value.slice a6 M.length c6).ownBlock <;> simp)).alloc _) _ 1 [.slice a7 L7.length k7] rfl (HasCells.one _ _ _ rfl) (by omega) (by omega) (by omega) (by simp; omega) ?_; intro a8 c8 w8 ho8 hg8 hat8; have Hk8 := Lib.hid (Blks.more K1.out K2.out G7.out Ho7.out (fun g _ e => by cases e) rfl ho8 hg8); have Hb8 := Lib.hid (((Hb.out.trans (Hb7.out.mono hz)).alloc (Nat.le_trans hz hz7) (Obj.cells #[.slice a7 L7.length k7] 22)).grown hg8 (by simp; omega) (fun g e => (K1.out.lt g e).1)); clear ho8 hg8 hat8))
          go_roundg (n - (k + 1))
          case measure => go_light; omega
          case rel => exact ⟨k + 1, M ++ [L7], by omega, rfl, by go_num, by simp [HM.out], fun j hj => by
            by_cases e : j = k
            · subst e
              have : (M ++ [L7]).getD j [] = L7 := by rw [← HM.out]; simp [List.getD]
              rw [this, Hbj.out]; exact Hp7.out
            · have : (M ++ [L7]).getD j [] = M.getD j [] := by simp [List.getD, List.getElem?_append_left (show j < M.length by rw [HM.out]; omega)]
              rw [this]; exact Hof.out j (by omega), by first | exact Hk8.out | (have h9 := Hk8.out; rw [HM.out] at h9; exact h9), Hb8.out⟩
        · obtain rfl : k = n := by omega
          have hne : ∀ m ∈ M, m ≠ [] := fun m hm e => by
            obtain ⟨j, hj, ej⟩ := List.mem_iff_getElem.1 hm
            have h1 := (hof j (by omega)).1.length_eq
            have h2 : M.getD j [] = m := by rw [List.getD, List.getElem?_eq_getElem hj]; exact ej
            rw [h2, e, List.length_map] at h1
            have hmem : bs.getD j [] ∈ bs := by rw [List.getD, List.getElem?_eq_getElem (by rw [← Hn.out]; omega)]; exact List.getElem_mem _
            exact (Hbig.out _ hmem).1 (List.eq_nil_of_length_eq_zero h1.symm)
          have Hne := Lib.hid hne; have Hb := Lib.hid hb; have HBk := Lib.hid (show Blks wr w6.heap.size (.slice none 0 0) (.slice a6 M.length c6) M from ⟨vals6, k1, k2⟩)
          have Hown := Lib.hid (fun g (e : (Value.slice a6 M.length c6).ownBlock = some g) => (k1.lt g e).1)
          have Hof := Lib.hid hof; have HM := Lib.hid hM
          clear hne hb k1 k2 hof hM
          go_wp2_with (go_at_call 58; refine (sortB_any HBk.out Hne.out (by rw [HM.out]; omega)).mono ?_; rintro e w9 ⟨rfl, L', hB', hg9, hp, hs⟩; have H9 := Lib.hid hB'; have G9 := Lib.hid hg9; have Hp := Lib.hid hp; have Hs := Lib.hid hs; clear hB' hg9 hp hs)
          exact bodyPost_ret (v := .slice a6 M.length c6) (by simp [results, Tryd.results46, go_sem]) rfl ⟨_, L', rfl, H9.out.low (Nat.le_trans HB1.out.size hz6), HB1.out.trans ((Hb6.out.trans ((Hb.out.grown G9.out hz Hown.out).mono hz6)).mono HB1.out.size), by rw [Hbs.out]; exact ⟨⟨M, by rw [HM.out, Hn.out], fun j hj => Hof.out j (by rw [Hn.out]; exact hj), Hp.out⟩, Hs.out⟩⟩

end Go.Proofs.YtnhhohhhpaejmaaDoor
