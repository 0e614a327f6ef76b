/- arborref.OneRing: do two edges stay together whichever node, and whichever of both, is taken away. -/
import Derived.Test.YtmhcnekbfngafaaShutW
namespace Go.Proofs.Ytmhcnekbfngafaa
open Go.RowKit

open Classical in
noncomputable def oneB (N : Nat) (G : Nat → Nat → Bool) (e f : Int × Int) : Bool := decide (OneRing N G e f)
theorem oneB_iff {N : Nat} {G : Nat → Nat → Bool} {e f : Int × Int} : oneB N G e f = true ↔ OneRing N G e f := by unfold oneB; simp
theorem oneB_no {N : Nat} {G : Nat → Nat → Bool} {e f : Int × Int} (h : ¬ OneRing N G e f) : oneB N G e f = false := by unfold oneB; simp [h]

/-- The two edges' own boxes. -/
structure OrSt (w wr : World) (gv : Value) (N : Nat) (G : Nat → Nat → Bool) (a b c d : Nat) : Prop where
  hb : Below w.heap.size w wr
  c0 : wr.cell? ⟨w.heap.size, 0, none⟩ = some (.int .i64 (a : Int))
  c1 : wr.cell? ⟨w.heap.size, 1, none⟩ = some (.int .i64 (b : Int))
  d0 : wr.cell? ⟨w.heap.size + 1, 0, none⟩ = some (.int .i64 (c : Int))
  d1 : wr.cell? ⟨w.heap.size + 1, 1, none⟩ = some (.int .i64 (d : Int))
  g : HasGrid wr gv N G
theorem OrSt.below {w wr w' : World} {gv : Value} {N : Nat} {G : Nat → Nat → Bool} {a b c d : Nat} (h : OrSt w wr gv N G a b c d) (hb : Below wr.heap.size wr w') : OrSt w w' gv N G a b c d :=
  ⟨upb h.hb hb, below_cell hb h.c0, below_cell hb h.c1, below_cell hb h.d0, below_cell hb h.d1, h.g.below hb⟩
theorem OrSt.start {w : World} {gv : Value} {N : Nat} {G : Nat → Nat → Bool} {a b c d : Nat} (hg : HasGrid w gv N G) :
    OrSt w ((w.alloc (Obj.cells #[.int .i64 (a : Int), .int .i64 (b : Int)] 61)).alloc (Obj.cells #[.int .i64 (c : Int), .int .i64 (d : Int)] 61)) gv N G a b c d := by
  have h1 := two_cells w (.int .i64 (a : Int)) (.int .i64 (b : Int)) 61
  have h2 := two_cells (w.alloc (Obj.cells #[.int .i64 (a : Int), .int .i64 (b : Int)] 61)) (.int .i64 (c : Int)) (.int .i64 (d : Int)) 61
  rw [World.size_alloc] at h2
  exact ⟨below2 _ _ _, below_cell (below1 _ _) h1.1, below_cell (below1 _ _) h1.2, h2.1, h2.2, hg.below (below2 _ _ _)⟩
theorem otherE_lt {a b v N : Nat} (ha : a < N) (hb : b < N) : otherE ((a : Int), (b : Int)) v < N := by
  rw [otherE_pair]; split <;> assumption

set_option maxHeartbeats 6400000 in
set_option maxRecDepth 100000 in
theorem onering_any (N a b c d : Nat) (G : Nat → Nat → Bool) (gv : Value) (w : World) (hN : N ≤ 100) (hg : HasGrid w gv N G) (hG : Gr N G) (hab : a < b) (hb : b < N) (hcd : c < d) (hd : d < N) (hne : ¬ (a = c ∧ b = d)) :
    Calls Try.prog 61 #[gv, .agg #[.int .i64 (a : Int), .int .i64 (b : Int)], .agg #[.int .i64 (c : Int), .int .i64 (d : Int)]] w fun e w' => e = .returned (.bool (oneB N G ((a : Int), (b : Int)) ((c : Int), (d : Int)))) ∧ Below w.heap.size w w' := by
  have St := Lib.hid (OrSt.start (a := a) (b := b) (c := c) (d := d) hg)
  have HG := Lib.hid hG
  obtain ⟨ag, kg, rfl⟩ := hg.form
  have ha : a < N := by omega
  have hc : c < N := by omega
  have hox := fun v => otherE_lt (v := v) ha hb
  have hoy := fun v => otherE_lt (v := v) hc hd
  have Hox := Lib.hid hox; have Hoy := Lib.hid hoy
  clear hg hG hox hoy
  go_enter Try.func61, Try.ntmps61
  go_upto_region 1 with fail
  generalize (w.alloc (Obj.cells #[.int .i64 (a : Int), .int .i64 (b : Int)] 61)).alloc (Obj.cells #[.int .i64 (c : Int), .int .i64 (d : Int)] 61) = w1 at *
  go_wp2
  go_loopg [7] N (fun g s7 wr => ∃ v : Nat, v ≤ N ∧ g = N - v ∧ s7 = .int .i64 v ∧ (∀ u, u < v → Rch N G (shut1 u) (otherE ((a : Int), (b : Int)) u) (otherE ((c : Int), (d : Int)) u)) ∧ OrSt w wr (.slice ag N kg) N G a b c d)
  case atStart => exact ⟨0, Nat.zero_le _, rfl, rfl, fun u hu => absurd hu (Nat.not_lt_zero _), St.out⟩
  case round =>
    obtain ⟨v, hv, rfl, rfl, hall, hst⟩ := hrel
    have Hst := Lib.hid hst; have Hall := Lib.hid hall
    have c0 := hst.c0; have c1 := hst.c1; have d0 := hst.d0; have d1 := hst.d1
    clear hst hall
    by_cases hvN : v < N
    · have i1 := fun w => other_any a b v w
      have i2 := fun w => other_any c d v w
      have I1 := Lib.hid i1; have I2 := Lib.hid i2
      have hx := Hox.out v; have hy := Hoy.out v
      generalize hxx : otherE ((a : Int), (b : Int)) v = x at *
      generalize hyy : otherE ((c : Int), (d : Int)) v = y at *
      have Hxx := Lib.hid hxx; have Hyy := Lib.hid hyy
      clear i1 i2 hxx hyy
      go_upto_region 4 with fail
      have hd0 : Below wr.heap.size wr wr.drew := (Below.refl _ _).drew
      have q0 : wr.drew.cell? ⟨w.heap.size, 0, none⟩ = some (.int .i64 (a : Int)) ∧ wr.drew.cell? ⟨w.heap.size, 1, none⟩ = some (.int .i64 (b : Int)) ∧ wr.drew.cell? ⟨w.heap.size + 1, 0, none⟩ = some (.int .i64 (c : Int)) ∧ wr.drew.cell? ⟨w.heap.size + 1, 1, none⟩ = some (.int .i64 (d : Int)) := ⟨c0, c1, d0, d1⟩
      go_cut [8, 9] from 17 to 22 (fun s8 s9 wx => s8 = .int .i64 (x : Int) ∧ s9 = .int .i64 (y : Int) ∧ Below wr.heap.size wr wx)
      case first =>
        go_region_held3 (fun w' => w'.cell? ⟨w.heap.size, 0, none⟩ = some (.int .i64 (a : Int)) ∧ w'.cell? ⟨w.heap.size, 1, none⟩ = some (.int .i64 (b : Int)) ∧ w'.cell? ⟨w.heap.size + 1, 0, none⟩ = some (.int .i64 (c : Int)) ∧ w'.cell? ⟨w.heap.size + 1, 1, none⟩ = some (.int .i64 (d : Int)))
          (first | exact q0 | exact q1 | exact q2)
          (first
            | (go_at_call_of 82 (Value.agg #[.int .i64 (a : Int), .int .i64 (b : Int)]); refine (I1.out _).mono ?_; rintro e wp ⟨rfl, hb1⟩; have h01 : Below wr.heap.size wr wp := upb hd0 hb1; have q1 := (And.intro (below_cell h01 c0) (And.intro (below_cell h01 c1) (And.intro (below_cell h01 d0) (below_cell h01 d1)))))
            | (go_at_call_of 82 (Value.agg #[.int .i64 (c : Int), .int .i64 (d : Int)]); refine (I2.out _).mono ?_; rintro e wq ⟨rfl, hb2⟩; have h02 : Below wr.heap.size wr wq := upb h01 hb2; have q2 := (And.intro (below_cell h02 c0) (And.intro (below_cell h02 c1) (And.intro (below_cell h02 d0) (below_cell h02 d1))))))
        all_goals (go_wp2_with fail; go_meet; exact ⟨rfl, rfl, h02⟩)
      case rest =>
      obtain ⟨rfl, rfl, hb3⟩ := hcut
      rename World => w3
      have S3 := Lib.hid (Hst.out.below hb3)
      clear q0 hd0 c0 c1 d0 d1 hb3
      go_wp2_with fail
      refine (shut_any N v w3 hN hvN).mono ?_
      rintro e w4 ⟨x4, rfl, hs4, hb4⟩
      have S4 := Lib.hid (S3.out.below hb4); have Hs4 := Lib.hid hs4
      clear hs4 hb4
      go_wp2_with fail
      refine (reach_any N x G (shut1 v) _ _ w4 hN hx S4.out.g Hs4.out).mono ?_
      rintro e w5 ⟨b5, rfl, l5, hr5, hb5⟩
      have S5 := Lib.hid (S4.out.below hb5)
      have t5 := hr5.cell hy
      simp only [rb] at t5
      clear hb5 hr5
      cases hr : rchB N G (shut1 v) x y with
      | true =>
        rw [hr] at t5
        have Hr := Lib.hid (rchB_iff.1 hr)
        clear hr
        go_wp2
        go_roundg (N - (v + 1))
        case measure => go_light; omega
        case rel => exact ⟨v + 1, by omega, rfl, by go_num, fun u hu => by
          by_cases e : u = v
          · subst e; rw [Hxx.out, Hyy.out]; exact Hr.out
          · exact Hall.out u (by omega), S5.out⟩
      | false =>
        rw [hr] at t5
        have Hno := Lib.hid (show oneB N G ((a : Int), (b : Int)) ((c : Int), (d : Int)) = false from by
          refine oneB_no fun k => ?_
          have := k.1 v hvN
          rw [Hxx.out, Hyy.out, ← rchB_iff, hr] at this
          cases this)
        clear hr
        go_wp2
        go_ret
        exact ⟨by rw [Hno.out]; rfl, S5.out.hb⟩
    · obtain rfl : N = v := by omega
      go_upto_region 8 with (go_at_call 39; refine (without_any N G (a : Int) (b : Int) _ _ hN Hst.out.g).mono ?_; rintro e w3 ⟨v3, rfl, hg3, hb3⟩; have S3 := Lib.hid (Hst.out.below hb3); have Hg3 := Lib.hid (hg3.congr fun i j hi hj => but_less HG.out hab hi hj); clear hg3 hb3)
      clear c0 c1 d0 d1
      have c0 := S3.out.c0
      have c1 := S3.out.c1
      go_cut [45] from 37 to 45 (fun s45 wx => s45 = .bool (!(rchB N (lessG G a b) (fun _ => false) a b)) ∧ Below w3.heap.size w3 wx)
      case first =>
        go_region_with (go_at_call 64; refine (reach_any N a (lessG G a b) (fun _ => false) _ _ _ hN ha (Hg3.out.below (Below.drew (Below.refl _ _))) (HasShut.nil _)).mono ?_; rintro e w5 ⟨b5, rfl, l5, hr5, hb5⟩; have hbx := upb (Below.drew (Below.refl _ _)) hb5; have c0' := below_cell hbx c0; have c1' := below_cell hbx c1; have t5 := hr5.cell hb; simp only [rb] at t5)
        all_goals (go_wp2_with fail; go_meet; exact ⟨rfl, hbx⟩)
      case rest =>
      obtain ⟨rfl, hb5⟩ := hcut
      rename World => w5
      have S5 := Lib.hid (S3.out.below hb5)
      clear c0 c1 hb5
      cases hr : rchB N (lessG G a b) (fun _ => false) a b with
      | false =>
        have Hno := Lib.hid (show oneB N G ((a : Int), (b : Int)) ((c : Int), (d : Int)) = false from by
          refine oneB_no fun k => ?_
          have := k.2.1
          simp only [Int.toNat_natCast] at this
          rw [← rchB_iff, hr] at this
          cases this)
        clear hr
        go_wp2
        go_ret
        exact ⟨by rw [Hno.out]; rfl, S5.out.hb⟩
      | true =>
        have Hr := Lib.hid (rchB_iff.1 hr)
        clear hr
        have d0 := S5.out.d0; have d1 := S5.out.d1
        go_upto_region 11 with (go_at_call 39; refine (without_any N G (c : Int) (d : Int) _ _ hN S5.out.g).mono ?_; rintro e w6 ⟨v6, rfl, hg6, hb6⟩; have S6 := Lib.hid (S5.out.below hb6); have Hg6 := Lib.hid (hg6.congr fun i j hi hj => but_less HG.out hcd hi hj); clear hg6 hb6)
        clear d0 d1
        have d0 := S6.out.d0
        have d1 := S6.out.d1
        go_cut [6] from 49 to 56 (fun s6 wx => s6 = .bool (rchB N (lessG G c d) (fun _ => false) c d) ∧ Below w6.heap.size w6 wx)
        case first =>
          go_region_with (go_at_call 64; refine (reach_any N c (lessG G c d) (fun _ => false) _ _ _ hN hc (Hg6.out.below (Below.drew (Below.refl _ _))) (HasShut.nil _)).mono ?_; rintro e w7 ⟨b7, rfl, l7, hr7, hb7⟩; have hbx := upb (Below.drew (Below.refl _ _)) hb7; have d0' := below_cell hbx d0; have d1' := below_cell hbx d1; have t7 := hr7.cell hd; simp only [rb] at t7)
          all_goals (go_wp2_with fail; go_meet; exact ⟨rfl, hbx⟩)
        case rest =>
        obtain ⟨rfl, hb7⟩ := hcut
        rename World => w7
        have S7 := Lib.hid (S6.out.below hb7)
        have Heq := Lib.hid (show oneB N G ((a : Int), (b : Int)) ((c : Int), (d : Int)) = rchB N (lessG G c d) (fun _ => false) c d from by
          rw [Bool.eq_iff_iff, oneB_iff, rchB_iff]
          unfold OneRing
          simp only [Int.toNat_natCast]
          exact ⟨fun k => k.2.2, fun k => ⟨Hall.out, Hr.out, k⟩⟩)
        generalize rchB N (lessG G c d) (fun _ => false) c d = r at *
        clear d0 d1 hb7
        go_wp2
        go_ret
        exact ⟨by rw [Heq.out]; rfl, S7.out.hb⟩

end Go.Proofs.Ytmhcnekbfngafaa
