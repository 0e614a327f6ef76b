/- arborref.Stars: are there three nodes any two of which are on a way that stays away from the third one? arborref.Stars, all of it. -/
import Derived.Test.YtnhhohhhpaejmaaPP
import Derived.Test.YtnhhohhhpaejmaaPI
import Derived.Deep.LoopGhost
import Derived.Deep.Light
namespace Go.Proofs.Ytnhhohhhpaejmaa
open Go Go.RowKit

/-- What is shut beside a node. -/
def shN (N : Nat) (G : Nat → Nat → Bool) (c q : Nat) : Bool := decide (q < N) && (decide (q = c) || G c q)
theorem shN_lt {N : Nat} {G : Nat → Nat → Bool} {c q : Nat} (h : q < N) : shN N G c q = shU G (fun _ => true) c q := by unfold shN shU; simp [h]
theorem shN_rch {N : Nat} {G : Nat → Nat → Bool} {c a b : Nat} : Rch N G (shN N G c) a b ↔ Rch N G (shU G (fun _ => true) c) a b := by
  constructor
  · intro h
    induction h with
    | refl => exact .refl
    | step h1 h2 h3 h4 h5 ih => exact .step ih h2 h3 h4 (by rw [← shN_lt h3]; exact h5)
  · intro h
    induction h with
    | refl => exact .refl
    | step h1 h2 h3 h4 h5 ih => exact .step ih h2 h3 h4 (by rw [shN_lt h3]; exact h5)
/-- What far answers. -/
def FarPost (N : Nat) (G : Nat → Nat → Bool) (a b c : Nat) (w : World) (e : Ending) (w' : World) : Prop := (∃ x : Bool, e = .returned (.bool x) ∧ (x = true ↔ LK N G (fun _ => true) c a b)) ∧ Below w.heap.size w w'
theorem FarPost.no {N : Nat} {G : Nat → Nat → Bool} {a b c : Nat} {w w' : World} (h : shN N G c a = true ∨ shN N G c b = true) (ha : a < N) (hb : b < N) (hw : Below w.heap.size w w') : FarPost N G a b c w (.returned (.bool false)) w' :=
  ⟨⟨false, rfl, fun e => absurd e (by decide), fun k => by
    rcases h with h | h
    · rw [shN_lt ha, k.2.1] at h; cases h
    · rw [shN_lt hb, k.2.2.free k.2.1] at h; cases h⟩, hw⟩
set_option maxHeartbeats 3200000 in
set_option maxRecDepth 100000 in
theorem farS_any (N a b c : Nat) (G : Nat → Nat → Bool) (gv : Value) (TB : Nat) (w : World) (hN : N ≤ 100) (ha : a < N) (hb : b < N) (hc : c < N) (ct : w.cell? ⟨TB, 0, none⟩ = some gv) (hg : HasGrid w gv N G) :
    Calls Try.prog 49 #[.int .i64 (a : Int), .int .i64 (b : Int), .int .i64 (c : Int), .pointer (some ⟨TB, 0, none⟩)] w (FarPost N G a b c w) := by
  have Hg := Lib.hid hg
  have Ct := Lib.hid ct
  obtain ⟨B, ga, gc, gb, go, R0, rfl, -⟩ := hg
  have hmk := run_make_row' (P := Try.prog) 39 4 (.bool false) 1 Try.underlying39 info4 rfl .i64 .i64 N (by omega) (by omega)
  have hr1 := World.rowIs_made w (.bool false) N 4
  have R1 := Lib.hid (RcSt.mk (bI := w.heap.size) (I := fun q => decide (q < 0) && shN N G c q) (below1 w (.cells (madeCells #[.bool false] N) 4)) (Nat.le_refl _) (hr1.congr fun _ _ => by simp [rb]))
  have hct1 := below_cell (below1 w (.cells (madeCells #[.bool false] N) 4)) ct
  clear hr1
  go_enter Try.func49, Try.ntmps49
  go_upto_region 3 with fail
  clear hmk ct hct1
  generalize w.alloc (.cells (madeCells #[.bool false] N) 4) = w1 at *
  go_loopg [9] N (fun g s9 wr => ∃ v : Nat, v ≤ N ∧ g = N - v ∧ s9 = .int .i64 (v : Int) ∧ RcSt w wr w.heap.size N (fun q => decide (q < v) && shN N G c q))
  case atStart => exact ⟨0, Nat.zero_le _, rfl, rfl, R1.out⟩
  case round =>
    obtain ⟨v, hv, rfl, rfl, hst⟩ := hrel
    have ct := below_cell hst.hb Ct.out
    have Hst := Lib.hid hst
    by_cases hlt : v < N
    · have Set := Lib.hid (fun x => hst.set v x)
      have lr := hst.row.lt
      have f2 := hst.row.frozen v
      have t2 : ∃ y, wr.cell? ⟨w.heap.size, v, none⟩ = some y := ⟨_, hst.row.cell hlt⟩
      obtain ⟨y2, t2⟩ := t2
      have step : ∀ x, x = shN N G c v → RcSt w (wr.setCell ⟨w.heap.size, v, none⟩ (.bool x)) w.heap.size N (fun q => decide (q < v + 1) && shN N G c q) := fun x hx => by
        refine ⟨(Set.out x).hb, Nat.le_refl _, row_rb (Set.out x).row fun q hq => ?_⟩
        by_cases e : q = v
        · subst e; rw [if_pos rfl, hx]; simp
        · rw [if_neg e]
          by_cases h1 : q < v
          · rw [decide_eq_true h1, decide_eq_true (show q < v + 1 by omega)]
          · rw [decide_eq_false h1, decide_eq_false (show ¬ q < v + 1 by omega)]
      have Step := Lib.hid step
      clear step Set
      by_cases hvc : v = c
      · subst hvc
        have hx := Step.out true (by unfold shN; simp [hlt])
        have Hx := Lib.hid hx
        clear hst hx
        go_wp2
        go_roundg (N - (v + 1))
        case measure => go_light; omega
        case rel => exact ⟨v + 1, by omega, rfl, by go_num, Hx.out⟩
      · obtain ⟨b2, o2, c2, r2, he, c1, c2'⟩ := (Hg.out.below hst.hb).entry hc hlt
        simp only [Value.slice.injEq, true_and] at he
        obtain ⟨rfl, rfl⟩ := he
        have hx := Step.out (G c v) (by unfold shN; simp [hlt, hvc])
        have Hx := Lib.hid hx
        have hne : ((v : Int) == (c : Int)) = false := by simp; omega
        clear hst hx hvc
        go_wp2
        go_roundg (N - (v + 1))
        case measure => go_light; omega
        case rel => exact ⟨v + 1, by omega, rfl, by go_num, Hx.out⟩
    · obtain rfl : v = N := by omega
      have hrow : wr.rowIs w.heap.size 4 v (rb (shN v G c)) := row_rb hst.row fun q hq => by rw [decide_eq_true hq]; rfl
      have Hrow := Lib.hid hrow
      have ta : wr.cell? ⟨w.heap.size, a, none⟩ = some (.bool (shN v G c a)) := hrow.cell ha
      have tb : wr.cell? ⟨w.heap.size, b, none⟩ = some (.bool (shN v G c b)) := hrow.cell hb
      have Hb := Lib.hid hst.hb
      have Hsh := Lib.hid (show HasShut wr (.slice (some ⟨w.heap.size, 0, none⟩) v v) (shN v G c) from ⟨_, v, v, _, 0, rfl, Nat.le_refl _, by omega, fun _ => rfl, fun j hj => by rw [Nat.zero_add]; exact hrow.cell hj, fun j hj => by unfold shN; rw [decide_eq_false (by omega)]; rfl⟩)
      have Hgr := Lib.hid (Hg.out.below hst.hb)
      clear hst hrow
      cases hsa : shN v G c a
      · cases hsb : shN v G c b
        · rw [hsa] at ta
          rw [hsb] at tb
          have Hsa := Lib.hid hsa
          clear hsa hsb
          go_wp2_with (go_at_call 50; refine (reach_any v a G (shN v G c) _ _ _ hN ha Hgr.out Hsh.out).mono ?_; rintro e w5 ⟨b5, rfl, l5, hr5, hb5⟩; have cR := hr5.cell hb; simp only [rb] at cR; have Hb5 := Lib.hid (Hb.out.trans (hb5.mono Hb.out.size)); clear hr5 hb5)
          go_ret
          refine ⟨⟨_, rfl, ?_⟩, Hb5.out⟩
          rw [rchB_iff, shN_rch]
          exact ⟨fun h => ⟨ha, by rw [← shN_lt ha]; exact Hsa.out, h⟩, fun h => h.2.2⟩
        · rw [hsa] at ta
          rw [hsb] at tb
          have Hsb := Lib.hid hsb
          clear hsa hsb
          go_wp2
          go_ret
          exact FarPost.no (.inr Hsb.out) ha hb Hb.out
      · rw [hsa] at ta
        have Hsa := Lib.hid hsa
        clear hsa tb
        go_wp2
        go_ret
        exact FarPost.no (.inl Hsa.out) ha hb Hb.out
end Go.Proofs.Ytnhhohhhpaejmaa
namespace Go.Proofs.Ytnhhohhhpaejmaa
open Go Go.RowKit

/-- Three such nodes. -/
def TriS (N : Nat) (G : Nat → Nat → Bool) (a b c : Nat) : Prop := LK N G (fun _ => true) c a b ∧ LK N G (fun _ => true) a b c ∧ LK N G (fun _ => true) b a c
/-- None so far. -/
def NoS (N : Nat) (G : Nat → Nat → Bool) (i j k : Nat) : Prop := ∀ a b c, b < a → c < b → (a < i ∨ (a = i ∧ (b < j ∨ (b = j ∧ c < k)))) → ¬ TriS N G a b c
theorem NoS.start {N : Nat} {G : Nat → Nat → Bool} : NoS N G 0 0 0 := fun a b c _ _ h => by omega
theorem NoS.next {N : Nat} {G : Nat → Nat → Bool} {i j k : Nat} (h : NoS N G i j k) (hn : ¬ TriS N G i j k) : NoS N G i j (k + 1) := fun a b c h1 h2 h3 => by
  by_cases e : a = i ∧ b = j ∧ c = k
  · obtain ⟨rfl, rfl, rfl⟩ := e; exact hn
  · exact h a b c h1 h2 (by omega)
theorem NoS.row {N : Nat} {G : Nat → Nat → Bool} {i j : Nat} (h : NoS N G i j j) : NoS N G i (j + 1) 0 := fun a b c h1 h2 h3 => h a b c h1 h2 (by omega)
theorem NoS.col {N : Nat} {G : Nat → Nat → Bool} {i : Nat} (h : NoS N G i i 0) : NoS N G (i + 1) 0 0 := fun a b c h1 h2 h3 => h a b c h1 h2 (by omega)
/-- What Stars answers. -/
def StarsPost (N : Nat) (G : Nat → Nat → Bool) (w : World) (e : Ending) (w' : World) : Prop := (∃ x : Bool, e = .returned (.bool x) ∧ (x = true ↔ ∃ a b c, a < N ∧ b < a ∧ c < b ∧ TriS N G a b c)) ∧ Below w.heap.size w w'
theorem below_up {a b c : World} (h : Below a.heap.size a b) (k : Below b.heap.size b c) : Below a.heap.size a c := h.trans (k.mono h.size)
set_option maxHeartbeats 6400000 in
set_option maxRecDepth 100000 in
theorem stars_any (N : Nat) (G : Nat → Nat → Bool) (gv : Value) (w : World) (hN : N ≤ 100) (hg : HasGrid w gv N G) :
    Calls Try.prog 26 #[gv] w (StarsPost N G w) := by
  have Hg := Lib.hid hg
  obtain ⟨B, ga, gc, gb, go, R0, rfl, -⟩ := hg
  go_enter Try.func26, Try.ntmps26
  go_upto_region 3 with fail
  have Hb1 := Lib.hid (below1 w (.cells #[.slice ga N gc] 35))
  have ct1 : (w.alloc (.cells #[.slice ga N gc] 35)).cell? ⟨w.heap.size, 0, none⟩ = some (.slice ga N gc) := by simp
  generalize w.alloc (.cells #[.slice ga N gc] 35) = w1 at *
  have Ct1 := Lib.hid ct1
  have Hg1 := Lib.hid (Hg.out.below Hb1.out)
  clear ct1
  go_loopg [4] N (fun g s4 wr => ∃ a : Nat, a ≤ N ∧ g = N - a ∧ s4 = .int .i64 (a : Int) ∧ Below w1.heap.size w1 wr ∧ NoS N G a 0 0)
  case atStart => exact ⟨0, Nat.zero_le _, rfl, rfl, Below.refl _ _, NoS.start⟩
  case round =>
    obtain ⟨a, ha, rfl, rfl, hb, hno⟩ := hrel
    have ct := below_cell hb Ct1.out
    have Hb := Lib.hid hb
    have Hno := Lib.hid hno
    clear hb hno
    by_cases hlt : a < N
    · go_upto_region 6 with fail
      clear ct
      obtain ⟨wo, rfl⟩ : ∃ wo : World, wo = wr := ⟨_, rfl⟩
      go_loopg [5] a (fun g s5 wr => ∃ b : Nat, b ≤ a ∧ g = a - b ∧ s5 = .int .i64 (b : Int) ∧ Below w1.heap.size w1 wr ∧ NoS N G a b 0)
      case atStart => exact ⟨0, Nat.zero_le _, rfl, rfl, Hb.out, Hno.out⟩
      case round =>
        obtain ⟨b, hba, rfl, rfl, hb2, hno2⟩ := hrel
        have Hb2 := Lib.hid hb2
        have Hno2 := Lib.hid hno2
        clear hb2 hno2
        by_cases hbl : b < a
        · go_upto_region 9 with fail
          obtain ⟨w5, rfl⟩ : ∃ w5 : World, w5 = wr := ⟨_, rfl⟩
          go_loopg [6] b (fun g s6 wr => ∃ c : Nat, c ≤ b ∧ g = b - c ∧ s6 = .int .i64 (c : Int) ∧ Below w1.heap.size w1 wr ∧ NoS N G a b c)
          case atStart => exact ⟨0, Nat.zero_le _, rfl, rfl, Hb2.out, Hno2.out⟩
          case round =>
            obtain ⟨c, hcb, rfl, rfl, hb3, hno3⟩ := hrel
            have hcur := Lib.hid hb3
            have Hno3 := Lib.hid hno3
            clear hb3 hno3
            by_cases hcl : c < b
            · have hbN : b < N := by omega
              have hcN : c < N := by omega
              go_upto_region 11 with fail
              go_wp2_with (go_at_call 49; first
                | (have _h := Hx2; refine (farS_any N a c b G _ _ _ hN hlt hcN hbN (below_cell hcur.out Ct1.out) (Hg1.out.below hcur.out)).mono ?_; rintro e wp ⟨⟨x, rfl, hx⟩, hbe⟩; have Hx3 := Lib.hid hx; have hcur := Lib.hid (below_up hcur.out hbe); clear hx hbe; cases x)
                | (have _h := Hx1; refine (farS_any N b c a G _ _ _ hN hbN hcN hlt (below_cell hcur.out Ct1.out) (Hg1.out.below hcur.out)).mono ?_; rintro e wp ⟨⟨x, rfl, hx⟩, hbe⟩; have Hx2 := Lib.hid hx; have hcur := Lib.hid (below_up hcur.out hbe); clear hx hbe; cases x)
                | (refine (farS_any N a b c G _ _ _ hN hlt hbN hcN (below_cell hcur.out Ct1.out) (Hg1.out.below hcur.out)).mono ?_; rintro e wp ⟨⟨x, rfl, hx⟩, hbe⟩; have Hx1 := Lib.hid hx; have hcur := Lib.hid (below_up hcur.out hbe); clear hx hbe; cases x))
              all_goals first
                | (have t3 := Hx3.out.1 (by trivial)
                   go_ret
                   exact ⟨⟨true, rfl, fun _ => ⟨a, b, c, hlt, hbl, hcl, Hx1.out.1 (by trivial), Hx2.out.1 (by trivial), t3⟩, fun _ => rfl⟩, below_up Hb1.out hcur.out⟩)
                | (have Hn := Lib.hid (show ¬ TriS N G a b c from fun h => by
                     first
                       | exact absurd (Hx3.out.2 h.2.2) (by decide)
                       | exact absurd (Hx2.out.2 h.2.1) (by decide)
                       | exact absurd (Hx1.out.2 h.1) (by decide))
                   go_roundg (b - (c + 1))
                   case measure => go_light; omega
                   case rel => exact ⟨c + 1, by omega, rfl, by go_num, hcur.out, Hno3.out.next Hn.out⟩)
            · obtain rfl : c = b := by omega
              go_wp2
              go_roundg (a - (c + 1))
              case measure => go_light; omega
              case rel => exact ⟨c + 1, by omega, rfl, by go_num, hcur.out, Hno3.out.row⟩
        · obtain rfl : b = a := by omega
          go_wp2
          go_roundg (N - (b + 1))
          case measure => go_light; omega
          case rel => exact ⟨b + 1, by omega, rfl, by go_num, Hb2.out, Hno2.out.col⟩
    · obtain rfl : a = N := by omega
      go_wp2
      go_ret
      exact ⟨⟨false, rfl, fun e => absurd e (by decide), fun ⟨x, y, z, h1, h2, h3, h4⟩ => absurd h4 (Hno.out x y z h2 h3 (by omega))⟩, below_up Hb1.out Hb.out⟩
end Go.Proofs.Ytnhhohhhpaejmaa
