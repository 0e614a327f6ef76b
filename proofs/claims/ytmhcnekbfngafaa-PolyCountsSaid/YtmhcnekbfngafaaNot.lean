/- arborref.Not: the table of what is not near. -/
import Derived.Test.YtmhcnekbfngafaaHasGrid
import Derived.Test.YtmhcnekbfngafaaGridOf
namespace Go.Proofs.Ytmhcnekbfngafaa
open Go.RowKit

/-- k rows are made, and appended. -/
structure NMade (w wr : World) (N k : Nat) (v : Value) (R : Nat → Nat) (Q : Nat → Nat → Bool) : Prop where
  hb : Below w.heap.size w wr
  own : wr.ownsRow w.heap.size 60 1 v k ((List.range k).map fun i => .slice (some ⟨R i, 0, none⟩) N N)
  row : ∀ i, i < k → wr.rowIs (R i) 4 N (rb (Q i))
  new : ∀ i, i < k → w.heap.size ≤ R i
  inj : ∀ i j, i < k → j < k → R i = R j → i = j
theorem NMade.start (w : World) (N : Nat) (Q : Nat → Nat → Bool) : NMade w w N 0 (.slice none 0 0) (fun _ => 0) Q :=
  ⟨Below.refl _ _, World.ownsRow_nil _ _ _ _, fun i hi => absurd hi (Nat.not_lt_zero _), fun i hi => absurd hi (Nat.not_lt_zero _), fun i _ hi => absurd hi (Nat.not_lt_zero _)⟩
theorem NMade.below {w wr w' : World} {N k : Nat} {v : Value} {R : Nat → Nat} {Q : Nat → Nat → Bool} (h : NMade w wr N k v R Q) (hb : Below wr.heap.size wr w') : NMade w w' N k v R Q :=
  ⟨h.hb.trans (hb.mono h.hb.size), ownsRow_below h.own hb (Nat.le_refl _), fun i hi => (h.row i hi).of_block (hb.block _ (h.row i hi).lt), h.new, h.inj⟩
theorem NMade.off {w wr : World} {v : Value} {N k : Nat} {R : Nat → Nat} {Q : Nat → Nat → Bool} (h : NMade w wr N k v R Q) {g : Nat} (hg : v.ownBlock = some g) {i : Nat} (hi : i < k) : R i ≠ g := by
  obtain ⟨c, fz, hc⟩ := ownsRow_type h.own g hg
  obtain ⟨c', hc', _⟩ := h.row i hi
  intro e
  rw [e, hc] at hc'
  simp only [Option.some.injEq, Obj.cells.injEq] at hc'
  exact absurd hc'.2.1 (by decide)
theorem NMade.step {w wr w2 : World} {v v2 : Value} {N k : Nat} {R : Nat → Nat} {Q : Nat → Nat → Bool} {o : Obj} (h : NMade w wr N k v R Q)
    (h2 : w2.ownsRow w.heap.size 60 1 v2 (k + 1) ((List.range k).map (fun i => Value.slice (some ⟨R i, 0, none⟩) N N) ++ [.slice (some ⟨wr.heap.size, 0, none⟩) N N]))
    (hg : ((wr.alloc (.cells (madeCells #[.bool false] N) 4)).alloc o).grownBy w2 v.ownBlock) :
    NMade w w2 N (k + 1) v2 (fun i => if i = k then wr.heap.size else R i) (fun i => if i = k then fun _ => false else Q i) := by
  have hb1 := below2 wr (.cells (madeCells #[.bool false] N) 4) o
  have hlo : ∀ g, v.ownBlock = some g → w.heap.size ≤ g ∧ g < wr.heap.size := fun g e => h.own.lt g e
  have hr := World.rowIs_made wr (.bool false) N 4
  have hr2 := hr.of_block ((below1 (wr.alloc (.cells (madeCells #[.bool false] N) 4)) o).block _ hr.lt)
  have hsz := h.hb.size
  have blk : ∀ q, q < wr.heap.size → v.ownBlock ≠ some q → w2.heap[q]? = wr.heap[q]? := fun q hq hne => by
    rw [hg.block q (by rw [World.size_alloc, World.size_alloc]; omega) (Ne.symm hne), hb1.block q hq]
  refine ⟨?_, ?_, fun i hi => ?_, fun i hi => ?_, fun i j hi hj e => ?_⟩
  · exact (h.hb.trans (hb1.mono hsz)).grown hg (by rw [World.size_alloc, World.size_alloc]; omega) (fun g e => by have := (hlo g e).1; omega)
  · rw [List.range_succ, List.map_append]
    have e : (List.range k).map (fun i => Value.slice (some ⟨if i = k then wr.heap.size else R i, 0, none⟩) N N) = (List.range k).map (fun i => Value.slice (some ⟨R i, 0, none⟩) N N) := by
      apply List.map_congr_left
      intro i hi
      have := List.mem_range.1 hi
      rw [if_neg (by omega)]
    rw [e]
    simpa using h2
  · by_cases e : i = k
    · subst e
      rw [if_pos rfl, if_pos rfl]
      refine (hr2.of_block (hg.block _ (by rw [World.size_alloc, World.size_alloc]; omega) (fun e => ?_))).congr fun _ _ => rfl
      have := (hlo _ e.symm).2; omega
    · rw [if_neg e, if_neg e]
      have hi' : i < k := by omega
      exact (h.row i hi').of_block (blk _ (h.row i hi').lt (fun e => h.off e hi' rfl))
  · by_cases e : i = k
    · rw [if_pos e]; omega
    · rw [if_neg e]; exact h.new i (by omega)
  · by_cases e1 : i = k <;> by_cases e2 : j = k
    · omega
    · rw [if_pos e1, if_neg e2] at e; have := (h.row j (by omega)).lt; omega
    · rw [if_neg e1, if_pos e2] at e; have := (h.row i (by omega)).lt; omega
    · rw [if_neg e1, if_neg e2] at e; exact h.inj i j (by omega) (by omega) e
theorem NMade.set {w wr : World} {v : Value} {N k : Nat} {R : Nat → Nat} {Q : Nat → Nat → Bool} (h : NMade w wr N k v R Q) {x : Nat} (hx : x < k) (y : Nat) (c : Bool) :
    NMade w (wr.setCell ⟨R x, y, none⟩ (.bool c)) N k v R (fun i j => if i = x ∧ j = y then c else Q i j) := by
  refine ⟨h.hb.setCell (h.new x hx) _, h.own.kept (grown_set wr (R x) y _) ?_, fun i hi => ?_, h.new, h.inj⟩
  · cases hv : v.ownBlock with
    | none => exact Or.inl rfl
    | some g => exact Or.inr (fun e => h.off hv hx (by cases e; rfl))
  · by_cases e : i = x
    · subst e
      exact row_rb (row_set_rb (h.row i hi) y c) fun k _ => by by_cases e : k = y <;> simp [e]
    · have := (h.row i hi).setOther (a := ⟨R x, y, none⟩) (show R i ≠ R x from fun h2 => e (h.inj _ _ hi hx h2)) (.bool c)
      exact row_rb this fun k _ => by simp [e]
theorem NMade.head {w wr : World} {v : Value} {N k : Nat} {R : Nat → Nat} {Q : Nat → Nat → Bool} (h : NMade w wr N k v R Q) {i : Nat} (hi : i < k) : ∃ b c, v = .slice (some ⟨b, 0, none⟩) k c ∧ k ≤ c ∧ wr.cell? ⟨b, i, none⟩ = some (.slice (some ⟨R i, 0, none⟩) N N) := by
  obtain ⟨a, c, rfl⟩ := ownsRow_form h.own
  obtain ⟨h1, h2, h3, b, h4, h5⟩ := ownsRow_cap h.own
  obtain rfl := (h4 (by omega)).1
  exact ⟨b, c, rfl, h1, h5 i _ (by simp [hi])⟩
theorem NMade.congr {w wr : World} {v : Value} {N k : Nat} {R : Nat → Nat} {Q Q' : Nat → Nat → Bool} (h : NMade w wr N k v R Q) (e : ∀ i j, i < k → j < N → Q i j = Q' i j) : NMade w wr N k v R Q' :=
  ⟨h.hb, h.own, fun i hi => row_rb (h.row i hi) fun j hj => e i j hi hj, h.new, h.inj⟩
theorem NMade.grid {w wr : World} {v : Value} {N : Nat} {R : Nat → Nat} {Q : Nat → Nat → Bool} (h : NMade w wr N N v R Q) : IsGrid wr w.heap.size v N Q := by
  obtain ⟨a, c, rfl⟩ := ownsRow_form h.own
  obtain ⟨h1, h2, h3, b, h4, h5⟩ := ownsRow_cap h.own
  refine ⟨a, c, b, 0, R, rfl, h1, fun hp => ⟨(h4 hp).1, (h4 hp).2⟩, h.new, h.inj, fun i hi => ?_, h.row, fun i hi => ?_⟩
  · rw [Nat.zero_add]; exact h5 i _ (by simp [hi])
  · exact h.off (by rw [(h4 (by omega)).1]; rfl) hi

/-- What is not near. -/
def notP (G : Nat → Nat → Bool) (i j : Nat) : Bool := decide (i ≠ j) && !G i j

set_option maxHeartbeats 3200000 in
set_option maxRecDepth 100000 in
theorem not_any (N : Nat) (G : Nat → Nat → Bool) (s : Value) (w : World) (hN : N ≤ 100) (hg : HasGrid w s N G) :
    Calls Try.prog 74 #[s] w (GridPost N (notP G) w) := by
  have Hg := Lib.hid hg
  obtain ⟨B, ga, gc, gb, go, R0, rfl, -⟩ := hg
  have hmk2 := run_make_row' (P := Try.prog) 60 4 (.bool false) 1 Try.underlying60 info4 rfl .i64 .i64 N (by omega) (by omega)
  go_enter Try.func74, Try.ntmps74
  go_wp2
  go_loopg [3, 4] N (fun g s3 s4 wr => ∃ (k : Nat) (R : Nat → Nat), k ≤ N ∧ g = N - k ∧ s4 = .int .i64 k ∧ NMade w wr N k s3 R (notP G))
  case atStart => exact ⟨0, _, Nat.zero_le _, rfl, rfl, NMade.start w N _⟩
  case round =>
    obtain ⟨k, R, hk, rfl, rfl, hm⟩ := hrel
    have Hm := Lib.hid hm
    by_cases hlt : k < N
    · have hsz := hm.hb.size
      have hown := hm.own
      obtain ⟨va, vc, rfl⟩ := ownsRow_form hown
      have Hown := Lib.hid hown
      clear hm hown
      go_wp2_with (at_builtin; refine wpList_append_has rfl (.tmp 12) (.tmp 16) 45 rfl w.heap.size 60 (.slice none 0 0) 24 Try.underlying45 infoG rfl _ k _ rfl ((Hown.out.alloc _).alloc _) _ 1 [.slice (some ⟨wr.heap.size, 0, none⟩) N N] rfl (HasCells.at _ _ _ rfl (by simp)) (by omega) (by omega) (by simp; omega) ?_; intro a2 c2 w2 hown2 hg2; have Hn := Lib.hid (Hm.out.step hown2 hg2); clear hown2 hg2)
      clear hmk2 Hown Hm hsz
      generalize (fun i => if i = k then wr.heap.size else R i) = R2 at *
      go_loopg [5] N (fun g s5 wr => ∃ j : Nat, j ≤ N ∧ g = N - j ∧ s5 = .int .i64 j ∧ NMade w wr N (k + 1) (.slice a2 (k + 1) c2) R2 (fun i q => if i = k then decide (q < j) && notP G i q else notP G i q))
      case atStart => exact ⟨0, Nat.zero_le _, rfl, rfl, Hn.out.congr fun i q _ _ => by by_cases e : i = k <;> simp [e]⟩
      case round =>
        obtain ⟨j, hj, rfl, rfl, hm⟩ := hrel
        by_cases hlt2 : j < N
        · obtain ⟨b, o, c, r, he, c1, c2'⟩ := Hg.out.entry hlt hlt2
          simp only [Value.slice.injEq, true_and] at he
          obtain ⟨rfl, rfl⟩ := he
          have nb : R2 k ≠ b := by have h1 := World.block_lt_of_cell? _ _ c1; have h2 := hm.new k (by omega); simp only at h1; omega
          have nr : R2 k ≠ r := by have h1 := World.block_lt_of_cell? _ _ c2'; have h2 := hm.new k (by omega); simp only at h1; omega
          have c1 := below_cell hm.hb c1
          have c2' := below_cell hm.hb c2'
          obtain ⟨vb, vc, hev, hvc, hh⟩ := hm.head (show k < k + 1 by omega)
          simp only [Value.slice.injEq, true_and] at hev
          obtain ⟨rfl, rfl⟩ := hev
          have nv : R2 k ≠ vb := hm.off rfl (by omega)
          have hr := hm.row k (by omega)
          have t1 := hr.cell hlt2
          have f1 := hr.frozen j
          have l1 := hr.lt
          have hcong : ∀ (i q : Nat), (if i = k ∧ q = j then notP G k j else (if i = k then decide (q < j) && notP G i q else notP G i q)) = (if i = k then decide (q < j + 1) && notP G i q else notP G i q) := fun i q => by
            by_cases e : i = k
            · subst e
              by_cases e2 : q = j
              · subst e2; simp
              · have : (q < j + 1) ↔ (q < j) := by omega
                simp [e2, this]
            · simp [e]
          have Hcong := Lib.hid hcong
          simp only [rb] at t1
          clear hr hcong
          have Hm2 := Lib.hid (hm.below (Below.refl _ _).drew)
          clear hm
          have b1 : (k : Int) < (k : Int) + 1 := by omega
          by_cases hkj : k = j
          · obtain rfl : j = k := hkj.symm
            clear hkj
            go_wp2_with fail
            go_region
            all_goals go_wp2
            all_goals go_roundg (N - (j + 1))
            case measure => go_light; omega
            case rel => exact ⟨j + 1, by omega, rfl, by go_num, by
              have h := Hm2.out.set (show j < j + 1 by omega) j false
              refine h.congr fun i q _ _ => ?_
              rw [← Hcong.out i q, show notP G j j = false from by unfold notP; simp]⟩
          · have q1 : ((k : Int) != (j : Int)) = true := by simp; omega
            have Hkj := Lib.hid hkj
            clear hkj
            generalize hy : G k j = y at *
            have Hy := Lib.hid hy
            clear hy
            go_wp2_with fail
            go_region_held3 (fun w' => w'.cell? ⟨vb, k, none⟩ = some (.slice (some ⟨R2 k, 0, none⟩) N N) ∧ w'.cell? ⟨b, o + k, none⟩ = some (.slice (some ⟨r, 0, none⟩) N N) ∧ w'.cell? ⟨r, j, none⟩ = some (.bool y)) (go_keep) (fail)
            go_wp2
            go_roundg (N - (j + 1))
            case measure => go_light; omega
            case rel => exact ⟨j + 1, by omega, rfl, by go_num, by
              have h := Hm2.out.set (show k < k + 1 by omega) j (!y)
              refine h.congr fun i q _ _ => ?_
              rw [← Hcong.out i q, show notP G k j = !y from by unfold notP; rw [Hy.out, decide_eq_true Hkj.out, Bool.true_and]]⟩
        · obtain rfl : j = N := by omega
          have Hm2 := Lib.hid hm
          clear hm
          go_wp2
          go_roundg (j - (k + 1))
          case measure => go_light; omega
          case rel => exact ⟨k + 1, _, by omega, rfl, by go_num, Hm2.out.congr fun i q _ hq => by by_cases e : i = k <;> simp [e, hq]⟩
    · obtain rfl : k = N := by omega
      have Hm2 := Lib.hid hm
      obtain ⟨va, vc, rfl⟩ := ownsRow_form hm.own
      clear hm Hm
      go_wp2
      go_ret
      exact ⟨_, rfl, Hm2.out.grid, Hm2.out.hb⟩

end Go.Proofs.Ytmhcnekbfngafaa
