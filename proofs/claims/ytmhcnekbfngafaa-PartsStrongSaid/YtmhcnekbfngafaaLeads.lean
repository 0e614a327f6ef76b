/- arborref.Leads: from which node ways of arcs lead to which. -/
import Derived.Test.YtmhcnekbfngafaaGridOf
import Derived.Test.YtmhcnekbfngafaaHasGrid
import Derived.Test.YtmhcnekbfngafaaPA
import Derived.StillTailTactics
namespace Go.Proofs.Ytmhcnekbfngafaa
open Go Go.RowKit

/-- The table stands, and what was there before. -/
structure LdS (w wr : World) (b o N : Nat) (R : Nat → Nat) (G : Nat → Nat → Bool) : Prop where
  hb : Below w.heap.size w wr
  grid : Grid wr w.heap.size b o N R G
theorem LdS.below {w wr w' : World} {b o N : Nat} {R : Nat → Nat} {G : Nat → Nat → Bool} (h : LdS w wr b o N R G) (hb : Below wr.heap.size wr w') : LdS w w' b o N R G :=
  ⟨h.hb.trans (hb.mono h.hb.size), h.grid.below hb⟩
theorem LdS.set {w wr : World} {b o N : Nat} {R : Nat → Nat} {G : Nat → Nat → Bool} (h : LdS w wr b o N R G) {x : Nat} (hx : x < N) (y : Nat) (c : Bool) :
    LdS w (wr.setCell ⟨R x, y, none⟩ (.bool c)) b o N R (fun i j => if i = x ∧ j = y then c else G i j) :=
  ⟨h.hb.setCell (h.grid.new x hx) _, h.grid.set hx y c⟩
theorem LdS.congr {w wr : World} {b o N : Nat} {R : Nat → Nat} {G G' : Nat → Nat → Bool} (h : LdS w wr b o N R G) (e : ∀ i j, i < N → j < N → G i j = G' i j) : LdS w wr b o N R G' :=
  ⟨h.hb, h.grid.congr e⟩
def arcB (l : List (Int × Int)) (i j : Nat) : Bool := decide (((i : Int), (j : Int)) ∈ l)
theorem arcB_succ {l : List (Int × Int)} {k X Y : Nat} (hk : k < l.length) (he : l.getD k (0, 0) = ((X : Int), (Y : Int))) (i j : Nat) :
    (if i = X ∧ j = Y then true else arcB (l.take k) i j) = arcB (l.take (k + 1)) i j := by
  unfold arcB
  rw [take_snoc hk he]
  by_cases h : i = X ∧ j = Y
  · obtain ⟨rfl, rfl⟩ := h
    simp
  · rw [if_neg h]
    simp only [List.mem_append, List.mem_singleton, Prod.mk.injEq]
    have : ¬ ((i : Int) = X ∧ (j : Int) = Y) := by omega
    simp [this]

/-- An operation whose guard says no. -/
theorem wpStill_skip {P : Program} {ops : Array Oper} {w : World} {Q : Act → Prop} {a : Act} {o : Oper} {rest : List Oper} (hw : Region.wanted o (yielded ops a.tmps) = false) (h : wpStill P ops w Q rest (a.put o.dst undef)) : wpStill P ops w Q (o :: rest) a := by
  unfold wpStill
  rw [if_neg (by rw [hw]; exact Bool.false_ne_true)]
  exact h
/-- A table of all ways comes back. -/
def LeadsPost (l : List (Int × Int)) (N : Nat) (w : World) (e : Ending) (w' : World) : Prop :=
  ∃ v G, e = .returned v ∧ HasGrid w' v N G ∧ (∀ a, a < N → ∀ b, b < N → (G a b = true ↔ WayA l (a : Int) (b : Int))) ∧ Below w.heap.size w w'

set_option maxHeartbeats 1600000 in
set_option maxRecDepth 100000 in
theorem leads_any (l : List (Int × Int)) (N : Nat) (s : Value) (w : World) (h : IsEdges w s l) (hN : N ≤ 100) (hok : ∀ j, j < l.length → EndsOk (N : Int) (l.getD j (0, 0))) :
    Calls Try.prog 45 #[.int .i64 (N : Int), s] w (LeadsPost l N w) := by
  obtain ⟨ad, cap, bb, oo, rfl, hcap, hmax, hadr, -, hcell⟩ := h
  have Hcell := Lib.hid hcell; have Hadr := Lib.hid hadr; have Hok := Lib.hid hok
  clear hcell hadr hok
  go_enter Try.func45, Try.ntmps45
  go_wp2_with fail
  refine (gridOf_any [] N _ _ (IsEdges.nil _) hN (fun j hj => absurd hj (Nat.not_lt_zero _))).mono ?_
  rintro e w1 ⟨v, rfl, ⟨a, c, b, o, R, rfl, hc, ha, hg⟩, hb1⟩
  have H1 := Lib.hid (LdS.mk (b := b) (o := o) hb1 (hg.congr (G' := arcB (l.take 0)) fun i j _ _ => by unfold arcB adj hasE; simp))
  have Ha := Lib.hid ha
  clear hg hb1 ha
  go_wp2
  go_loopg [6] l.length (fun g s6 wr => ∃ q : Nat, q ≤ l.length ∧ g = l.length - q ∧ s6 = .int .i64 (q : Int) ∧ LdS w wr b o N R (arcB (l.take q)))
  case atStart => exact ⟨0, Nat.zero_le _, rfl, rfl, H1.out⟩
  case round =>
    obtain ⟨q, hq, rfl, rfl, hm⟩ := hrel
    have Hm := Lib.hid hm
    by_cases hlt : q < l.length
    · obtain rfl := Hadr.out (by omega)
      obtain ⟨x, y, He, cx, cy⟩ := edges_at Hcell.out hm.hb hlt
      have hk1 := Hok.out q hlt
      rw [He.out] at hk1
      obtain ⟨x0, y0, x1, y1⟩ := hk1
      simp only at x0 y0 x1 y1
      obtain ⟨X, rfl⟩ := Int.eq_ofNat_of_zero_le x0
      obtain ⟨Y, rfl⟩ := Int.eq_ofNat_of_zero_le y0
      have hX : X < N := by omega
      have hY : Y < N := by omega
      obtain rfl := (Ha.out (by omega)).1
      have hx := hm.grid.head X hX
      have t1 := hm.grid.cell hX hY
      have f1 := (hm.grid.row X hX).frozen Y
      have m1 := (hm.grid.row X hX).lt
      clear hm x0 y0 x1 y1
      go_wp2_with fail
      refine region_tail 14 (by kernel_rfl) (by kernel_rfl) ?_
      have cx' : wr.drew.cell? _ = _ := cx
      have cy' : wr.drew.cell? _ = _ := cy
      have hx' : wr.drew.cell? _ = _ := hx
      have t1' : wr.drew.cell? _ = _ := t1
      have G5 := Lib.hid ((Hm.out.below (Below.refl _ _).drew).set hX Y true)
      clear cx cy hx t1
      generalize hw5 : wr.drew = w5 at *
      have f1' : w5.frozen? ⟨R X, Y, none⟩ = false := by rw [← hw5]; exact f1
      have m1' : R X < w5.heap.size := by rw [← hw5]; exact m1
      clear f1 m1
      simp only [List.take_succ_cons, List.take_zero, List.drop_succ_cons, List.drop_zero]
      repeat still_step
      refine wpStill_nil ?_
      go_wp2
      go_roundg (l.length - (q + 1))
      case measure => go_light; omega
      case rel => exact ⟨q + 1, by omega, rfl, by go_num, G5.out.congr fun i j _ _ => arcB_succ hlt He.out i j⟩
    · obtain rfl : q = l.length := by omega
      have H2 := Lib.hid (hm.congr (G' := fun i j => decide (i = j ∧ i < 0) || arcB l i j) fun i j _ _ => by rw [List.take_length]; simp)
      clear hm Hm
      go_wp2
      go_loopg [7] N (fun g s7 wr => ∃ q : Nat, q ≤ N ∧ g = N - q ∧ s7 = .int .i64 (q : Int) ∧ LdS w wr b o N R (fun i j => decide (i = j ∧ i < q) || arcB l i j))
      case atStart => exact ⟨0, Nat.zero_le _, rfl, rfl, H2.out⟩
      case round =>
        obtain ⟨q, hq, rfl, rfl, hm⟩ := hrel
        have Hm := Lib.hid hm
        by_cases hlt : q < N
        · obtain rfl := (Ha.out (by omega)).1
          have hx := hm.grid.head q hlt
          have f1 := (hm.grid.row q hlt).frozen q
          have m1 := (hm.grid.row q hlt).lt
          have t1 := hm.grid.cell hlt hlt
          have G5 := Lib.hid (hm.set hlt q true)
          clear hm
          go_wp2
          go_roundg (N - (q + 1))
          case measure => go_light; omega
          case rel => exact ⟨q + 1, by omega, rfl, by go_num, G5.out.congr fun i j _ _ => by
            by_cases e : i = q ∧ j = q
            · rw [if_pos e, decide_eq_true (by omega)]; rfl
            · rw [if_neg e]
              have : (i = j ∧ i < q + 1) ↔ (i = j ∧ i < q) := by omega
              simp only [this]⟩
        · obtain rfl : q = N := by omega
          have H3 := Lib.hid (show ∃ G, LdS w wr b o q R G ∧ LInv l q 0 0 0 G from ⟨_, hm, LInv.start fun i hi j hj => by
            unfold arcB
            simp only [Bool.or_eq_true, decide_eq_true_eq]
            constructor
            · rintro (h | h)
              · exact Or.inl h.1
              · exact Or.inr h
            · rintro (h | h)
              · exact Or.inl ⟨h, hi⟩
              · exact Or.inr h⟩)
          clear hm Hm
          go_wp2
          go_loopg [8, 9, 10] q (fun g s8 s9 s10 wr => ∃ k : Nat, k ≤ q ∧ g = q - k ∧ s8 = .int .i64 (k : Int) ∧ ∃ G, LdS w wr b o q R G ∧ LInv l q k 0 0 G)
          case atStart => exact ⟨0, Nat.zero_le _, rfl, rfl, H3.out⟩
          case round =>
            obtain ⟨k, hk, rfl, rfl, H4⟩ := hrel
            have H4 := Lib.hid H4
            by_cases hkq : k < q
            · go_wp2
              go_loopg [9, 10] q (fun g s9 s10 wr => ∃ i : Nat, i ≤ q ∧ g = q - i ∧ s9 = .int .i64 (i : Int) ∧ ∃ G, LdS w wr b o q R G ∧ LInv l q k i 0 G)
              case atStart => exact ⟨0, Nat.zero_le _, rfl, rfl, H4.out⟩
              case round =>
                obtain ⟨i, hi, rfl, rfl, H5⟩ := hrel
                have H5 := Lib.hid H5
                by_cases hiq : i < q
                · go_wp2
                  go_loopg [10] q (fun g s10 wr => ∃ j : Nat, j ≤ q ∧ g = q - j ∧ s10 = .int .i64 (j : Int) ∧ ∃ G, LdS w wr b o q R G ∧ LInv l q k i j G)
                  case atStart => exact ⟨0, Nat.zero_le _, rfl, rfl, H5.out⟩
                  case round =>
                    obtain ⟨j, hj, rfl, rfl, G, hG, hI⟩ := hrel
                    have HG := Lib.hid hG; have HI := Lib.hid hI
                    clear hI
                    by_cases hjq : j < q
                    · obtain rfl := (Ha.out (by omega)).1
                      have hx := hG.grid.head i hiq
                      have hy := hG.grid.head k hkq
                      have t1 := hG.grid.cell hiq hjq
                      have t2 := hG.grid.cell hiq hkq
                      have t3 := hG.grid.cell hkq hjq
                      have f1 := (hG.grid.row i hiq).frozen j
                      have m1 := (hG.grid.row i hiq).lt
                      have Hn := Lib.hid (HI.out.step hkq hiq hjq)
                      have HG5 := Lib.hid ((hG.below (Below.refl _ _).drew).set hiq j (G i j || (G i k && G k j)))
                      clear hG
                      generalize G i j = g1 at *
                      generalize G i k = g2 at *
                      generalize G k j = g3 at *
                      go_wp2_with fail
                      refine region_tail 31 (by kernel_rfl) (by kernel_rfl) ?_
                      have hx' : wr.drew.cell? _ = _ := hx
                      have hy' : wr.drew.cell? _ = _ := hy
                      have t1' : wr.drew.cell? _ = _ := t1
                      have t2' : wr.drew.cell? _ = _ := t2
                      have t3' : wr.drew.cell? _ = _ := t3
                      clear hx hy t1 t2 t3
                      generalize hw5 : wr.drew = w5 at *
                      have f1' : w5.frozen? ⟨R i, j, none⟩ = false := by rw [← hw5]; exact f1
                      have m1' : R i < w5.heap.size := by rw [← hw5]; exact m1
                      clear f1 m1
                      simp only [List.take_succ_cons, List.take_zero, List.drop_succ_cons, List.drop_zero]
                      cases g1 with
                      | true =>
                        clear t2' t3'
                        iterate 13 still_step
                        iterate 16 (with_reducible refine wpStill_skip ?hw ?_; (case hw => kernel_rfl))
                        go_simp
                        repeat (with_reducible refine wpStill_step (fun K hK => ?_); go_simp; with_reducible refine hK _ ?_; clear hK K)
                        refine wpStill_nil ?_
                        go_wp2
                        go_roundg (q - (j + 1))
                        case measure => go_light; omega
                        case rel => exact ⟨j + 1, by omega, rfl, by go_num, _, HG5.out, Hn.out⟩
                      | false =>
                        cases g2 with
                        | false =>
                          clear t3'
                          iterate 21 still_step
                          iterate 7 (with_reducible refine wpStill_skip ?hw ?_; (case hw => kernel_rfl))
                          go_simp
                          repeat (with_reducible refine wpStill_step (fun K hK => ?_); go_simp; with_reducible refine hK _ ?_; clear hK K)
                          refine wpStill_nil ?_
                          go_wp2
                          go_roundg (q - (j + 1))
                          case measure => go_light; omega
                          case rel => exact ⟨j + 1, by omega, rfl, by go_num, _, HG5.out, Hn.out⟩
                        | true =>
                          repeat still_step
                          refine wpStill_nil ?_
                          go_wp2
                          go_roundg (q - (j + 1))
                          case measure => go_light; omega
                          case rel => exact ⟨j + 1, by omega, rfl, by go_num, _, HG5.out, Hn.out⟩
                    · obtain rfl : j = q := by omega
                      clear hG
                      go_wp2
                      go_roundg (j - (i + 1))
                      case measure => go_light; omega
                      case rel => exact ⟨i + 1, by omega, rfl, by go_num, G, HG.out, HI.out.row⟩
                · obtain rfl : i = q := by omega
                  go_wp2
                  go_roundg (i - (k + 1))
                  case measure => go_light; omega
                  case rel => exact ⟨k + 1, by omega, rfl, by go_num, by
                    obtain ⟨G, h1, h2⟩ := H5.out
                    exact ⟨G, h1, h2.round⟩⟩
            · obtain rfl : k = q := by omega
              go_wp2
              go_ret
              obtain ⟨G, h1, h2⟩ := H4.out
              exact ⟨_, G, rfl, ⟨w.heap.size, _, _, b, o, R, rfl, hc, Ha.out, h1.grid⟩, fun i hi j hj => h2.done (fun e he => by
                obtain ⟨j, hj, rfl⟩ := List.getElem_of_mem he
                have := Hok.out j hj
                rw [show l.getD j (0, 0) = l[j] by simp [List.getD, hj]] at this
                exact ⟨this.1, this.2.2.1, this.2.1, this.2.2.2⟩) hi hj, h1.hb⟩

end Go.Proofs.Ytmhcnekbfngafaa
