/- parts.ring: the ring that is closed where two ways up meet. -/
import Derived.Test.YtnhhohhhpaejmaaDoorRUpW
import Derived.Test.YtnhhohhhpaejmaaDoorPF
import Derived.Test.YtnhhohhhpaejmaaDoorGOwn
import Derived.Test.YtnhhohhhpaejmaaDoorShelf
import Derived.BigQuiet
namespace Go.Proofs.YtnhhohhhpaejmaaDoor
open Go.RowKit Go.Maps Go.Lib

theorem grown_setCells (b : Nat) : ∀ (vs : List Value) (o : Nat) (w : World), w.grownBy (w.setCells b o vs) (some b)
  | [], _, _ => World.grownBy.refl _ _
  | v :: r, o, w => by rw [World.setCells]; exact (grown_set w b o v).trans (grown_setCells b r (o + 1) _)
theorem ownsRow_take1 {w : World} {base g cap n k : Nat} {e : TypeId} {xs : List Value} (h : w.ownsRow base e 1 (.slice (some ⟨g, 0, none⟩) n cap) n xs) (hk : k ≤ n) : w.ownsRow base e 1 (.slice (some ⟨g, 0, none⟩) k cap) k (xs.take k) := by
  obtain ⟨h1, h2⟩ := h
  rcases h2 with ⟨h0, _⟩ | ⟨g', cap', cur, hv, hg, hh, hn, hcap, hsz, htake⟩
  · cases h0
  · cases hv
    refine ⟨by rw [List.length_take]; omega, .inr ⟨g, cap, cur, rfl, hg, hh, by omega, hcap, hsz, ?_⟩⟩
    rw [← htake, List.take_take, Nat.mul_one, Nat.mul_one, Nat.min_eq_left hk]
/-- Where two ways up meet. -/
structure MeetAt (P : Nat → Nat) (x y nx ny p q : Nat) : Prop where
  hp : p ≤ nx
  hq : q ≤ ny
  lev : nx + q = ny + p
  at' : anc P x p = anc P y q
  ends : p = 0 ∨ q = 0 ∨ anc P x (p - 1) ≠ anc P y (q - 1)
/-- The ring that they close. -/
def ringL (P : Nat → Nat) (x y p q : Nat) : List Nat := way P x (p + 1) ++ (way P y q).reverse
theorem way_take (P : Nat → Nat) (x : Nat) {n k : Nat} (h : k ≤ n) : (way P x n).take k = way P x k := by
  unfold way; rw [← List.map_take, List.take_range, Nat.min_eq_left h]
theorem way_rev (P : Nat → Nat) (y q : Nat) : (way P y (q + 1)).reverse = anc P y q :: (way P y q).reverse := by rw [way_succ, List.reverse_append]; rfl

theorem own_lower {w : World} {base b' : Nat} {e : TypeId} {size : Nat} {v : Value} {n : Nat} {xs : List Value} (h : w.ownsRow base e size v n xs) (hb : b' ≤ base) : w.ownsRow b' e size v n xs := by
  obtain ⟨h1, h2⟩ := h
  refine ⟨h1, ?_⟩
  rcases h2 with h2 | ⟨g, cap, cur, hv, hg, h3⟩
  · exact .inl h2
  · exact .inr ⟨g, cap, cur, hv, Nat.le_trans hb hg, h3⟩
/-- A row turned about in place. -/
theorem rev_world {wz w5 : World} {gB Q y k : Nat} {P : Nat → Nat} (hc : ∀ j, j < Q + 1 → wz.cell? ⟨gB, j, none⟩ = some (.int .i64 ((anc P y j : Nat) : Int)))
    (h : w5 = (wz.drewN k).setCells gB 0 (((ints (way P y (Q + 1))).take (Q + 1)).reverse.map (Value.int .i64))) :
    wz.grownBy w5 (some gB) ∧ ∀ j, j < Q + 1 → w5.cell? ⟨gB, j, none⟩ = (nvals (way P y (Q + 1)).reverse)[j]? := by
  have hV : ((ints (way P y (Q + 1))).take (Q + 1)).reverse.map (Value.int .i64) = nvals (way P y (Q + 1)).reverse := by
    rw [List.take_of_length_le (by rw [ints_length, way_len]; exact Nat.le_refl _)]; simp [nvals, ints, List.map_reverse]
  rw [hV] at h
  subst h
  have hl : (nvals (way P y (Q + 1)).reverse).length = Q + 1 := by simp [nvals, ints, way_len]
  refine ⟨((grown_of_below (Below.drewN' (Below.refl wz.heap.size wz) k)).but _).trans (grown_setCells gB _ 0 _), fun j hj => ?_⟩
  have h1 := World.cell?_setCells_in gB (nvals (way P y (Q + 1)).reverse) 0 (wz.drewN k) (fun i hi => by
    rw [Nat.zero_add]
    have h2 : (wz.drewN k).cell? ⟨gB, i, none⟩ = _ := hc i (by omega)
    rw [h2]; rfl) j (by omega)
  rw [Nat.zero_add] at h1
  rw [h1, List.getElem?_eq_getElem (by omega)]
/-- All but its first. -/
theorem rev_has {w5 : World} {gB cB Q y : Nat} {P : Nat → Nat} (hQ : Q + 1 ≤ cB) (h : ∀ j, j < Q + 1 → w5.cell? ⟨gB, j, none⟩ = (nvals (way P y (Q + 1)).reverse)[j]?) :
    HasCells w5 (.slice (cutAt gB 0 (cB - 1)) Q (cB - 1)) Q (nvals (way P y Q).reverse) := by
  have hl : (nvals (way P y Q).reverse).length = Q := by simp [nvals, ints, way_len]
  refine ⟨_, _, rfl, hl, fun e => ?_, fun ad had j u hu => ?_, ints_oneCell _ _⟩
  · unfold cutAt at e
    split at e <;> cases e
  · have hj : j < Q := by have := (List.getElem?_eq_some_iff.1 hu).1; omega
    unfold cutAt at had
    rw [if_neg (by omega)] at had
    obtain rfl := Option.some.inj had
    have h1 := h (1 + j) (by omega)
    rw [way_rev] at h1
    have h2 : (nvals (anc P y Q :: (way P y Q).reverse))[1 + j]? = (nvals (way P y Q).reverse)[j]? := by
      rw [Nat.add_comm 1 j]; simp [nvals, ints]
    rw [h2, hu] at h1
    rw [Addr.add_lit]; exact h1

set_option maxHeartbeats 6400000 in
set_option maxRecDepth 100000 in
theorem pring_any {N : Nat} {F : Nat → Int} {P : Nat → Nat} {x y nx ny bF : Nat} (w : World) (hnx : nx < 1000) (hny : ny < 1000) (hN : N ≤ 100) (hrow : w.rowIs bF 3 N (ri F)) (hx : UpOk N F P x nx) (hy : UpOk N F P y ny) (hm : anc P x nx = anc P y ny) :
    Calls Tryd.prog 45 #[.slice (some ⟨bF, 0, none⟩) N N, .int .i64 (x : Int), .int .i64 (y : Int)] w fun e w' =>
      ∃ v p q, e = .returned v ∧ MeetAt P x y nx ny p q ∧ w'.ownsRow w.heap.size 3 1 v (p + 1 + q) (nvals (ringL P x y p q)) ∧ Below w.heap.size w w' := by
  have Hx := Lib.hid hx; have Hy := Lib.hid hy; have Hm := Lib.hid hm; have Hrow := Lib.hid hrow
  have hc1 : (w.alloc (.cells #[.slice (some ⟨bF, 0, none⟩) N N] 29)).cell? ⟨w.heap.size, 0, none⟩ = some (.slice (some ⟨bF, 0, none⟩) N N) := by rw [World.cell?_alloc_at _ _ _ _ rfl]; rfl
  have hb1 := below1 w (.cells #[.slice (some ⟨bF, 0, none⟩) N N] 29)
  have hz1 : (w.alloc (.cells #[.slice (some ⟨bF, 0, none⟩) N N] 29)).heap.size = w.heap.size + 1 := World.size_alloc _ _
  have Hr1 := Lib.hid (hrow.of_block (hb1.block bF hrow.lt))
  have Hc1 := Lib.hid hc1; have Hb1 := Lib.hid hb1
  clear hx hy hm hrow hc1 hb1
  go_enter Tryd.func45, Tryd.ntmps45
  go_upto_region 2 with fail
  generalize w.alloc (.cells #[.slice (some ⟨bF, 0, none⟩) N N] 29) = w1 at *
  go_wp2_with (go_at_call 55; first
    | (have _h2 := Ho2; refine (rup_any _ hny hN Hc2.out Hr2.out Hy.out).mono ?_; rintro e w3 ⟨v3, rfl, ho3, hb3⟩; have Ho3 := Lib.hid ho3; have Hb3 := Lib.hid hb3; have hz3 := hb3.size; clear ho3 hb3)
    | (refine (rup_any w1 hnx hN Hc1.out Hr1.out Hx.out).mono ?_; rintro e w2 ⟨v2, rfl, ho2, hb2⟩; have Ho2 := Lib.hid ho2; have Hb2 := Lib.hid hb2; have hz2 := hb2.size; have Hc2 := Lib.hid (below_cell hb2 Hc1.out); have Hr2 := Lib.hid (Hr1.out.of_block (hb2.block bF Hr1.out.lt)); clear ho2 hb2))
  obtain ⟨gA, cA, rfl, hcA⟩ : ∃ gA cA, v2 = .slice (some ⟨gA, 0, none⟩) (nx + 1) cA ∧ nx + 1 ≤ cA := by
    rcases Ho2.out.2 with ⟨-, h0⟩ | ⟨g, cap, cur, e, -, -, h1, -⟩
    · omega
    · exact ⟨g, cap, e, h1⟩
  obtain ⟨gB, cB, rfl, hcB⟩ : ∃ gB cB, v3 = .slice (some ⟨gB, 0, none⟩) (ny + 1) cB ∧ ny + 1 ≤ cB := by
    rcases Ho3.out.2 with ⟨-, h0⟩ | ⟨g, cap, cur, e, -, -, h1, -⟩
    · omega
    · exact ⟨g, cap, e, h1⟩
  have hgA := Ho2.out.lt gA rfl
  have hgB := Ho3.out.lt gB rfl
  have Ho23 := Lib.hid (Ho2.out.kept (grown_of_below Hb3.out) (Or.inr (by simp [Value.ownBlock])))
  have HB3 := Lib.hid ((Hb1.out.trans (Hb2.out.mono (by omega))).trans (Hb3.out.mono (by omega)))
  have HcA := Lib.hid (show ∀ j, j ≤ nx → w3.cell? ⟨gA, j, none⟩ = some (.int .i64 ((anc P x j : Nat) : Int)) from fun j hj => by
    have h1 := nvals_at (a := way P x (nx + 1)) (i := j) (by rw [way_len]; omega)
    rw [way_at (by omega)] at h1
    have h2 := Ho23.out.cells (g := gA) rfl _ _ h1
    rwa [Addr.add_lit, Nat.zero_add] at h2)
  have HcB := Lib.hid (show ∀ j, j ≤ ny → w3.cell? ⟨gB, j, none⟩ = some (.int .i64 ((anc P y j : Nat) : Int)) from fun j hj => by
    have h1 := nvals_at (a := way P y (ny + 1)) (i := j) (by rw [way_len]; omega)
    rw [way_at (by omega)] at h1
    have h2 := Ho3.out.cells (g := gB) rfl _ _ h1
    rwa [Addr.add_lit, Nat.zero_add] at h2)
  have HfB := Lib.hid (show ∀ j, w3.frozen? ⟨gB, j, none⟩ = false from fun j => Ho3.out.frozenAt j)
  go_loopg [8, 9] nx (fun g s8 s9 wr => ∃ p q mm : Nat, p ≤ nx ∧ q ≤ ny ∧ nx + q = ny + p ∧ g = p ∧ s8 = .slice (some ⟨gA, 0, none⟩) (p + 1) cA ∧ s9 = .slice (some ⟨gB, 0, none⟩) (q + 1) cB ∧ wr = w3.drewN mm ∧ anc P x p = anc P y q)
  case atStart => exact ⟨nx, ny, 0, Nat.le_refl _, Nat.le_refl _, Nat.add_comm _ _, rfl, rfl, rfl, rfl, Hm.out⟩
  case round =>
    obtain ⟨p, q, mm, hp, hq, hlev, hgp, rfl, rfl, rfl, hat⟩ := hrel
    have Hat := Lib.hid hat
    clear hat
    by_cases he : 0 < p ∧ 0 < q ∧ anc P x (p - 1) = anc P y (q - 1)
    · obtain ⟨hp0, hq0, he⟩ := he
      obtain ⟨p', rfl⟩ : ∃ p', p = p' + 1 := ⟨p - 1, by omega⟩
      obtain ⟨q', rfl⟩ : ∃ q', q = q' + 1 := ⟨q - 1, by omega⟩
      simp only [Nat.add_sub_cancel] at he
      have He := Lib.hid he
      have ca := HcA.out p' (by omega)
      have cb := HcB.out q' (by omega)
      rw [← he] at cb
      generalize anc P x p' = u at ca cb
      obtain ⟨i3, hi3, -⟩ := info_parts info3
      have hs1 := run_slice_hi (P := Tryd.prog) Tryd.underlying29 hi3 (some ⟨gA, 0, none⟩) (p' + 1 + 1) cA (p' + 1) (by omega)
      have hs2 := run_slice_hi (P := Tryd.prog) Tryd.underlying29 hi3 (some ⟨gB, 0, none⟩) (q' + 1 + 1) cB (q' + 1) (by omega)
      have q1 : (1 : Int) < (p' : Int) + 1 + 1 := by omega
      have q2 : (1 : Int) < (q' : Int) + 1 + 1 := by omega
      clear he hi3
      go_wp2
      go_quiet (fail)
      go_wp2
      obtain ⟨nq1, rfl⟩ : ∃ nq1 : Nat, nq1 = nq := ⟨_, rfl⟩
      go_quiet (fail)
      go_wp2
      go_roundg p'
      case measure => go_light; omega
      case rel => exact ⟨p', q', _, by omega, by omega, by omega, rfl, rfl, rfl, by rw [World.drewN_drewN, World.drewN_drewN], He.out⟩
    · have Hend := Lib.hid (show MeetAt P x y nx ny p q from ⟨hp, hq, hlev, Hat.out, by
        by_cases e1 : p = 0
        · exact Or.inl e1
        · by_cases e2 : q = 0
          · exact Or.inr (Or.inl e2)
          · exact Or.inr (Or.inr fun e3 => he ⟨by omega, by omega, e3⟩)⟩)
      by_cases hp0 : p = 0
      · subst hp0
        clear he
        go_wp2
        go_quiet (fail)
        have HRc := Lib.hid (show ∀ j, j < (ints (way P y (q + 1))).length → (w3.drewN (mm + nq)).cell? ⟨gB, 0 + j, none⟩ = some (.int .i64 ((ints (way P y (q + 1))).getD j 0)) from fun j hj => by
          rw [ints_length, way_len] at hj
          rw [Nat.zero_add, show (ints (way P y (q + 1))).getD j 0 = ((anc P y j : Nat) : Int) from by
            have h0 := way_at (P := P) (v := y) hj
            rw [← h0]; simp [ints, List.getD, way_len, hj]]
          exact HcB.out j (by omega))
        obtain ⟨i3, hi3, -, hsz3, -⟩ := info_parts info3
        have hs1 := run_slice_one (P := Tryd.prog) Tryd.underlying29 hi3 hsz3 gB 0 (q) cB (by omega)
        clear hi3 hsz3
        go_wp2_with (first
          | (have _h := Hhas; at_builtin; refine wpList_append_has rfl (.tmp 52) (.tmp 54) 29 rfl w1.heap.size 3 (.int .i64 0) 8 Tryd.underlying29 info3 rfl (.slice (some ⟨gA, 0, none⟩) (0 + 1) cA) (0 + 1) (nvals (way P x (0 + 1))) rfl HoA.out _ (q) (nvals (way P y (q)).reverse) rfl Hhas.out (by omega) (by omega) (by omega) ?_; intro a8 c8 w8 ho8 hg8; have Ho8 := Lib.hid ho8; have HB8 := Lib.hid (HB5.out.grown hg8 (by omega) (fun g e => by have := (HoA.out.lt g e).1; omega)); clear ho8 hg8)
          | (go_at_call 56; refine (Tryd.slices_Reverse_int_cells gB 0 (q + 1) cB (ints (way P y (q + 1))) (w3.drewN (mm + nq)) (by rw [ints_length, way_len]; exact Nat.le_refl _) (by omega) HRc.out (fun j _ => HfB.out (0 + j))).mono ?_; rintro e w5 ⟨rfl, nq2, hw5⟩; obtain ⟨hg5, hc5⟩ := rev_world (wz := w3.drewN (mm + nq)) (P := P) (y := y) (Q := q) (fun j hj => HcB.out j (by omega)) hw5; have Hg5 := Lib.hid (((grown_of_below (Below.drewN' (Below.refl w3.heap.size w3) (mm + nq))).but (some gB)).trans hg5); have hz5 := hg5.size; have Hhas := Lib.hid (rev_has (cB := cB) (by omega) hc5); clear hg5 hc5 hw5; have hz5' : w3.heap.size ≤ w5.heap.size := hz5; have HoA := Lib.hid (show w5.ownsRow w1.heap.size 3 1 (.slice (some ⟨gA, 0, none⟩) (0 + 1) cA) (0 + 1) (nvals (way P x (0 + 1))) from by have h1 := ownsRow_take1 (Ho23.out.kept Hg5.out (Or.inr (by simp [Value.ownBlock]; omega))) (k := 0 + 1) (by omega); rwa [nvals_take, way_take P x (by omega)] at h1); have HB5 := Lib.hid (HB3.out.grown Hg5.out (by omega) (fun g e => by have := Option.some.inj e; omega))))
        go_ret
        exact ⟨.slice a8 (0 + 1 + q) c8, 0, q, rfl, Hend.out, by have h := own_lower (b' := w.heap.size) Ho8.out (by omega); rwa [← nvals_append] at h, HB8.out⟩
      · obtain ⟨p', rfl⟩ : ∃ p', p = p' + 1 := ⟨p - 1, by omega⟩
        have q1' : (1 : Int) < (p' : Int) + 1 + 1 := by omega
        by_cases hq0 : q = 0
        · subst hq0
          clear he
          go_wp2
          go_quiet (fail)
          have HRc := Lib.hid (show ∀ j, j < (ints (way P y (0 + 1))).length → (w3.drewN (mm + nq)).cell? ⟨gB, 0 + j, none⟩ = some (.int .i64 ((ints (way P y (0 + 1))).getD j 0)) from fun j hj => by
            rw [ints_length, way_len] at hj
            rw [Nat.zero_add, show (ints (way P y (0 + 1))).getD j 0 = ((anc P y j : Nat) : Int) from by
              have h0 := way_at (P := P) (v := y) hj
              rw [← h0]; simp [ints, List.getD, way_len, hj]]
            exact HcB.out j (by omega))
          obtain ⟨i3, hi3, -, hsz3, -⟩ := info_parts info3
          have hs1 := run_slice_one (P := Tryd.prog) Tryd.underlying29 hi3 hsz3 gB 0 (0) cB (by omega)
          clear hi3 hsz3
          go_wp2_with (first
            | (have _h := Hhas; at_builtin; refine wpList_append_has rfl (.tmp 52) (.tmp 54) 29 rfl w1.heap.size 3 (.int .i64 0) 8 Tryd.underlying29 info3 rfl (.slice (some ⟨gA, 0, none⟩) ((p' + 1) + 1) cA) ((p' + 1) + 1) (nvals (way P x ((p' + 1) + 1))) rfl HoA.out _ (0) (nvals (way P y (0)).reverse) rfl Hhas.out (by omega) (by omega) (by omega) ?_; intro a8 c8 w8 ho8 hg8; have Ho8 := Lib.hid ho8; have HB8 := Lib.hid (HB5.out.grown hg8 (by omega) (fun g e => by have := (HoA.out.lt g e).1; omega)); clear ho8 hg8)
            | (go_at_call 56; refine (Tryd.slices_Reverse_int_cells gB 0 (0 + 1) cB (ints (way P y (0 + 1))) (w3.drewN (mm + nq)) (by rw [ints_length, way_len]; exact Nat.le_refl _) (by omega) HRc.out (fun j _ => HfB.out (0 + j))).mono ?_; rintro e w5 ⟨rfl, nq2, hw5⟩; obtain ⟨hg5, hc5⟩ := rev_world (wz := w3.drewN (mm + nq)) (P := P) (y := y) (Q := 0) (fun j hj => HcB.out j (by omega)) hw5; have Hg5 := Lib.hid (((grown_of_below (Below.drewN' (Below.refl w3.heap.size w3) (mm + nq))).but (some gB)).trans hg5); have hz5 := hg5.size; have Hhas := Lib.hid (rev_has (cB := cB) (by omega) hc5); clear hg5 hc5 hw5; have hz5' : w3.heap.size ≤ w5.heap.size := hz5; have HoA := Lib.hid (show w5.ownsRow w1.heap.size 3 1 (.slice (some ⟨gA, 0, none⟩) ((p' + 1) + 1) cA) ((p' + 1) + 1) (nvals (way P x ((p' + 1) + 1))) from by have h1 := ownsRow_take1 (Ho23.out.kept Hg5.out (Or.inr (by simp [Value.ownBlock]; omega))) (k := (p' + 1) + 1) (by omega); rwa [nvals_take, way_take P x (by omega)] at h1); have HB5 := Lib.hid (HB3.out.grown Hg5.out (by omega) (fun g e => by have := Option.some.inj e; omega))))
          go_ret
          exact ⟨.slice a8 ((p' + 1) + 1 + 0) c8, (p' + 1), 0, rfl, Hend.out, by have h := own_lower (b' := w.heap.size) Ho8.out (by omega); rwa [← nvals_append] at h, HB8.out⟩
        · obtain ⟨q', rfl⟩ : ∃ q', q = q' + 1 := ⟨q - 1, by omega⟩
          have q2' : (1 : Int) < (q' : Int) + 1 + 1 := by omega
          have ca := HcA.out p' (by omega)
          have cb := HcB.out q' (by omega)
          have hne : ¬ anc P x p' = anc P y q' := fun e => he ⟨by omega, by omega, e⟩
          have qn : (((anc P x p' : Nat) : Int) == ((anc P y q' : Nat) : Int)) = false := by simp; omega
          clear he hne
          generalize anc P x p' = u at ca qn
          generalize anc P y q' = v at cb qn
          go_wp2
          go_quiet (fail)
          have HRc := Lib.hid (show ∀ j, j < (ints (way P y ((q' + 1) + 1))).length → (w3.drewN (mm + nq)).cell? ⟨gB, 0 + j, none⟩ = some (.int .i64 ((ints (way P y ((q' + 1) + 1))).getD j 0)) from fun j hj => by
            rw [ints_length, way_len] at hj
            rw [Nat.zero_add, show (ints (way P y ((q' + 1) + 1))).getD j 0 = ((anc P y j : Nat) : Int) from by
              have h0 := way_at (P := P) (v := y) hj
              rw [← h0]; simp [ints, List.getD, way_len, hj]]
            exact HcB.out j (by omega))
          obtain ⟨i3, hi3, -, hsz3, -⟩ := info_parts info3
          have hs1 := run_slice_one (P := Tryd.prog) Tryd.underlying29 hi3 hsz3 gB 0 ((q' + 1)) cB (by omega)
          clear hi3 hsz3
          go_wp2_with (first
            | (have _h := Hhas; at_builtin; refine wpList_append_has rfl (.tmp 52) (.tmp 54) 29 rfl w1.heap.size 3 (.int .i64 0) 8 Tryd.underlying29 info3 rfl (.slice (some ⟨gA, 0, none⟩) ((p' + 1) + 1) cA) ((p' + 1) + 1) (nvals (way P x ((p' + 1) + 1))) rfl HoA.out _ ((q' + 1)) (nvals (way P y ((q' + 1))).reverse) rfl Hhas.out (by omega) (by omega) (by omega) ?_; intro a8 c8 w8 ho8 hg8; have Ho8 := Lib.hid ho8; have HB8 := Lib.hid (HB5.out.grown hg8 (by omega) (fun g e => by have := (HoA.out.lt g e).1; omega)); clear ho8 hg8)
            | (go_at_call 56; refine (Tryd.slices_Reverse_int_cells gB 0 ((q' + 1) + 1) cB (ints (way P y ((q' + 1) + 1))) (w3.drewN (mm + nq)) (by rw [ints_length, way_len]; exact Nat.le_refl _) (by omega) HRc.out (fun j _ => HfB.out (0 + j))).mono ?_; rintro e w5 ⟨rfl, nq2, hw5⟩; obtain ⟨hg5, hc5⟩ := rev_world (wz := w3.drewN (mm + nq)) (P := P) (y := y) (Q := (q' + 1)) (fun j hj => HcB.out j (by omega)) hw5; have Hg5 := Lib.hid (((grown_of_below (Below.drewN' (Below.refl w3.heap.size w3) (mm + nq))).but (some gB)).trans hg5); have hz5 := hg5.size; have Hhas := Lib.hid (rev_has (cB := cB) (by omega) hc5); clear hg5 hc5 hw5; have hz5' : w3.heap.size ≤ w5.heap.size := hz5; have HoA := Lib.hid (show w5.ownsRow w1.heap.size 3 1 (.slice (some ⟨gA, 0, none⟩) ((p' + 1) + 1) cA) ((p' + 1) + 1) (nvals (way P x ((p' + 1) + 1))) from by have h1 := ownsRow_take1 (Ho23.out.kept Hg5.out (Or.inr (by simp [Value.ownBlock]; omega))) (k := (p' + 1) + 1) (by omega); rwa [nvals_take, way_take P x (by omega)] at h1); have HB5 := Lib.hid (HB3.out.grown Hg5.out (by omega) (fun g e => by have := Option.some.inj e; omega))))
          go_ret
          exact ⟨.slice a8 ((p' + 1) + 1 + (q' + 1)) c8, (p' + 1), (q' + 1), rfl, Hend.out, by have h := own_lower (b' := w.heap.size) Ho8.out (by omega); rwa [← nvals_append] at h, HB8.out⟩

end Go.Proofs.YtnhhohhhpaejmaaDoor
