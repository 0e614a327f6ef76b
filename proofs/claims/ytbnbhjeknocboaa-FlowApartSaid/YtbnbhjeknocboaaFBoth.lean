/- flow.both: pipes both ways along each edge. -/
import Derived.Test.YtbnbhjeknocboaaBuild
import Derived.Test.YtbnbhjeknocboaaPA
namespace Go.Proofs.Ytbnbhjeknocboaa
open Go.RowKit

/-- The arcs of the first k edges: there and back. -/
def bothN (l : List (Int × Int)) (ws : List Int) : Nat → List (Int × Int × Int)
  | 0 => []
  | k + 1 => bothN l ws k ++ [((l.getD k (0, 0)).1, (l.getD k (0, 0)).2, ws.getD k 0), ((l.getD k (0, 0)).2, (l.getD k (0, 0)).1, ws.getD k 0)]
theorem bothN_length (l : List (Int × Int)) (ws : List Int) : ∀ k, (bothN l ws k).length = 2 * k
  | 0 => rfl
  | k + 1 => by rw [bothN, List.length_append, bothN_length l ws k]; simp; omega
theorem netX_two (m : List (Int × Int × Int)) (a b : Int × Int × Int) : netX (m ++ [a, b]) = addX (addX (netX m) a.1.toNat a.2.1.toNat a.2.2.toNat) b.1.toNat b.2.1.toNat b.2.2.toNat := by
  unfold netX
  rw [List.foldl_append]
  rfl
theorem bothN_get (l : List (Int × Int)) (ws : List Int) : ∀ n k, k < n → (bothN l ws n).getD (2 * k) (0, 0, 0) = ((l.getD k (0, 0)).1, (l.getD k (0, 0)).2, ws.getD k 0) ∧ (bothN l ws n).getD (2 * k + 1) (0, 0, 0) = ((l.getD k (0, 0)).2, (l.getD k (0, 0)).1, ws.getD k 0)
  | 0, k, h => absurd h (Nat.not_lt_zero _)
  | n + 1, k, h => by
    have hl := bothN_length l ws n
    rw [bothN]
    by_cases e : k = n
    · subst e
      constructor
      · rw [List.getD, List.getElem?_append_right (by omega), hl]; simp
      · rw [List.getD, List.getElem?_append_right (by omega), hl, show 2 * k + 1 - 2 * k = 1 by omega]; rfl
    · obtain ⟨h1, h2⟩ := bothN_get l ws n k (by omega)
      rw [List.getD] at h1 h2
      constructor
      · rw [List.getD, List.getElem?_append_left (by omega)]; exact h1
      · rw [List.getD, List.getElem?_append_left (by omega)]; exact h2
theorem bothN_ok {N : Nat} {l : List (Int × Int)} {ws : List Int} (hok : ∀ j, j < l.length → EndsOk N (l.getD j (0, 0))) (hz : ∀ j, j < l.length → 0 ≤ ws.getD j 0 ∧ ws.getD j 0 ≤ 1000000) {n : Nat} (hn : n ≤ l.length) : ∀ j, j < (bothN l ws n).length → ArcOk N ((bothN l ws n).getD j (0, 0, 0)) := fun j hj => by
  rw [bothN_length] at hj
  obtain ⟨h1, h2⟩ := bothN_get l ws n (j / 2) (by omega)
  obtain ⟨a1, a2, a3, a4⟩ := hok (j / 2) (by omega)
  obtain ⟨b1, b2⟩ := hz (j / 2) (by omega)
  rcases (show j = 2 * (j / 2) ∨ j = 2 * (j / 2) + 1 by omega) with e | e
  · rw [e, h1]; exact ⟨a1, a3, a2, a4, b1, b2⟩
  · rw [e, h2]; exact ⟨a2, a4, a1, a3, b1, b2⟩

set_option maxHeartbeats 3200000 in
set_option maxRecDepth 100000 in
theorem fboth_any (l : List (Int × Int)) (ws : List Int) (N : Nat) (s wv : Value) (w : World) (h : IsEdges w s l) (hw : IsInts w wv ws) (hlen : ws.length = l.length) (hN : N ≤ 100) (hl : l.length ≤ 1000) (hok : ∀ j, j < l.length → EndsOk N (l.getD j (0, 0))) (hz : ∀ j, j < l.length → 0 ≤ ws.getD j 0 ∧ ws.getD j 0 ≤ 1000000) :
    Calls Try.prog 42 #[.agg #[.int .i64 (N : Int), s], wv] w (PipesPost N (netX (bothN l ws l.length)) w) := by
  obtain ⟨ad, cap, bb, o, rfl, hcap, hmax, hadr, -, hcell⟩ := h
  obtain ⟨wa, wc, wb, wo, rfl, hwcap, hwmax, hwadr, -, hwcell⟩ := hw
  rw [hlen] at hwcap hwadr ⊢
  have Hok := Lib.hid hok; have Hz := Lib.hid hz; have Hwc := Lib.hid hwcell; have Hlen := Lib.hid hlen
  have hPB := PB.begin w (Obj.cells #[.int .i64 (N : Int), .slice ad l.length cap] 24) N
  have hb3 : Below w.heap.size w (((w.alloc (Obj.cells #[.int .i64 (N : Int), .slice ad l.length cap] 24)).alloc (.cells (madeCells #[Value.slice none 0 0] N) 25)).alloc (Obj.cells #[.slice none 0 0, .slice none 0 0, .slice (some ⟨w.heap.size + 1, 0, none⟩) N N] 66)) :=
    (below2 w _ _).alloc (below2 w _ _).size _
  have HP := Lib.hid hPB; have HB := Lib.hid hb3
  clear hok hPB hb3 hz hwcell hlen
  have hmk := run_make_row' (P := Try.prog) 48 25 (.slice none 0 0) 24 Try.underlying48 infoS rfl .i64 .i64 N (by omega) (by omega)
  go_enter Try.func42, Try.ntmps42
  go_wp2
  generalize ((w.alloc (Obj.cells #[.int .i64 (N : Int), .slice ad l.length cap] 24)).alloc (.cells (madeCells #[Value.slice none 0 0] N) 25)).alloc (Obj.cells #[.slice none 0 0, .slice none 0 0, .slice (some ⟨w.heap.size + 1, 0, none⟩) N N] 66) = w1 at *
  have hsz1 : w.heap.size + 3 ≤ w1.heap.size := HP.out.sz
  go_loopg [16] l.length (fun g s16 wr => ∃ (k : Nat) (V : Nat → Value), k ≤ l.length ∧ g = l.length - k ∧ s16 = .int .i64 k ∧ PB wr (w.heap.size + 3) (w.heap.size + 2) (w.heap.size + 1) N V (netX (bothN l ws k)) ∧ Below w.heap.size w wr)
  case atStart => exact ⟨0, _, Nat.zero_le _, rfl, rfl, HP.out, HB.out⟩
  case round =>
    obtain ⟨k, V, hk, rfl, rfl, hp, hb⟩ := hrel
    have Hp := Lib.hid hp; have Hb := Lib.hid hb
    by_cases hlt : k < l.length
    · obtain rfl := hadr (by omega)
      obtain rfl := hwadr (by omega)
      obtain ⟨x, y, He, cx, cy⟩ := edges_at hcell hb hlt
      obtain ⟨z, Hze, cz⟩ := ints_at Hwc.out hb (k := k) (by rw [Hlen.out]; exact hlt)
      obtain ⟨o1, o2, o3, o4⟩ := (show EndsOk N (x, y) from He.out ▸ Hok.out k hlt)
      have hz1 := Hz.out k hlt
      rw [Hze.out] at hz1
      obtain ⟨o5, o6⟩ := hz1
      simp only at o1 o2 o3 o4
      obtain ⟨u, rfl⟩ : ∃ u : Nat, x = u := ⟨x.toNat, by omega⟩
      obtain ⟨v, rfl⟩ : ∃ v : Nat, y = v := ⟨y.toNat, by omega⟩
      obtain ⟨c, rfl⟩ : ∃ c : Nat, z = c := ⟨z.toNat, by omega⟩
      have hlen : ∀ r, r < N + 2 → (netX (bothN l ws k) r).length ≤ 9000 := fun r _ => by
        have := netX_length (bothN l ws k) r
        rw [bothN_length] at this
        omega
      have Hlen2 := Lib.hid hlen
      have hwr : w.heap.size ≤ wr.heap.size := hb.size
      have cz0 : w.cell? ⟨wb, wo + k, none⟩ = some (.int .i64 (c : Int)) := by rw [Hwc.out k (by rw [Hlen.out]; exact hlt), Hze.out]
      clear hp hb hadr hcell hlen
      go_upto_region 5 with fail
      have hpA := Hp.out.alloc (Obj.cells #[.int .i64 (u : Int), .int .i64 (v : Int)] 44)
      have hbA := Hb.out.alloc hwr (Obj.cells #[.int .i64 (u : Int), .int .i64 (v : Int)] 44)
      obtain ⟨ce0, ce1⟩ := two_cells wr (.int .i64 (u : Int)) (.int .i64 (v : Int)) 44
      have czA := below_cell (below1 wr (Obj.cells #[.int .i64 (u : Int), .int .i64 (v : Int)] 44)) cz
      have hE : ∀ q r, r < N + 2 → (V r).ownBlock = some q → q < wr.heap.size := fun q r hr e => ((Hp.out.owns hr).lt q e).2
      have HE := Lib.hid hE
      have hsE : w.heap.size + 3 ≤ wr.heap.size := Hp.out.sz
      have HpA := Lib.hid hpA; have HbA := Lib.hid hbA
      clear hpA hbA cx cy cz hE
      generalize wr.alloc (Obj.cells #[.int .i64 (u : Int), .int .i64 (v : Int)] 44) = wA at *
      generalize wr.heap.size = E at *
      refine region_tail 9 (by kernel_rfl) (by kernel_rfl) ?_
      have hd : Below wA.heap.size wA wA.drew := (Below.refl _ _).drew
      have ce0 := below_cell hd ce0
      have ce1 := below_cell hd ce1
      have czA := below_cell hd czA
      have HpB := Lib.hid (HpA.out.below hd)
      have HbB := Lib.hid (HbA.out.trans (hd.mono HbA.out.size))
      clear hd HpA HbA
      generalize wA.drew = wB at *
      simp only [List.take_succ_cons, List.take_zero, List.drop_succ_cons, List.drop_zero]
      repeat still_step
      refine wpStill_nil ?_
      go_upto_region 6 with (go_at_call 53; refine (fadd_any (w.heap.size + 3) (w.heap.size + 2) (w.heap.size + 1) N u v c V (netX (bothN l ws k)) _ (by omega) (by omega) (by omega) (fun r hr => by have := Hlen2.out r hr; omega) HpB.out).mono ?_; rintro e w5 ⟨rfl, hk5⟩; have hb5 := hk5.below HpB.out (B := w.heap.size) HbB.out.size (by omega) (by omega); obtain ⟨V5, hp5, ho5, hc5⟩ := hk5; have Hp5 := Lib.hid hp5; have Hb5 := Lib.hid (HbB.out.trans hb5); have Hc5 := Lib.hid hc5; clear hp5 hb5 ho5 hc5)
      have hPTE : ¬ VTurns (w.heap.size + 2) (w.heap.size + 1) N V E := fun hs => by
        rcases hs with e | e | ⟨r, hr, e⟩
        · omega
        · omega
        · have := HE.out E r hr e; omega
      have ce0 := Hc5.out.cell ce0 hPTE
      have ce1 := Hc5.out.cell ce1 hPTE
      have HB5 := Lib.hid Hb5.out
      have czA := below_cell HB5.out cz0
      clear hPTE HpB HbB Hc5 HE
      refine region_tail 9 (by kernel_rfl) (by kernel_rfl) ?_
      have hd : Below w5.heap.size w5 w5.drew := (Below.refl _ _).drew
      have ce0 := below_cell hd ce0
      have ce1 := below_cell hd ce1
      have czA := below_cell hd czA
      have HpB := Lib.hid (Hp5.out.below hd)
      have HbB := Lib.hid (Hb5.out.trans (hd.mono Hb5.out.size))
      clear hd Hp5 Hb5 HB5
      generalize w5.drew = w6 at *
      simp only [List.take_succ_cons, List.take_zero, List.drop_succ_cons, List.drop_zero]
      repeat still_step
      refine wpStill_nil ?_
      go_wp2_with (go_at_call 53; refine (fadd_any (w.heap.size + 3) (w.heap.size + 2) (w.heap.size + 1) N v u c V5 _ _ (by omega) (by omega) (by omega) (fun r hr => by have := Hlen2.out r hr; have := addX_length (netX (bothN l ws k)) u v c r; omega) HpB.out).mono ?_; rintro e w7 ⟨rfl, hk7⟩; have hb7 := hk7.below HpB.out (B := w.heap.size) HbB.out.size (by omega) (by omega); obtain ⟨V7, hp7, -, -⟩ := hk7; have Hp7 := Lib.hid hp7; have Hb7 := Lib.hid (HbB.out.trans hb7); clear hp7 hb7)
      go_roundg (l.length - (k + 1))
      case measure => go_light; omega
      case rel => exact ⟨k + 1, V7, by omega, rfl, by go_num, by
        have := Hp7.out
        rw [bothN, netX_two, He.out, Hze.out]
        exact this, Hb7.out⟩
    · obtain rfl : l.length = k := by omega
      clear hp hb hcell hadr
      go_wp2
      exact bodyPost_ret (v := .pointer (some ⟨w.heap.size + 2, 0, none⟩)) (by simp [results, Try.results42, go_sem]) rfl ⟨w.heap.size + 3, w.heap.size + 2, w.heap.size + 1, V, rfl, Hp.out, by omega, by omega, Hb.out⟩

end Go.Proofs.Ytbnbhjeknocboaa
