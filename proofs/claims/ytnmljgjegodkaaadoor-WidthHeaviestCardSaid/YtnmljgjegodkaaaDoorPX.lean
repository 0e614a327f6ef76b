/- arborlaw.five. (As in Five, without colour.) arborlaw.widthBegun answers true: the ring of five is two wide. -/
import Derived.Test.YtnmljgjegodkaaaDoorPW
import Derived.Test.YtnmljgjegodkaaaDoorTableM
import Derived.Test.YtnmljgjegodkaaaDoorWLst
namespace Go.Proofs.YtnmljgjegodkaaaDoor
open Go Go.RowKit

/-- The ring of five. -/
def fiveG : List (Int × Int) := [(0, 1), (1, 2), (2, 3), (3, 4), (0, 4)]

set_option maxHeartbeats 800000 in
set_option maxRecDepth 100000 in
theorem fiveG_any (w : World) : Calls Tryd.prog 32 #[] w fun e w' => ∃ v, e = .returned (.agg #[.int .i64 5, v]) ∧ IsEdges w' v fiveG ∧ Below w.heap.size w w' := by
  go_enter Tryd.func32, Tryd.ntmps32
  go_wp2
  have c0 := two_cells w (.int .i64 5) (.slice (some ⟨w.heap.size + 1, 0, none⟩) 5 5) 24
  have hs := World.size_alloc w (Obj.cells #[.int .i64 5, .slice (some ⟨w.heap.size + 1, 0, none⟩) 5 5] 24)
  have hb := below1 w (Obj.cells #[.int .i64 5, .slice (some ⟨w.heap.size + 1, 0, none⟩) 5 5] 24)
  generalize w.alloc (Obj.cells #[.int .i64 5, .slice (some ⟨w.heap.size + 1, 0, none⟩) 5 5] 24) = w1 at *
  have hb2 := below1 w1 (Obj.cells #[.int .i64 0, .int .i64 1, .int .i64 1, .int .i64 2, .int .i64 2, .int .i64 3, .int .i64 3, .int .i64 4, .int .i64 0, .int .i64 4] 63)
  have e0 := below_cell hb2 c0.1
  have e1 := below_cell hb2 c0.2
  have hE : IsEdges (w1.alloc (Obj.cells #[.int .i64 0, .int .i64 1, .int .i64 1, .int .i64 2, .int .i64 2, .int .i64 3, .int .i64 3, .int .i64 4, .int .i64 0, .int .i64 4] 63)) (.slice (some ⟨w.heap.size + 1, 0, none⟩) 5 5) fiveG := by
    rw [← hs]
    refine ⟨_, 5, w1.heap.size, 0, rfl, Nat.le_refl _, by omega, fun _ => rfl, by simp, fun j hj => ?_⟩
    have hj5 : j < 5 := hj
    match j, hj5 with
    | 0, _ => exact ⟨by rw [World.cell?_alloc_at _ _ _ _ rfl]; rfl, by rw [World.cell?_alloc_at _ _ _ _ rfl]; rfl⟩
    | 1, _ => exact ⟨by rw [World.cell?_alloc_at _ _ _ _ rfl]; rfl, by rw [World.cell?_alloc_at _ _ _ _ rfl]; rfl⟩
    | 2, _ => exact ⟨by rw [World.cell?_alloc_at _ _ _ _ rfl]; rfl, by rw [World.cell?_alloc_at _ _ _ _ rfl]; rfl⟩
    | 3, _ => exact ⟨by rw [World.cell?_alloc_at _ _ _ _ rfl]; rfl, by rw [World.cell?_alloc_at _ _ _ _ rfl]; rfl⟩
    | 4, _ => exact ⟨by rw [World.cell?_alloc_at _ _ _ _ rfl]; rfl, by rw [World.cell?_alloc_at _ _ _ _ rfl]; rfl⟩
  exact bodyPost_ret (v := .agg #[.int .i64 5, .slice (some ⟨w.heap.size + 1, 0, none⟩) 5 5]) (by simp [results, Tryd.results32, go_sem, e0, e1]) rfl ⟨_, rfl, hE, hb.trans (hb2.mono hb.size)⟩

end Go.Proofs.YtnmljgjegodkaaaDoor
namespace Go.Proofs.YtnmljgjegodkaaaDoor
open Go Go.RowKit

theorem five_specW : SmallSpec 5 fiveG 12 0 0 := Or.inr ⟨Or.inr ⟨by unfold TooBig; simp [fiveG], Or.inr ⟨fun j hj => by
  have hj5 : j < 5 := hj
  match j, hj5 with
  | 0, _ => exact ⟨by unfold EndsOk; simp [List.getD, fiveG], by simp [List.getD, fiveG], by decide⟩
  | 1, _ => exact ⟨by unfold EndsOk; simp [List.getD, fiveG], by simp [List.getD, fiveG], by decide⟩
  | 2, _ => exact ⟨by unfold EndsOk; simp [List.getD, fiveG], by simp [List.getD, fiveG], by decide⟩
  | 3, _ => exact ⟨by unfold EndsOk; simp [List.getD, fiveG], by simp [List.getD, fiveG], by decide⟩
  | 4, _ => exact ⟨by unfold EndsOk; simp [List.getD, fiveG], by simp [List.getD, fiveG], by decide⟩, rfl, rfl⟩⟩, Or.inr ⟨by omega, rfl, rfl⟩⟩
/-- What lies on a way, by a set that is shut. -/
theorem thr_shut {N v u : Nat} {G : Nat → Nat → Bool} {S T : Nat → Bool} (h1 : ∀ u, u < N → G v u = true → T u = true) (h2 : ∀ x, x < N → ∀ u, u < N → T x = true → S x = true → G x u = true → T u = true) (h : Thr N G S v u) : T u = true := by
  induction h with
  | nb a b => exact h1 _ a b
  | via k a b c ih => exact h2 _ k.lt _ b ih a c
theorem deg_shut {N v d : Nat} {G : Nat → Nat → Bool} {S T : Nat → Bool} (h1 : ∀ u, u < N → G v u = true → T u = true) (h2 : ∀ x, x < N → ∀ u, u < N → T x = true → S x = true → G x u = true → T u = true)
    (hd : cntN N (fun u => T u && !S u && decide (u ≠ v)) ≤ d) : degB N G S v ≤ d := by
  refine Nat.le_trans (cntN_le_of fun u hu h => ?_) hd
  obtain ⟨a, b, c⟩ := bey_iff.1 h
  simp [thr_shut h1 h2 a, b, c]
theorem five_ord : Ord 5 [0, 1, 2, 3, 4] := ⟨rfl, by decide, by decide⟩
theorem five_deg : ∀ i, i < 5 → degB 5 (adj fiveG) (goneL [0, 1, 2, 3, 4] i) (([0, 1, 2, 3, 4] : List Nat).getD i 0) ≤ 2 := fun i hi => by
  match i, hi with
  | 0, _ => exact deg_shut (T := fun u => decide (u = 1 ∨ u = 4)) (by decide) (by decide) (by decide)
  | 1, _ => exact deg_shut (T := fun u => decide (u ≠ 3)) (by decide) (by decide) (by decide)
  | 2, _ => exact deg_shut (T := fun _ => true) (by decide) (by decide) (by decide)
  | 3, _ => exact deg_shut (T := fun _ => true) (by decide) (by decide) (by decide)
  | 4, _ => exact deg_shut (T := fun _ => true) (by decide) (by decide) (by decide)
theorem five_two : ∀ v, v < 5 → cntN 5 (fun u => adj fiveG v u && decide (u ≠ v)) = 2 := by decide
theorem five_width {L : List Nat} {W : Nat} (hO : Ord 5 L) (hW : WidL 5 (adj fiveG) L W) (hm : ∀ L', Ord 5 L' → ∀ B, (∀ i, i < 5 → degB 5 (adj fiveG) (goneL L' i) (L'.getD i 0) ≤ B) → W ≤ B) : W = 2 := by
  have h1 := hm _ five_ord 2 five_deg
  have h2 := hW.le 0 (by omega)
  have h3 := five_two _ (hO.at (show 0 < 5 by omega)).1
  have h4 : cntN 5 (fun u => adj fiveG (L.getD 0 0) u && decide (u ≠ L.getD 0 0)) ≤ degB 5 (adj fiveG) (goneL L 0) (L.getD 0 0) := cntN_le_of fun u hu h => by
    rw [Bool.and_eq_true, decide_eq_true_eq] at h
    exact bey_iff.2 ⟨.nb hu h.1, by simp [goneL], h.2⟩
  omega

set_option maxHeartbeats 1600000 in
set_option maxRecDepth 100000 in
theorem widthBegun_any (w : World) (hT : TabAt 1 Lib.deBruijn64tab w) : Calls Tryd.prog 9 #[] w fun e w' => e = .returned (.bool true) ∧ Below w.heap.size w w' := by
  have HT := Lib.hid hT
  clear hT
  go_enter Tryd.func9, Tryd.ntmps9
  go_wp2_with fail
  refine (fiveG_any _).mono ?_
  rintro e w1 ⟨v, rfl, hE, hb1⟩
  have HE := Lib.hid hE; have Hb1 := Lib.hid hb1
  clear hE hb1
  go_wp2_with fail
  refine (wleast_any 5 fiveG v w1 HE.out (TabAt.below (g := 1) HT.out Hb1.out)).mono ?_
  rintro e w2 ⟨c, a, wid, vb, vu, rfl, hsp, hb2, hres⟩
  obtain ⟨h1, h2⟩ := SmallSpec.uniq hsp five_specW
  subst h1
  subst h2
  obtain rfl : wid = 2 := by
    rcases hres with ⟨h, _⟩ | ⟨_, _, N, W, L, ps, hN, _, hO, hW, hm, hw, _⟩
    · exact absurd rfl h
    · obtain rfl : N = 5 := by omega
      rw [hw, five_width hO hW hm]
      rfl
  have hb3 := below1 w2 (Obj.cells #[.int .i64 0, .int .i64 0] 27)
  have e3 := two_cells w2 (.int .i64 0) (.int .i64 0) 27
  have f0 := e3.1
  have Hb3 := Lib.hid (upc Hb1.out (upc hb2 hb3))
  clear hsp hres hb2 hb3 e3
  go_upto_region 2 with fail
  generalize w2.alloc (Obj.cells #[.int .i64 0, .int .i64 0] 27) = w3 at *
  go_wp2
  exact bodyPost_ret (v := .bool true) (by simp [results, Tryd.results9, go_sem]) rfl ⟨rfl, Hb3.out⟩
end Go.Proofs.YtnmljgjegodkaaaDoor
