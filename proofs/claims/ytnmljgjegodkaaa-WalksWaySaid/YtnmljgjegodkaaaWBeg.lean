/- arborlaw.walksBegun: true. -/
import Derived.Test.YtnmljgjegodkaaaPosW
import Derived.BigQuiet
namespace Go.Proofs.Ytnmljgjegodkaaa
open Go.RowKit

def threeL : List (Int × Int) := [(0, 1), (1, 2)]
theorem three_adj : ∀ i j, i < 3 → j < 3 → (adj threeL i j = true ↔ i + 1 = j ∨ j + 1 = i) := by
  intro i j hi hj
  match i, hi, j, hj with
  | 0, _, 0, _ => decide
  | 0, _, 1, _ => decide
  | 0, _, 2, _ => decide
  | 1, _, 0, _ => decide
  | 1, _, 1, _ => decide
  | 1, _, 2, _ => decide
  | 2, _, 0, _ => decide
  | 2, _, 1, _ => decide
  | 2, _, 2, _ => decide
theorem three_far : FarOk 3 (adj threeL) 0 (fun v => (v : Int)) where
  at' := rfl
  rng v hv := .inr ⟨by omega, by omega⟩
  par v hv hp := ⟨v - 1, by omega, by omega, (three_adj _ _ (by omega) hv).2 (by omega)⟩
  fin u v hu hv hg h0 := by
    have := (three_adj u v hu hv).1 hg
    omega
  zero v hv h := by omega
theorem three_hang : HangE 3 (adj threeL) := by
  have h01 : Rch 3 (adj threeL) (fun _ => false) 0 1 := .step .refl (by omega) (by omega) (by decide) rfl
  have h12 : Rch 3 (adj threeL) (fun _ => false) 1 2 := .step .refl (by omega) (by omega) (by decide) rfl
  have h21 : Rch 3 (adj threeL) (fun _ => false) 2 1 := .step .refl (by omega) (by omega) (by decide) rfl
  have h10 : Rch 3 (adj threeL) (fun _ => false) 1 0 := .step .refl (by omega) (by omega) (by decide) rfl
  intro x y a b hx ha
  have to1 : ∀ v, v < 3 → Rch 3 (adj threeL) (fun _ => false) v 1 := fun v hv => match v, hv with
    | 0, _ => h01
    | 1, _ => .refl
    | 2, _ => h21
  have of1 : ∀ v, v < 3 → Rch 3 (adj threeL) (fun _ => false) 1 v := fun v hv => match v, hv with
    | 0, _ => h10
    | 1, _ => .refl
    | 2, _ => h12
  exact (to1 x hx.1).trans (of1 a ha.1)
theorem three_good : GoodGraph 3 threeL := ⟨by omega, by omega, by decide, fun j hj => by
  match j, hj with
  | 0, _ => exact ⟨by unfold EndsOk; decide, by decide, by decide⟩
  | 1, _ => exact ⟨by unfold EndsOk; decide, by decide, by decide⟩⟩
theorem post_three {w w' : World} {e : Ending} (h : PostPost 3 threeL w e w') : ∃ v O, e = .returned (.tuple #[v, .agg #[.int .i64 0, .int .i64 0]]) ∧ IsInts w' v (ints O) ∧ O.length = 5 ∧ O.getD 0 0 = O.getD 4 0 ∧ Below w.heap.size w w' := by
  obtain ⟨c0, a0, c, a, v, hs, rfl, hb, hcase⟩ := h
  obtain ⟨rfl, rfl⟩ := hs.uniq three_good.spec
  rcases hcase with ⟨h1, -⟩ | ⟨-, -, N, hN, hg, hcase⟩
  · exact absurd rfl h1
  · obtain rfl : N = 3 := by omega
    have hho := hangB_yes three_hang
    have hodd : oddL 3 (adj threeL) = [0, 2] := by decide
    rcases hcase with ⟨h1, -⟩ | ⟨-, h1, -⟩ | ⟨-, -, h1, -⟩ | ⟨-, -, -, rfl, rfl, f, O, eO, X, hf, hX, hXl, ho, hT⟩
    · exact absurd h1 (by decide)
    · rw [hho] at h1; cases h1
    · rw [hodd] at h1; simp at h1
    · refine ⟨v, O, rfl, ho, ?_, ?_, hb⟩
      · have hall := hT.hang hg three_hang hf hX
        have hl := hT.len hall
        have hm : matesP (farE 3 (adj threeL)) 12 [0, 2] = 2 := by
          have := (farE_ok (N := 3) (G := adj threeL) (show 0 < 3 by omega)).eq three_far 2 (by omega)
          simp [matesP, mateF, List.getD, this]
        rw [hodd, hm] at hXl
        rw [List.length_append, show threeL.length = 2 from rfl] at hl
        omega
      · have hall := hT.hang hg three_hang hf hX
        have hl := hT.len hall
        have hm : matesP (farE 3 (adj threeL)) 12 [0, 2] = 2 := by
          have := (farE_ok (N := 3) (G := adj threeL) (show 0 < 3 by omega)).eq three_far 2 (by omega)
          simp [matesP, mateF, List.getD, this]
        rw [hodd, hm] at hXl
        rw [List.length_append, show threeL.length = 2 from rfl] at hl
        have h5 : O.length = 5 := by omega
        have h1 := hT.top
        have h2 := hT.last
        match O, h5 with
        | [a, b, c, d, e], _ =>
          simp at h1 h2
          simp [h1, h2]

set_option maxHeartbeats 1600000 in
set_option maxRecDepth 100000 in
theorem walksBegun_any (w : World) : Calls Try.prog 11 #[] w fun e w' => e = .returned (.bool true) ∧ Below w.heap.size w w' := by
  have hE : IsEdges (w.alloc (Obj.cells #[.int .i64 0, .int .i64 1, .int .i64 1, .int .i64 2] 78)) (.slice (some ⟨w.heap.size, 0, none⟩) 2 2) threeL := by
    refine ⟨_, 2, w.heap.size, 0, rfl, Nat.le_refl _, by omega, fun _ => rfl, by simp, fun j hj => ?_⟩
    have hj2 : j < 2 := hj
    match j, hj2 with
    | 0, _ => exact ⟨by rw [World.cell?_alloc_at _ _ _ _ rfl]; rfl, by rw [World.cell?_alloc_at _ _ _ _ rfl]; rfl⟩
    | 1, _ => exact ⟨by rw [World.cell?_alloc_at _ _ _ _ rfl]; rfl, by rw [World.cell?_alloc_at _ _ _ _ rfl]; rfl⟩
  have HE := Lib.hid hE
  have Hb1 := Lib.hid (below1 w (Obj.cells #[.int .i64 0, .int .i64 1, .int .i64 1, .int .i64 2] 78))
  clear hE
  go_enter Try.func11, Try.ntmps11
  go_upto_region 2 with (go_at_call 10; refine (postman_any 3 threeL _ _ HE.out).mono ?_; rintro e w2 hp; obtain ⟨v, O, rfl, ho, hl, heq, hb⟩ := post_three hp; obtain ⟨aO, cO, rfl⟩ : ∃ a c, v = .slice a 5 c := (by obtain ⟨a, c, _, _, rfl, _⟩ := ho; exact ⟨a, c, by rw [ints_length, hl]⟩); have Ho := Lib.hid ho; have Hl := Lib.hid hl; have Heq := Lib.hid heq; have Hb := Lib.hid hb; clear ho hl heq hb hp)
  obtain ⟨bO, oO, rfl, c0⟩ := ints_at' Ho.out (Below.refl _ _) (show 0 < O.length by rw [Hl.out]; omega)
  obtain ⟨bO', oO', eO, c4⟩ := ints_at' Ho.out (Below.refl _ _) (show 4 < O.length by rw [Hl.out]; omega)
  simp only [Option.some.injEq, Addr.mk.injEq] at eO
  obtain ⟨rfl, rfl, -⟩ := eO
  rw [Heq.out] at c0
  rw [Nat.add_zero] at c0
  generalize O.getD 4 0 = x at *
  have b3 := below1 w2 (Obj.cells #[.int .i64 0, .int .i64 0] 27)
  have e01 := two_cells w2 (.int .i64 0) (.int .i64 0) 27
  have c0' := below_cell b3 c0
  have c4' := below_cell b3 c4
  have hzz := Hb1.out.size
  have Hend := Lib.hid ((Hb1.out.trans (Hb.out.mono hzz)).alloc (by have := Hb.out.size; omega) (Obj.cells #[.int .i64 0, .int .i64 0] 27))
  generalize w2.alloc (Obj.cells #[.int .i64 0, .int .i64 0] 27) = w3 at *
  obtain ⟨e0, e1⟩ := e01
  clear c0 c4 b3
  go_big_quiet (fail)
  go_wp2
  exact bodyPost_ret (v := .bool true) (by simp [results, Try.results11, go_sem]) rfl ⟨rfl, Below.drewN' Hend.out _⟩

end Go.Proofs.Ytnmljgjegodkaaa
