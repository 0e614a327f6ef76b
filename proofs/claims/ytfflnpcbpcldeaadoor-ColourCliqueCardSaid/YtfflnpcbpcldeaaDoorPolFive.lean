/- colour.Poly at the ring of five. -/
import Derived.Test.YtfflnpcbpcldeaaDoorPolP
namespace Go.Proofs.YtfflnpcbpcldeaaDoor
open Go Go.RowKit

/-- The ring of five. -/
def fiveL : List (Int × Int) := [(0, 1), (1, 2), (2, 3), (3, 4), (0, 4)]
def fiveF : List Bool := [true, true, true, false, true, true, false, false, true, true, true, false, false, false, false, false, true, false, true, false, true, false, false, false, false, false, false, false, false, false, false, false]
theorem five_free : ∀ s, s < 32 → freeB fiveL 5 s = fiveF.getD s false := by decide +kernel
theorem five_stage {k : Nat} {L L' : List Int} (h : ∀ s, s < 32 → polW (freeB fiveL 5) 32 k s = L.getD s 0)
    (hd : ∀ x, x < 32 → sumI (fun s => polC (fun q => fiveF.getD q false) 31 (fun s => L.getD s 0) s x) 32 = L'.getD x 0) : ∀ x, x < 32 → polW (freeB fiveL 5) 32 (k + 1) x = L'.getD x 0 := fun x hx => by
  rw [← hd x hx, polW]
  refine sumI_congr fun s hs => ?_
  unfold polC
  have hle : less x s < 32 := by
    have : less x s ≤ x := Within.le fun i hi => by rw [less_bit] at hi; simp at hi; exact hi.1
    omega
  rw [five_free _ hle, h s hs]
def fiveW0 : List Int := [1, 0, 0, 0, 0, 0, 0, 0, 0, 0, 0, 0, 0, 0, 0, 0, 0, 0, 0, 0, 0, 0, 0, 0, 0, 0, 0, 0, 0, 0, 0, 0]
def fiveW1 : List Int := [0, 1, 0, 0, 0, 1, 0, 0, 0, 1, 0, 0, 0, 0, 0, 0, 0, 0, 0, 0, 0, 0, 0, 0, 0, 0, 0, 0, 0, 0, 0, 0]
def fiveW2 : List Int := [0, 0, 0, 1, 0, 0, 0, 1, 0, 0, 0, 2, 0, 0, 0, 1, 0, 0, 0, 1, 0, 0, 0, 1, 0, 0, 0, 1, 0, 0, 0, 0]
def fiveW3 : List Int := [0, 0, 0, 0, 0, 0, 0, 1, 0, 0, 0, 0, 0, 0, 0, 3, 0, 0, 0, 0, 0, 0, 0, 2, 0, 0, 0, 0, 0, 0, 0, 5]
def fiveW4 : List Int := [0, 0, 0, 0, 0, 0, 0, 0, 0, 0, 0, 0, 0, 0, 0, 1, 0, 0, 0, 0, 0, 0, 0, 0, 0, 0, 0, 0, 0, 0, 0, 5]
def fiveW5 : List Int := [0, 0, 0, 0, 0, 0, 0, 0, 0, 0, 0, 0, 0, 0, 0, 0, 0, 0, 0, 0, 0, 0, 0, 0, 0, 0, 0, 0, 0, 0, 0, 1]
theorem five_w0 : ∀ s, s < 32 → polW (freeB fiveL 5) 32 0 s = fiveW0.getD s 0 := by
  intro s hs
  rw [polW]
  revert s
  decide +kernel
theorem five_w1 : ∀ s, s < 32 → polW (freeB fiveL 5) 32 1 s = fiveW1.getD s 0 := five_stage five_w0 (by decide +kernel)
theorem five_w2 : ∀ s, s < 32 → polW (freeB fiveL 5) 32 2 s = fiveW2.getD s 0 := five_stage five_w1 (by decide +kernel)
theorem five_w3 : ∀ s, s < 32 → polW (freeB fiveL 5) 32 3 s = fiveW3.getD s 0 := five_stage five_w2 (by decide +kernel)
theorem five_w4 : ∀ s, s < 32 → polW (freeB fiveL 5) 32 4 s = fiveW4.getD s 0 := five_stage five_w3 (by decide +kernel)
theorem five_w5 : ∀ s, s < 32 → polW (freeB fiveL 5) 32 5 s = fiveW5.getD s 0 := five_stage five_w4 (by decide +kernel)
theorem five_poly : (List.range 6).map (fun i => wI (polO (freeB fiveL 5) 32 6 i)) = [0, 4, -10, 10, -5, 1] := by
  have e0 := five_w0 31 (by omega)
  have e1 := five_w1 31 (by omega)
  have e2 := five_w2 31 (by omega)
  have e3 := five_w3 31 (by omega)
  have e4 := five_w4 31 (by omega)
  have e5 := five_w5 31 (by omega)
  simp only [polO, e0, e1, e2, e3, e4, e5]
  decide +kernel

end Go.Proofs.YtfflnpcbpcldeaaDoor
