/- arborref.Sparse. -/
import Derived.Test.YtfflnpcbpcldeaaDoorSparse
namespace Go.Proofs.YtfflnpcbpcldeaaDoor
open Go.RowKit

set_option maxHeartbeats 400000 in
theorem sparseTop_no (N K : Nat) (G : Nat → Nat → Bool) (hN : N ≤ 100) (hK : K ≤ 1000) (hsy : ∀ u v, G u v = G v u) (hirr : ∀ u, G u u = false) (gv : Value) (w : World) (hg : HasGrid w gv N G)
    (hno : ∀ L : List Nat, L.length = N → (∀ x ∈ L, x < K) → ¬ PropL G L) :
    Calls Tryd.prog 17 #[gv, .int .i64 (K : Int)] w fun e w' => e = .returned (.bool false) ∧ Below w.heap.size w w' := by
  have Hg := Lib.hid hg; have Hno := Lib.hid hno; have Hsy := Lib.hid hsy; have Hirr := Lib.hid hirr
  clear hg hno hsy hirr
  go_enter Tryd.func17, Tryd.ntmps17
  go_wp2_with fail
  refine (sparse_no N K G hN hK Hsy.out Hirr.out N [] 0 _ _ w rfl (by simp) (fun u hu => absurd hu (Nat.not_lt_zero _)) (Nat.le_refl _) (IsInts.nil _) Hg.out (fun L h1 _ h3 => Hno.out L h1 h3)).mono ?_
  rintro e w1 ⟨rfl, hb⟩
  go_wp2
  go_ret
  exact ⟨rfl, hb⟩

end Go.Proofs.YtfflnpcbpcldeaaDoor
