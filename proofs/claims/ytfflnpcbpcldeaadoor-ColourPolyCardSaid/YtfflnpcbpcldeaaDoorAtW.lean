/- arborlaw.at: a polynomial's value. -/
import Derived.Test.YtfflnpcbpcldeaaDoorPolLaw
import Derived.Test.YtfflnpcbpcldeaaDoorBase
namespace Go.Proofs.YtfflnpcbpcldeaaDoor
open Go Go.RowKit

set_option maxHeartbeats 1600000 in
set_option maxRecDepth 100000 in
theorem at_any (f : Nat → Int) (n : Nat) (hn : n ≤ 100) (x : Int) (v : Value) (w : World) (hi : IsInts w v ((List.range n).map fun i => wI (f i))) :
    Calls Tryd.prog 12 #[v, .int .i64 x] w fun e w' => e = .returned (.int .i64 (wI (horD f x n n))) ∧ w' = w := by
  have hlen : ((List.range n).map fun i => wI (f i)).length = n := by simp
  obtain ⟨a, cap, b, o, rfl, hcap, hmax, hadr, -, hcell⟩ := hi
  rw [hlen] at hcap hadr hcell ⊢
  have Hcell := Lib.hid hcell; have Hadr := Lib.hid hadr
  clear hlen hcell hadr
  have h0 : IntKind.i64.wrap ((n : Int) - 1) = (n : Int) - 1 := by
    have := wI_64 ((n : Int) - 1)
    show wI _ = _
    rw [this]; unfold wrap64; omega
  go_enter Tryd.func12, Tryd.ntmps12
  go_wp2
  go_loopg [5, 6] n (fun g s5 s6 wr => ∃ k : Nat, k ≤ n ∧ g = n - k ∧ s6 = .int .i64 ((n : Int) - 1 - k) ∧ s5 = .int .i64 (wI (horD f x n k)) ∧ wr = w)
  case atStart => exact ⟨0, Nat.zero_le _, rfl, by simp, rfl, rfl⟩
  case round =>
    obtain ⟨k, hk, rfl, rfl, rfl, rfl⟩ := hrel
    by_cases hkn : k < n
    · obtain rfl := Hadr.out (by omega)
      have hc := Hcell.out (n - 1 - k) (by omega)
      rw [show ((List.range n).map fun i => wI (f i)).getD (n - 1 - k) 0 = wI (f (n - 1 - k)) by simp [List.getD, show n - 1 - k < n by omega]] at hc
      have hix : (n : Int) - 1 - k = ((n - 1 - k : Nat) : Int) := by omega
      have Hh := Lib.hid (wI_horn (horD f x n k) x (f (n - 1 - k)))
      rw [hix]
      generalize hS : wI (horD f x n k) = vS at *
      generalize hF : wI (f (n - 1 - k)) = vF at *
      generalize hK : n - 1 - k = K at *
      have HK := Lib.hid hK; have HX := Lib.hid hix
      have hKn : K < n := by omega
      clear hS hF hK hix
      go_wp2
      go_roundg (n - (k + 1))
      case measure => go_light; omega
      case rel => exact ⟨k + 1, by omega, rfl, by have := HX.out; go_num, by
        show _ = Value.int .i64 (wI (horD f x n k * x + f (n - 1 - k)))
        rw [HK.out, ← Hh.out, wI_64, wI_64], rfl⟩
    · obtain rfl : k = n := by omega
      have hneg : ¬ (0 : Int) ≤ (k : Int) - 1 - k := by omega
      go_wp2
      go_ret
      exact ⟨rfl, rfl⟩

end Go.Proofs.YtfflnpcbpcldeaaDoor
