/- poly.top, (poly.table).add. -/
import Derived.Test.YtmhcnekbfngafaaPB
import Derived.Test.YtmhcnekbfngafaaTabM
import Derived.Test.YtmhcnekbfngafaaPA
import Derived.Deep.LoopGhost
import Derived.Deep.QuietTactic
import Derived.BigQuiet
import Derived.Deep.RegionHeld3
namespace Go.Proofs.Ytmhcnekbfngafaa
open Go Go.RowKit Go.Maps

/-- A list of nodes' numbers, cell by cell. -/
theorem ups_at {w : World} {uv : Value} {N : Nat} {u : Nat → Nat} (h : IsInts w uv (upL N u)) : ∃ a cap b o, uv = .slice a N cap ∧ N ≤ cap ∧ (0 < N → a = some ⟨b, o, none⟩) ∧ ∀ v, v < N → w.cell? ⟨b, o + v, none⟩ = some (.int .i64 (u v : Int)) := by
  obtain ⟨a, cap, b, o, h1, h2, -, h4, -, h6⟩ := h
  rw [upL_length] at h1 h2 h4 h6
  exact ⟨a, cap, b, o, h1, h2, h4, fun v hv => by rw [h6 v hv, upL_getD hv]⟩

set_option maxHeartbeats 1600000 in
set_option maxRecDepth 100000 in
theorem top_any {N : Nat} {u c : Nat → Nat} (hF : Forest N u c) (hN : N ≤ 100) {v0 : Nat} (hv0 : v0 < N) (uv : Value) (w : World) (hu : IsInts w uv (upL N u)) :
    Calls Try.prog 71 #[uv, .int .i64 (v0 : Int)] w fun e w' => e = .returned (.int .i64 (c v0 : Int)) ∧ w' = w := by
  obtain ⟨a, cap, b, o, rfl, hcap, ha, hcell⟩ := ups_at hu
  obtain rfl := ha (by omega)
  obtain ⟨d, hd⟩ := hF.deep
  have Hd := Lib.hid hd; have HF := Lib.hid hF; have Hc := Lib.hid hcell
  clear hd hF hcell hu ha
  go_enter Try.func71, Try.ntmps71
  go_wp2
  go_loopg [1] (d v0) (fun g s1 wr => ∃ v : Nat, v < N ∧ g = d v ∧ s1 = .int .i64 (v : Int) ∧ c v = c v0 ∧ wr = w)
  case atStart => exact ⟨v0, hv0, rfl, rfl, rfl, rfl⟩
  case round =>
    obtain ⟨v, hv, rfl, rfl, hcv, rfl⟩ := hrel
    have t1 := Hc.out v hv
    have hlt := HF.out.lt v hv
    have hcs := HF.out.step v hv
    have hrt := HF.out.root v hv
    have hdv := Hd.out v hv
    have Hcv := Lib.hid hcv; have Hcs := Lib.hid hcs; have Hrt := Lib.hid hrt; have Hdv := Lib.hid hdv
    clear hcv hcs hrt hdv
    by_cases e : u v = v
    · have q : (((u v : Nat) : Int) != (v : Int)) = false := by simp [e]
      have Hr := Lib.hid (Hrt.out e)
      have He := Lib.hid e
      clear e
      go_wp2
      go_ret
      exact ⟨ret_int (by rw [← Hcv.out, Hr.out]), rfl⟩
    · have q : (((u v : Nat) : Int) != (v : Int)) = true := by simp; omega
      have He := Lib.hid e
      clear e
      go_wp2
      go_roundg (d (u v))
      case measure => exact Hdv.out He.out
      case rel => exact ⟨u v, hlt, rfl, rfl, by rw [Hcs.out, Hcv.out], rfl⟩

end Go.Proofs.Ytmhcnekbfngafaa
