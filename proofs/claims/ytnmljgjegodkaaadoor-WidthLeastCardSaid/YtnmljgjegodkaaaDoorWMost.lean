/- arborlaw.mostOf; bags of an order are fine. -/
import Derived.Test.YtnmljgjegodkaaaDoorWTree
import Derived.Test.YtnmljgjegodkaaaDoorWLst
namespace Go.Proofs.YtnmljgjegodkaaaDoor
open Go.RowKit

/-- The greatest length, less 1. -/
def mostI (m : List (List Int)) : Nat → Int
  | 0 => -1
  | k + 1 => max (mostI m k) (((m.getD k []).length : Int) - 1)
theorem wrapW {x : Int} (h0 : -9223372036854775808 ≤ x) (h1 : x < 9223372036854775808) : IntKind.i64.wrap x = x := by
  simp [IntKind.wrap, IntKind.bits, IntKind.signed]; omega
theorem most_lo (m : List (List Int)) : ∀ k, -1 ≤ mostI m k
  | 0 => Int.le_refl _
  | k + 1 => by have := most_lo m k; rw [mostI]; omega
theorem bag_ok {n : Int} {b : List Nat} (hn : b.Nodup) (hlt : ∀ v ∈ b, (v : Int) < n) : BagOk n (ints b) := by
  intro k hk
  rw [ints_length] at hk
  have e : (ints b).getD k 0 = ((b.getD k 0 : Nat) : Int) := by simp [ints, List.getD, hk]
  have hm : b.getD k 0 ∈ b := by rw [List.getD, List.getElem?_eq_getElem hk]; exact List.getElem_mem hk
  refine ⟨⟨by rw [e]; omega, by rw [e]; exact hlt _ hm⟩, fun h => ?_⟩
  rw [e, ints, ← List.map_take, List.mem_map] at h
  obtain ⟨v, hv, ev⟩ := h
  have ev : v = b.getD k 0 := by omega
  obtain ⟨i, hi, hg⟩ := List.getElem_of_mem hv
  rw [List.length_take] at hi
  rw [List.getElem_take] at hg
  have h2 := (List.pairwise_iff_getElem.1 hn) i k (by omega) hk (by omega)
  exact h2 (by rw [hg, ev, List.getD, List.getElem?_eq_getElem hk]; rfl)
/-- Bags of an order are fine. -/
theorem least_fits {N : Nat} {l : List (Int × Int)} {L ps : List Nat} (hg : GraphSpec (N : Int) l 0 0) (hN : N ≤ 12) (hl : ps.length = N) : FitsSpec (N : Int) l ((bagsL N (adj l) L).map ints) (ps.map (upI N)) 0 0 := by
  refine .inr ⟨hg, .inr ⟨by simp; omega, .inr ⟨by simp [hl], .inr ⟨fun j hj => ?_, rfl, rfl⟩⟩⟩⟩
  rw [List.length_map, List.length_map, List.length_range] at hj
  rw [map_ints_getD, bagsL_at hj]
  refine bag_ok (List.nodup_range.filter _) fun v hv => ?_
  unfold bagL at hv
  rw [List.mem_filter, List.mem_range] at hv
  omega
/-- The greatest bag of an order. -/
theorem most_least {N W : Nat} {G : Nat → Nat → Bool} {L : List Nat} (hO : Ord N L) (hW : WidL N G L W) : mostI ((bagsL N G L).map ints) ((bagsL N G L).map ints).length = if N = 0 then -1 else (W : Int) := by
  have hlen : ∀ i, i < N → (((bagsL N G L).map ints).getD i []).length = degB N G (goneL L i) (L.getD i 0) + 1 := fun i hi => by
    rw [map_ints_getD, ints_length, bagsL_at hi]
    have h1 := cntN_one (n := N) (p := restL N G L i) (hO.at hi).1 (by
      cases e : restL N G L i (L.getD i 0)
      · rfl
      · exact absurd rfl (bey_iff.1 e).2.2)
    have h2 : cntN N (fun u => decide (u = L.getD i 0) || restL N G L i u) = cntN N fun u => restL N G L i u || decide (u = L.getD i 0) := cntN_congr fun u _ => Bool.or_comm _ _
    show cntN N (fun u => decide (u = L.getD i 0) || restL N G L i u) = _
    rw [h2, h1]
    rfl
  have hL : ((bagsL N G L).map ints).length = N := by simp
  rw [hL]
  have key : ∀ k, k ≤ N → WdI N G L k (mostI ((bagsL N G L).map ints) k) := by
    intro k
    induction k with
    | zero => intro _; exact .inl ⟨rfl, rfl⟩
    | succ k ih =>
      intro hk
      have h1 := (ih (by omega)).step (d := degB N G (goneL L k) (L.getD k 0)) rfl
      rw [mostI, hlen k (by omega)]
      have e : ((degB N G (goneL L k) (L.getD k 0) + 1 : Nat) : Int) - 1 = (degB N G (goneL L k) (L.getD k 0) : Int) := by omega
      rw [e]
      exact h1
  exact (key N (Nat.le_refl _)).fin hW

set_option maxHeartbeats 3200000 in
set_option maxRecDepth 100000 in
theorem mostOf_any (m : List (List Int)) (bv : Value) (w : World) (h : IsRows w bv m) :
    Calls Tryd.prog 13 #[bv] w fun e w' => e = .returned (.int .i64 (mostI m m.length)) ∧ w = w' := by
  obtain ⟨ab, cb, rfl, hmM⟩ : ∃ ab cb, bv = .slice ab m.length cb ∧ m.length ≤ 9223372036854775807 := by
    obtain ⟨a, c, _, _, rfl, _, _, _, _, _⟩ := h
    exact ⟨a, c, rfl, by omega⟩
  have Hm := Lib.hid h
  clear h
  go_enter Tryd.func13, Tryd.ntmps13
  go_upto_region 3 with fail
  go_loopg [3, 4] m.length (fun g s3 s4 wr => ∃ i : Nat, i ≤ m.length ∧ g = m.length - i ∧ s4 = .int .i64 (i : Int) ∧ s3 = .int .i64 (mostI m i) ∧ w = wr)
  case atStart => exact ⟨0, Nat.zero_le _, rfl, rfl, rfl, rfl⟩
  case round =>
    obtain ⟨i, hi, rfl, rfl, rfl, rfl⟩ := hrel
    by_cases hlt : i < m.length
    · obtain ⟨bb, ob, r, rfl, cr, hri⟩ := Hm.out.atF hlt
      obtain ⟨ar, cr', rfl, hl2⟩ : ∃ ar cr', r = .slice ar (m.getD i []).length cr' ∧ (m.getD i []).length ≤ 9223372036854775807 := by
        obtain ⟨ar, cr', br, or', er, hl1, hl2, -, -, -⟩ := hri
        exact ⟨ar, cr', er, by omega⟩
      have Hs := Lib.hid (show mostI m (i + 1) = max (mostI m i) (((m.getD i []).length : Int) - 1) from rfl)
      clear hri
      generalize (m.getD i []).length = nb at *
      generalize mostI m i = x at *
      have hw : IntKind.i64.wrap ((nb : Int) - 1) = (nb : Int) - 1 := wrapW (by omega) (by omega)
      go_upto_region 4 with fail
      rw [← Hs.out]
      go_wp2
      go_roundg (m.length - (i + 1))
      case measure => go_light; omega
      case rel => exact ⟨i + 1, by omega, rfl, by go_num, rfl, rfl⟩
    · obtain rfl : i = m.length := by omega
      go_wp2
      exact bodyPost_ret (v := .int .i64 (mostI m m.length)) (by simp [results, Tryd.results13, go_sem]) rfl ⟨rfl, rfl⟩
end Go.Proofs.YtnmljgjegodkaaaDoor
