/- slices.Index and slices.Contains at integers; chords.left: is a node in a clique that does not stand yet? -/
import Derived.Test.YtnhhohhhpaejmaaOpen
import Derived.Test.YtnhhohhhpaejmaaPA
import Derived.BigQuiet
import Derived.Deep.Draws
import Derived.Deep.LoopGhost
import Derived.Deep.Light
namespace Go.Proofs.Ytnhhohhhpaejmaa
open Go Go.RowKit

theorem IsRows.atT {w : World} {a : Option Addr} {len c : Nat} {m : List (List Int)} (h : IsRows w (.slice a len c) m) {k : Nat} (hk : k < m.length) : ∃ b o r, a = some ⟨b, o, none⟩ ∧ w.cell? ⟨b, o + k, none⟩ = some r ∧ IsInts w r (m.getD k []) := by
  obtain ⟨a2, c2, b, o, e, h1, h2, h3, h4, h5⟩ := h
  simp only [Value.slice.injEq] at e
  obtain ⟨rfl, rfl, rfl⟩ := e
  obtain ⟨r, hr, hi⟩ := h5 k hk
  exact ⟨b, o, r, h3 (by omega), hr, hi⟩
theorem IsRows.formT {w : World} {v : Value} {m : List (List Int)} (h : IsRows w v m) : ∃ a c, v = .slice a m.length c ∧ m.length ≤ 9223372036854775807 := by
  obtain ⟨a, c, _, _, rfl, _, _, _, _, _⟩ := h
  exact ⟨a, c, rfl, by omega⟩
theorem IsInts.atT {w : World} {a : Option Addr} {len c : Nat} {m : List Int} (h : IsInts w (.slice a len c) m) {k : Nat} (hk : k < m.length) : ∃ b o, a = some ⟨b, o, none⟩ ∧ w.cell? ⟨b, o + k, none⟩ = some (.int .i64 (m.getD k 0)) := by
  obtain ⟨a2, c2, b, o, e, h1, h2, h3, h4, h5⟩ := h
  simp only [Value.slice.injEq] at e
  obtain ⟨rfl, rfl, rfl⟩ := e
  exact ⟨b, o, h3 (by omega), h5 k hk⟩
/-- Where it stands, or -1. -/
def IdxT (m : List Int) (x z : Int) : Prop := (z = -1 ∧ ¬ x ∈ m) ∨ (0 ≤ z ∧ x ∈ m)
set_option maxRecDepth 100000 in
theorem indexT_any (m : List Int) (x : Int) (s : Value) (w : World) (h : IsInts w s m) :
    Calls Try.prog 101 #[s, .int .i64 x] w fun e w' => (∃ z, e = .returned (.int .i64 z) ∧ IdxT m x z) ∧ w' = w := by
  obtain ⟨a, c, rfl, hl⟩ : ∃ a c, s = .slice a m.length c ∧ m.length ≤ 9223372036854775807 := by
    obtain ⟨a, c, _, _, rfl, _, _, _, _, _⟩ := h
    exact ⟨a, c, rfl, by omega⟩
  have H := Lib.hid h
  clear h
  obtain ⟨L, hLe⟩ : ∃ L, m.length = L := ⟨_, rfl⟩
  have HL := Lib.hid hLe
  rw [hLe] at hl
  rw [hLe]
  clear hLe
  go_enter Try.func101, Try.ntmps101
  go_upto_region 2 with fail
  go_loopg [8] L (fun g s8 wr => ∃ k : Nat, k ≤ L ∧ g = L - k ∧ s8 = .int .i64 (k : Int) ∧ wr = w ∧ ∀ j, j < k → m.getD j 0 ≠ x)
  case atStart => exact ⟨0, Nat.zero_le _, rfl, rfl, rfl, fun j hj => absurd hj (Nat.not_lt_zero _)⟩
  case round =>
    obtain ⟨k, hk, rfl, rfl, rfl, hno⟩ := hrel
    have Hno := Lib.hid hno
    clear hno
    by_cases hlt : k < L
    · obtain ⟨b, o, rfl, cx⟩ := H.out.atT (show k < m.length by rw [HL.out]; exact hlt)
      obtain ⟨y, hy⟩ : ∃ y, m.getD k 0 = y := ⟨_, rfl⟩
      have Hy := Lib.hid hy
      rw [hy] at cx
      clear hy
      by_cases hxy : x = y
      · have Hfin := Lib.hid (show IdxT m x (k : Int) from Or.inr ⟨Int.natCast_nonneg k, by
          have hk2 : k < m.length := by rw [HL.out]; exact hlt
          rw [hxy, ← Hy.out, List.getD, List.getElem?_eq_getElem hk2]; exact List.getElem_mem _⟩)
        subst hxy
        go_wp2
        go_ret
        exact ⟨⟨_, rfl, Hfin.out⟩, rfl⟩
      · have hxb : (x == y) = false := by simp [hxy]
        have Hst := Lib.hid (show ∀ j, j < k + 1 → m.getD j 0 ≠ x from fun j hj => by
          by_cases e : j = k
          · subst e; rw [Hy.out]; exact fun h => hxy h.symm
          · exact Hno.out j (by omega))
        clear hxy
        go_wp2
        go_roundg (L - (k + 1))
        case measure => go_light; omega
        case rel => exact ⟨k + 1, by omega, rfl, by go_num, rfl, Hst.out⟩
    · obtain rfl : k = L := by omega
      have Hfin := Lib.hid (show IdxT m x (-1) from Or.inl ⟨rfl, fun h => by
        obtain ⟨j, hj, e⟩ := List.getElem_of_mem h
        exact Hno.out j (by rw [← HL.out]; exact hj) (by rw [List.getD, List.getElem?_eq_getElem hj]; exact e)⟩)
      go_wp2
      go_ret
      exact ⟨⟨_, rfl, Hfin.out⟩, rfl⟩
set_option maxRecDepth 100000 in
theorem containsT_any (m : List Int) (x : Int) (s : Value) (w : World) (h : IsInts w s m) :
    Calls Try.prog 84 #[s, .int .i64 x] w fun e w' => (∃ b : Bool, e = .returned (.bool b) ∧ (b = true ↔ x ∈ m)) ∧ w' = w := by
  have H := Lib.hid h
  clear h
  go_enter Try.func84, Try.ntmps84
  go_wp2_with (go_at_call 101; refine (indexT_any _ _ _ _ H.out).mono ?_; rintro e wp ⟨⟨z, rfl, hz⟩, rfl⟩; have Hz := Lib.hid hz; clear hz)
  go_ret
  refine ⟨⟨_, rfl, ?_⟩, rfl⟩
  rcases Hz.out with ⟨rfl, h⟩ | ⟨h0, h⟩
  · exact ⟨fun e => absurd e (by decide), fun h2 => absurd h2 h⟩
  · exact ⟨fun _ => h, fun _ => by simpa using h0⟩
/-- What left answers. -/
def LeftPost (M : List (List Int)) (U : Nat → Bool) (x : Int) (w : World) (e : Ending) (w' : World) : Prop := (∃ b : Bool, e = .returned (.bool b) ∧ (b = true ↔ ∃ k, k < M.length ∧ U k = false ∧ x ∈ M.getD k [])) ∧ w' = w
set_option maxRecDepth 100000 in
theorem left_any (M : List (List Int)) (U : Nat → Bool) (x : Int) (lv : Value) (K bu : Nat) (w : World) (h : IsRows w lv M) (hK : M.length = K) (hu : w.rowIs bu 4 K (rb U)) :
    Calls Try.prog 67 #[lv, .slice (some ⟨bu, 0, none⟩) K K, .int .i64 x] w (LeftPost M U x w) := by
  obtain ⟨a, c, rfl, hl⟩ := h.formT
  have H := Lib.hid h
  have HK := Lib.hid hK
  have Hu := Lib.hid hu
  rw [hK] at hl
  rw [hK]
  clear h hK hu
  go_enter Try.func67, Try.ntmps67
  go_upto_region 2 with fail
  go_loopg [11] K (fun g s11 wr => ∃ k : Nat, k ≤ K ∧ g = K - k ∧ s11 = .int .i64 (k : Int) ∧ wr = w ∧ ∀ j, j < k → U j = true ∨ x ∉ M.getD j [])
  case atStart => exact ⟨0, Nat.zero_le _, rfl, rfl, rfl, fun j hj => absurd hj (Nat.not_lt_zero _)⟩
  case round =>
    obtain ⟨k, hk, rfl, rfl, rfl, hno⟩ := hrel
    have Hno := Lib.hid hno
    clear hno
    by_cases hlt : k < K
    · obtain ⟨b, o, r, rfl, cx, hr⟩ := H.out.atT (show k < M.length by rw [HK.out]; exact hlt)
      have Hr := Lib.hid hr
      clear hr
      have cu : wr.cell? ⟨bu, k, none⟩ = some (.bool (U k)) := Hu.out.cell hlt
      cases hU : U k
      · rw [hU] at cu
        have HU := Lib.hid hU
        clear hU
        go_upto_region 4 with fail
        go_wp2_with (go_at_call 84; refine (containsT_any _ _ _ _ Hr.out).mono ?_; rintro e wp ⟨⟨bb, rfl, hb⟩, rfl⟩; have Hb := Lib.hid hb; clear hb; cases bb)
        · have Hst := Lib.hid (show ∀ j, j < k + 1 → U j = true ∨ x ∉ M.getD j [] from fun j hj => by
            by_cases e : j = k
            · subst e; exact .inr fun h => absurd (Hb.out.2 h) (by decide)
            · exact Hno.out j (by omega))
          go_roundg (K - (k + 1))
          case measure => go_light; omega
          case rel => exact ⟨k + 1, by omega, rfl, by go_num, rfl, Hst.out⟩
        · go_ret
          exact ⟨⟨_, rfl, fun _ => ⟨k, by rw [HK.out]; exact hlt, HU.out, Hb.out.1 (by trivial)⟩, fun _ => rfl⟩, rfl⟩
      · rw [hU] at cu
        have Hst := Lib.hid (show ∀ j, j < k + 1 → U j = true ∨ x ∉ M.getD j [] from fun j hj => by
          by_cases e : j = k
          · subst e; exact .inl hU
          · exact Hno.out j (by omega))
        clear hU
        go_wp2
        go_roundg (K - (k + 1))
        case measure => go_light; omega
        case rel => exact ⟨k + 1, by omega, rfl, by go_num, rfl, Hst.out⟩
    · obtain rfl : k = K := by omega
      have Hfin := Lib.hid (show ¬ ∃ k, k < M.length ∧ U k = false ∧ x ∈ M.getD k [] from fun ⟨j, hj, h1, h2⟩ => by
        rcases Hno.out j (by rw [← HK.out]; exact hj) with h3 | h3
        · rw [h1] at h3; cases h3
        · exact h3 h2)
      go_wp2
      go_ret
      exact ⟨⟨_, rfl, fun e => absurd e (by decide), fun h => absurd h Hfin.out⟩, rfl⟩
end Go.Proofs.Ytnhhohhhpaejmaa
