/- arborref.CostFault, arborref.Rows. -/
import Derived.Test.YtfccfmjamdpeaaaBase
namespace Go.Proofs.Ytfccfmjamdpeaaa
open Go.RowKit

/-- Row i of a cost matrix is as it must be. -/
def RowOk (m : List (List Int)) (i : Nat) : Prop := (m.getD i []).length = m.length ∧ ∀ j, j < m.length → -1000000 ≤ (m.getD i []).getD j 0 ∧ (m.getD i []).getD j 0 ≤ 1000000

/-- What is wrong with costs: a code, and where. -/
def CostSpec (m : List (List Int)) (c a : Int) : Prop :=
  (100 < m.length ∧ c = 2 ∧ a = 0) ∨
  (m.length ≤ 100 ∧ ∃ i, i < m.length ∧ (∀ r, r < i → RowOk m r) ∧ ¬ RowOk m i ∧ a = i ∧ (((m.getD i []).length ≠ m.length ∧ c = 6) ∨ ((m.getD i []).length = m.length ∧ c = 3))) ∨
  (m.length ≤ 100 ∧ (∀ r, r < m.length → RowOk m r) ∧ c = 0 ∧ a = 0)

theorem CostSpec.uniq {m : List (List Int)} {c a c' a' : Int} (h : CostSpec m c a) (h' : CostSpec m c' a') : c = c' ∧ a = a' := by
  rcases h with ⟨h1, rfl, rfl⟩ | ⟨h1, i, hi, hr, hn, rfl, hc⟩ | ⟨h1, hr, rfl, rfl⟩ <;> rcases h' with ⟨h1', rfl, rfl⟩ | ⟨h1', i', hi', hr', hn', rfl, hc'⟩ | ⟨h1', hr', rfl, rfl⟩
  · exact ⟨rfl, rfl⟩
  · omega
  · omega
  · omega
  · have e : i = i' := by
      rcases Nat.lt_trichotomy i i' with h | h | h
      · exact absurd (hr' i h) hn
      · exact h
      · exact absurd (hr i' h) hn'
    subst e
    refine ⟨?_, rfl⟩
    rcases hc with ⟨a1, a2⟩ | ⟨a1, a2⟩ <;> rcases hc' with ⟨b1, b2⟩ | ⟨b1, b2⟩ <;> first | omega | exact absurd b1 a1 | exact absurd a1 b1
  · exact absurd (hr' i hi) hn
  · omega
  · exact absurd (hr i' hi') hn'
  · exact ⟨rfl, rfl⟩

theorem CostSpec.range {m : List (List Int)} {k j : Nat} {x : List Int} {z : Int} (hb : m.length ≤ 100) (hk : k < m.length) (hok : ∀ r, r < k → RowOk m r) (hx : m.getD k [] = x) (hl : x.length = m.length) (hj : j < m.length) (hz : x.getD j 0 = z) (hbad : z < -1000000 ∨ 1000000 < z) :
    CostSpec m 3 k :=
  Or.inr (Or.inl ⟨hb, k, hk, hok, fun h => by have := h.2 j hj; rw [hx, hz] at this; omega, rfl, Or.inr ⟨by rw [hx]; exact hl, rfl⟩⟩)
theorem CostSpec.size {m : List (List Int)} {k : Nat} {x : List Int} (hb : m.length ≤ 100) (hk : k < m.length) (hok : ∀ r, r < k → RowOk m r) (hx : m.getD k [] = x) (hl : ¬ x.length = m.length) :
    CostSpec m 6 k :=
  Or.inr (Or.inl ⟨hb, k, hk, hok, fun h => hl (by rw [← hx]; exact h.1), rfl, Or.inl ⟨by rw [hx]; exact hl, rfl⟩⟩)
theorem below2 (w : World) (o o' : Obj) : Below w.heap.size w ((w.alloc o).alloc o') := ((Below.refl _ _).alloc (Nat.le_refl _) _).alloc (by simp) _
theorem below1 (w : World) (o : Obj) : Below w.heap.size w (w.alloc o) := (Below.refl _ _).alloc (Nat.le_refl _) _

/-- A fault comes back, and what was there is as it was. -/
def Faulty (S : Int → Int → Prop) (w : World) (e : Ending) (w' : World) : Prop := ∃ c a, S c a ∧ e = .returned (.agg #[.int .i64 c, .int .i64 a]) ∧ Below w.heap.size w w'

set_option maxHeartbeats 400000 in
theorem costFault_any (m : List (List Int)) (s : Value) (w : World) (h : IsRows w s m) :
    Calls Try.prog 35 #[s] w (Faulty (CostSpec m) w) := by
  obtain ⟨a, cap, b, o, rfl, hcap, hmax, hadr, -, hcell⟩ := h
  by_cases hbig : 100 < m.length
  · have hbig2 : (100 : Int) < (m.length : Int) := by omega
    go_enter Try.func35, Try.ntmps35
    go_wp2_with (go_at_call 19; refine (F_any _ _ _).mono ?_; rintro e w1 ⟨rfl, rfl⟩)
    exact bodyPost_ret (v := .agg #[.int .i64 2, .int .i64 0]) (by simp [results, Try.results35, go_sem]) rfl ⟨_, _, Or.inl ⟨hbig, rfl, rfl⟩, rfl, below2 _ _ _⟩
  · have hbig' : m.length ≤ 100 := by omega
    have Hbig := Lib.hid hbig'
    go_enter Try.func35, Try.ntmps35
    go_wp2
    have hbw : Below w.heap.size w (w.alloc (Obj.cells #[Value.int IntKind.i64 0, Value.int IntKind.i64 0] 27)) := (Below.refl _ _).alloc (Nat.le_refl _) _
    go_loop [3] (fun i => ∃ k : Nat, k ≤ m.length ∧ i = .int .i64 k ∧ ∀ r, r < k → RowOk m r) (fun i => m.length - (intOf i).toNat)
    case atStart => exact ⟨0, Nat.zero_le _, rfl, fun _ h => absurd h (Nat.not_lt_zero _)⟩
    case round =>
      obtain ⟨k, hk, rfl, hok⟩ := hrel
      have Hok := Lib.hid hok; clear hok
      by_cases hlt : k < m.length
      · obtain rfl := hadr (by omega)
        obtain ⟨x, Hx, ra, rcap, hc, hr⟩ := rows_at hcell hbw hlt
        obtain ⟨ra', rcap', rb, ro, he, hrc, hrm, hra, -, hrcell⟩ := id hr
        simp only [Value.slice.injEq, true_and] at he
        obtain ⟨rfl, rfl⟩ := he
        clear hcell hadr
        by_cases hlen : x.length = m.length
        · have hl1 : ((x.length : Int) != (m.length : Int)) = false := by rw [hlen]; simp
          have hl2 : ((x.length : Int) == (m.length : Int)) = true := by rw [hlen]; simp
          have Hlen := Lib.hid hlen; clear hlen
          go_wp2
          clear hl1 hl2
          go_loop [4] (fun i => ∃ j : Nat, j ≤ m.length ∧ i = .int .i64 j ∧ ∀ r, r < j → -1000000 ≤ x.getD r 0 ∧ x.getD r 0 ≤ 1000000) (fun i => m.length - (intOf i).toNat)
          case atStart => exact ⟨0, Nat.zero_le _, rfl, fun _ h => absurd h (Nat.not_lt_zero _)⟩
          case round =>
            obtain ⟨j, hj, rfl, hokj⟩ := hrel
            have Hokj := Lib.hid hokj; clear hokj
            by_cases hltj : j < m.length
            · have hltx : j < x.length := by have := Hlen.out; omega
              obtain rfl := hra (by omega)
              obtain ⟨z, Hz, hcz⟩ := ints_at hrcell (Below.refl _ _) hltx
              clear hrcell hra
              by_cases hz1 : z < -1000000
              · go_wp2_with (go_at_call 19; refine (F_any _ _ _).mono ?_; rintro e w1 ⟨rfl, rfl⟩)
                exact bodyPost_ret (v := .agg #[.int .i64 3, .int .i64 k]) (by simp [results, Try.results35, go_sem]) rfl ⟨_, _, CostSpec.range Hbig.out hlt Hok.out Hx.out Hlen.out hltj Hz.out (Or.inl hz1), rfl, below2 _ _ _⟩
              · by_cases hz2 : 1000000 < z
                · go_wp2_with (go_at_call 19; refine (F_any _ _ _).mono ?_; rintro e w1 ⟨rfl, rfl⟩)
                  exact bodyPost_ret (v := .agg #[.int .i64 3, .int .i64 k]) (by simp [results, Try.results35, go_sem]) rfl ⟨_, _, CostSpec.range Hbig.out hlt Hok.out Hx.out Hlen.out hltj Hz.out (Or.inr hz2), rfl, below2 _ _ _⟩
                · go_wp2
                  go_round
                  case rel => exact ⟨j + 1, by omega, by go_num, fun r hr => by
                    by_cases e : r = j
                    · rw [e, Hz.out]; omega
                    · exact Hokj.out r (by omega)⟩
                  case measure => simp [intOf]; omega
            · go_wp2
              go_round
              case rel => exact ⟨k + 1, by omega, by go_num, fun r hr => by
                by_cases e : r = k
                · rw [e]; exact ⟨by rw [Hx.out]; exact Hlen.out, fun q hq => by rw [Hx.out]; exact Hokj.out q (by omega)⟩
                · exact Hok.out r (by omega)⟩
              case measure => simp [intOf]; omega
        · have hl1 : ((x.length : Int) != (m.length : Int)) = true := by simp; omega
          have hl2 : ((x.length : Int) == (m.length : Int)) = false := by simp; omega
          have Hlen := Lib.hid hlen; clear hlen
          go_wp2_with (go_at_call 19; refine (F_any _ _ _).mono ?_; rintro e w1 ⟨rfl, rfl⟩)
          exact bodyPost_ret (v := .agg #[.int .i64 6, .int .i64 k]) (by simp [results, Try.results35, go_sem]) rfl ⟨_, _, CostSpec.size Hbig.out hlt Hok.out Hx.out Hlen.out, rfl, below2 _ _ _⟩
      · go_wp2
        obtain rfl : k = m.length := by omega
        exact bodyPost_ret (v := .agg #[.int .i64 0, .int .i64 0]) (by simp [results, Try.results35, go_sem]) rfl ⟨_, _, Or.inr (Or.inr ⟨Hbig.out, Hok.out, rfl, rfl⟩), rfl, below1 _ _⟩

end Go.Proofs.Ytfccfmjamdpeaaa
