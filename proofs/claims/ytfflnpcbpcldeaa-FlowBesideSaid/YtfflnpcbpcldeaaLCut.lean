/- arborref.CutOf, arborref.LeastCut: the least cut, by all sets. -/
import Derived.Test.YtfflnpcbpcldeaaP2
import Derived.Test.YtfflnpcbpcldeaaMasks
namespace Go.Proofs.Ytfflnpcbpcldeaa
open Go.RowKit

/-- What a set of nodes, told by bits, holds as a cut. -/
def capB (l : List (Int × Int)) (ws : List Int) (S : Nat) (k : Nat) : Nat := capE l ws (fun v => S.testBit v) k
theorem capB_succ (l : List (Int × Int)) (ws : List Int) (S k : Nat) : capB l ws S (k + 1) = capB l ws S k + (if S.testBit (l.getD k (0, 0)).1.toNat = S.testBit (l.getD k (0, 0)).2.toNat then 0 else (ws.getD k 0).toNat) := rfl

set_option maxHeartbeats 1600000 in
set_option maxRecDepth 100000 in
theorem cutOf_any (l : List (Int × Int)) (ws : List Int) (N S : Nat) (s wv : Value) (w : World) (h : IsEdges w s l) (hw : IsInts w wv ws) (hlen : ws.length = l.length) (hN : N ≤ 9) (hS : S < 1024) (hl : l.length ≤ 1000) (hok : ∀ j, j < l.length → EndsOk N (l.getD j (0, 0))) (hz : ∀ j, j < l.length → 0 ≤ ws.getD j 0 ∧ ws.getD j 0 ≤ 1000000) :
    Calls Try.prog 84 #[.agg #[.int .i64 (N : Int), s], wv, .int .i64 (S : Int)] w fun e w' => e = .returned (.int .i64 (capB l ws S l.length : Int)) ∧ Below w.heap.size w w' := by
  obtain ⟨ad, cap, bb, o, rfl, hcap, hmax, hadr, -, hcell⟩ := h
  obtain ⟨wa, wc, wb, wo, rfl, hwcap, hwmax, hwadr, -, hwcell⟩ := hw
  rw [hlen] at hwcap hwadr ⊢
  have Hok := Lib.hid hok; have Hz := Lib.hid hz; have Hwc := Lib.hid hwcell; have Hlen := Lib.hid hlen
  have hb1 := below1 w (Obj.cells #[.int .i64 (N : Int), .slice ad l.length cap] 24)
  have c0 := two_cells w (.int .i64 (N : Int)) (.slice ad l.length cap) 24
  have C0 := Lib.hid c0; have Hb1 := Lib.hid hb1
  have hFew : Few S := by show S < _; omega
  clear hok hz hwcell hlen hb1 c0
  go_enter Try.func84, Try.ntmps84
  go_wp2
  generalize w.alloc (Obj.cells #[.int .i64 (N : Int), .slice ad l.length cap] 24) = w1 at *
  go_loopg [7, 8] l.length (fun g s7 s8 wr => ∃ k : Nat, k ≤ l.length ∧ g = l.length - k ∧ s8 = .int .i64 (k : Int) ∧ s7 = .int .i64 (capB l ws S k : Int) ∧ Below w1.heap.size w1 wr)
  case atStart => exact ⟨0, Nat.zero_le _, rfl, rfl, rfl, Below.refl _ _⟩
  case round =>
    obtain ⟨k, hk, rfl, rfl, rfl, hb⟩ := hrel
    have Hb := Lib.hid hb
    have cs := below_cell hb C0.out.2
    have hbw := Hb1.out.trans (hb.mono Hb1.out.size)
    by_cases hlt : k < l.length
    · obtain rfl := hadr (by omega)
      obtain rfl := hwadr (by omega)
      obtain ⟨x, y, He, cx, cy⟩ := edges_at hcell hbw hlt
      obtain ⟨z, Hze, cz⟩ := ints_at Hwc.out hbw (k := k) (by rw [Hlen.out]; exact hlt)
      obtain ⟨o1, o2, o3, o4⟩ := (show EndsOk N (x, y) from He.out ▸ Hok.out k hlt)
      have hz1 := Hz.out k hlt
      rw [Hze.out] at hz1
      obtain ⟨o5, o6⟩ := hz1
      simp only at o1 o2 o3 o4
      obtain ⟨u, rfl⟩ : ∃ u : Nat, x = u := ⟨x.toNat, by omega⟩
      obtain ⟨v, rfl⟩ : ∃ v : Nat, y = v := ⟨y.toNat, by omega⟩
      obtain ⟨c, rfl⟩ : ∃ c : Nat, z = c := ⟨z.toNat, by omega⟩
      have hu : u < 9 := by omega
      have hv : v < 9 := by omega
      have q1 := op_shr S u
      have q2 := op_bit (v := u) hFew
      have q3 := op_shr S v
      have q4 := op_bit (v := v) hFew
      have hsum := capB_succ l ws S k
      rw [He.out, Hze.out] at hsum
      simp only [Int.toNat_natCast] at hsum
      have hcf : capB l ws S k ≤ k * 1000000 := capE_few Hz.out _ k (by omega)
      by_cases he : S.testBit u = S.testBit v
      · have q5 : bit S u = bit S v := by unfold bit; rw [he]
        rw [if_pos he] at hsum
        rw [q5] at q2
        have Hsum := Lib.hid hsum
        clear hb hbw hadr hwadr hcell he q5 hsum o1 o2 o3 o4
        go_wp2
        go_quiet (fail)
        go_wp2
        go_roundg (l.length - (k + 1))
        case measure => go_light; omega
        case rel => exact ⟨k + 1, by omega, rfl, by go_num, by rw [Hsum.out]; rfl, Below.drewN' Hb.out _⟩
      · have q5 : ((bit S u : Int) != (bit S v : Int)) = true := by
          unfold bit
          cases e1 : S.testBit u <;> cases e2 : S.testBit v <;> simp_all
        rw [if_neg he] at hsum
        have q6 : IntKind.i64.wrap ((capB l ws S k : Int) + (c : Int)) = ((capB l ws S k + c : Nat) : Int) := wrap_nat (n := capB l ws S k + c) (by omega)
        have Hsum := Lib.hid hsum
        clear hb hbw hadr hwadr hcell he hsum o1 o2 o3 o4
        go_wp2
        go_quiet (fail)
        go_wp2
        go_roundg (l.length - (k + 1))
        case measure => go_light; omega
        case rel => exact ⟨k + 1, by omega, rfl, by go_num, by rw [Hsum.out, Int.natCast_add], Below.drewN' Hb.out _⟩
    · obtain rfl : l.length = k := by omega
      clear hb hadr hwadr hcell hbw
      go_wp2
      go_ret
      exact ⟨rfl, Hb1.out.trans (Hb.out.mono Hb1.out.size)⟩

/-- The best cut between s and t among the sets below i. -/
def BestS (l : List (Int × Int)) (ws : List Int) (s t i : Nat) (b : Int) : Prop :=
  (b = -1 ∧ ∀ S, S < i → S.testBit s = true → S.testBit t = false → False) ∨
  (∃ m : Nat, b = m ∧ (∃ S, S < i ∧ S.testBit s = true ∧ S.testBit t = false ∧ capB l ws S l.length = m) ∧ ∀ S, S < i → S.testBit s = true → S.testBit t = false → m ≤ capB l ws S l.length)
section
variable {l : List (Int × Int)} {ws : List Int} {s t i : Nat} {b : Int}
theorem BestS.skip (h : BestS l ws s t i b) (hi : ¬ (i.testBit s = true ∧ i.testBit t = false)) : BestS l ws s t (i + 1) b := by
  rcases h with ⟨rfl, h⟩ | ⟨m, rfl, ⟨S, h1, h2⟩, h3⟩
  · refine Or.inl ⟨rfl, fun S hS a c => ?_⟩
    by_cases e : S = i
    · subst e; exact hi ⟨a, c⟩
    · exact h S (by omega) a c
  · refine Or.inr ⟨m, rfl, ⟨S, by omega, h2⟩, fun S hS a c => ?_⟩
    by_cases e : S = i
    · subst e; exact absurd ⟨a, c⟩ hi
    · exact h3 S (by omega) a c
theorem BestS.take (h : BestS l ws s t i b) (h1 : i.testBit s = true) (h2 : i.testBit t = false) (hb : b < 0 ∨ (capB l ws i l.length : Int) < b) : BestS l ws s t (i + 1) (capB l ws i l.length : Int) := by
  refine Or.inr ⟨_, rfl, ⟨i, by omega, h1, h2, rfl⟩, fun S hS a c => ?_⟩
  by_cases e : S = i
  · subst e; exact Nat.le_refl _
  · rcases h with ⟨rfl, h⟩ | ⟨m, rfl, -, h3⟩
    · exact (h S (by omega) a c).elim
    · have := h3 S (by omega) a c
      omega
theorem BestS.stay (h : BestS l ws s t i b) (hb : 0 ≤ b) (hc : b ≤ (capB l ws i l.length : Int)) : BestS l ws s t (i + 1) b := by
  rcases h with ⟨rfl, h⟩ | ⟨m, rfl, ⟨S, h1, h2⟩, h3⟩
  · omega
  · refine Or.inr ⟨m, rfl, ⟨S, by omega, h2⟩, fun S hS a c => ?_⟩
    by_cases e : S = i
    · subst e; omega
    · exact h3 S (by omega) a c
theorem BestS.done {N : Nat} (h : BestS l ws s t (pow2 N) b) (hN : N ≤ 62) (hs : s < N) (ht : t < N) (hst : s ≠ t) (hok : ∀ j, j < l.length → EndsOk N (l.getD j (0, 0))) : ∃ m : Nat, b = m ∧ LeastC (capG l ws) s t m := by
  have key : ∀ S : Nat → Bool, ∃ k, k < pow2 N ∧ (∀ v, v < N → k.testBit v = S v) ∧ capB l ws k l.length = capG l ws S := fun S => by
    have hb : ∀ v, v < N → (maskOf S N).testBit v = S v := fun v hv => by rw [maskOf_bit]; simp [hv]
    have hlt : maskOf S N < pow2 N := by
      have := few_of_bit (a := maskOf S N) (n := N) fun i hi => by
        rw [maskOf_bit] at hi
        simp at hi
        exact hi.1
      unfold pow2
      exact this
    exact ⟨maskOf S N, hlt, hb, capE_congr hok hb _ (Nat.le_refl _)⟩
  rcases h with ⟨-, h⟩ | ⟨m, rfl, ⟨S, h1, h2, h3, h4⟩, h5⟩
  · exfalso
    obtain ⟨k, k1, k2, -⟩ := key fun v => decide (v = s)
    exact h k k1 (by rw [k2 s hs]; simp) (by rw [k2 t ht]; simp [Ne.symm hst])
  · refine ⟨m, rfl, ⟨fun v => S.testBit v, h2, h3, h4⟩, fun T t1 t2 => ?_⟩
    obtain ⟨k, k1, k2, k3⟩ := key T
    have := h5 k k1 (by rw [k2 s hs]; exact t1) (by rw [k2 t ht]; exact t2)
    omega
end

set_option maxHeartbeats 1600000 in
set_option maxRecDepth 100000 in
theorem leastCut_any (l : List (Int × Int)) (ws : List Int) (N s t m : Nat) (sv wv : Value) (w : World) (h : IsEdges w sv l) (hw : IsInts w wv ws) (hlen : ws.length = l.length) (hN : N ≤ 9) (hs : s < N) (ht : t < N) (hst : s ≠ t) (hl : l.length ≤ 1000) (hok : ∀ j, j < l.length → EndsOk N (l.getD j (0, 0))) (hz : ∀ j, j < l.length → 0 ≤ ws.getD j 0 ∧ ws.getD j 0 ≤ 1000000) (hm : LeastC (capG l ws) s t m) :
    Calls Try.prog 42 #[.agg #[.int .i64 (N : Int), sv], wv, .int .i64 (s : Int), .int .i64 (t : Int)] w fun e w' => e = .returned (.int .i64 (m : Int)) ∧ Below w.heap.size w w' := by
  obtain ⟨ad, cap, rfl⟩ : ∃ ad cap, sv = .slice ad l.length cap := by
    obtain ⟨a, c, _, _, rfl, _⟩ := h
    exact ⟨a, c, rfl⟩
  have hb1 := below1 w (Obj.cells #[.int .i64 (N : Int), .slice ad l.length cap] 24)
  have c0 := two_cells w (.int .i64 (N : Int)) (.slice ad l.length cap) 24
  have C0 := Lib.hid c0; have Hb1 := Lib.hid hb1; have He := Lib.hid (h.below hb1); have Hw := Lib.hid (hw.below hb1); have Hok := Lib.hid hok; have Hz := Lib.hid hz; have Hlen := Lib.hid hlen; have Hst := Lib.hid hst; have Hm := Lib.hid hm
  have q0 := op_shl (show N < 62 by omega)
  have hp2 : pow2 N ≤ 512 := by
    unfold pow2
    exact Nat.pow_le_pow_right (by omega) (show N ≤ 9 from hN)
  clear hb1 c0 h hw hok hz hlen hst hm
  go_enter Try.func42, Try.ntmps42
  go_wp2
  generalize w.alloc (Obj.cells #[.int .i64 (N : Int), .slice ad l.length cap] 24) = w1 at *
  generalize hP : pow2 N = P at *
  go_loopg [9, 10] P (fun g s9 s10 wr => ∃ (i : Nat) (b : Int), i ≤ P ∧ g = P - i ∧ s10 = .int .i64 (i : Int) ∧ s9 = .int .i64 b ∧ BestS l ws s t i b ∧ Below w1.heap.size w1 wr)
  case atStart => exact ⟨0, -1, Nat.zero_le _, rfl, rfl, rfl, Or.inl ⟨rfl, fun S hS => absurd hS (Nat.not_lt_zero _)⟩, Below.refl _ _⟩
  case round =>
    obtain ⟨i, b, hi, rfl, rfl, rfl, hbest, hb⟩ := hrel
    have Hb := Lib.hid hb; have Hbest := Lib.hid hbest
    have cn := below_cell hb C0.out.1
    have cs := below_cell hb C0.out.2
    by_cases hlt : i < P
    · have hFew : Few i := by show i < _; omega
      have q1 := op_shr i s
      have q2 := op_bit (v := s) hFew
      have q3 := op_shr i t
      have q4 := op_bit (v := t) hFew
      clear hb hbest
      by_cases hvs : i.testBit s = true
      · rw [bit_one hvs] at q2
        by_cases hvt : i.testBit t = true
        · rw [bit_one hvt] at q4
          have Hv := Lib.hid hvt
          clear hvs hvt hFew
          go_wp2
          go_roundg (P - (i + 1))
          case measure => go_light; omega
          case rel => exact ⟨i + 1, b, by omega, rfl, by go_num, rfl, Hbest.out.skip (fun h => by rw [Hv.out] at h; exact absurd h.2 (by simp)), Hb.out⟩
        · have hvt' : i.testBit t = false := by simpa using hvt
          rw [bit_zero hvt'] at q4
          have Hvs := Lib.hid hvs; have Hvt := Lib.hid hvt'
          clear hvs hvt hvt' hFew
          go_wp2_with fail
          refine (cutOf_any l ws N i _ _ _ (He.out.below Hb.out) (Hw.out.below Hb.out) Hlen.out hN (by omega) hl Hok.out Hz.out).mono ?_
          rintro e w2 ⟨rfl, hb2⟩
          have Hb2 := Lib.hid (Hb.out.trans (hb2.mono Hb.out.size))
          generalize hcc : capB l ws i l.length = c at *
          have Hcc := Lib.hid hcc
          clear hb2 hcc cn cs
          by_cases hb0 : b < 0
          · have Hb0 := Lib.hid hb0
            go_wp2
            go_roundg (P - (i + 1))
            case measure => go_light; omega
            case rel => exact ⟨i + 1, _, by omega, rfl, by go_num, rfl, by rw [← Hcc.out]; exact Hbest.out.take Hvs.out Hvt.out (Or.inl Hb0.out), Hb2.out⟩
          · by_cases hcb : (c : Int) < b
            · have Hcb := Lib.hid hcb
              go_wp2
              go_roundg (P - (i + 1))
              case measure => go_light; omega
              case rel => exact ⟨i + 1, _, by omega, rfl, by go_num, rfl, by rw [← Hcc.out]; exact Hbest.out.take Hvs.out Hvt.out (Or.inr (by rw [Hcc.out]; exact Hcb.out)), Hb2.out⟩
            · have Hcb := Lib.hid hcb; have Hb0 := Lib.hid hb0
              go_wp2
              go_roundg (P - (i + 1))
              case measure => go_light; omega
              case rel => exact ⟨i + 1, b, by omega, rfl, by go_num, rfl, Hbest.out.stay (by have := Hb0.out; omega) (by rw [Hcc.out]; have := Hcb.out; omega), Hb2.out⟩
      · have hvs' : i.testBit s = false := by simpa using hvs
        rw [bit_zero hvs'] at q2
        have Hv := Lib.hid hvs'
        clear hvs hvs' hFew
        go_wp2
        go_roundg (P - (i + 1))
        case measure => go_light; omega
        case rel => exact ⟨i + 1, b, by omega, rfl, by go_num, rfl, Hbest.out.skip (fun h => by rw [Hv.out] at h; exact absurd h.1 (by simp)), Hb.out⟩
    · obtain rfl : P = i := by omega
      obtain ⟨m', rfl, hm'⟩ := BestS.done (N := N) (by rw [hP]; exact hbest) (by omega) hs ht Hst.out Hok.out
      obtain rfl := hm'.uniq Hm.out
      clear hb hbest hm' Hbest
      go_wp2
      go_ret
      exact ⟨rfl, Hb1.out.trans (Hb.out.mono Hb1.out.size)⟩

end Go.Proofs.Ytfflnpcbpcldeaa
