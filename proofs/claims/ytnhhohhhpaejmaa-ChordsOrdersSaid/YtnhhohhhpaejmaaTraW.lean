/- arborref.Transitive: do the arcs go on? -/
import Derived.Test.YtnhhohhhpaejmaaGOwn
import Derived.Test.YtnhhohhhpaejmaaPairEq
import Derived.Deep.LoopGhost
import Derived.Deep.Light
import Derived.BigQuiet
namespace Go.Proofs.Ytnhhohhhpaejmaa
open Go Go.RowKit

/-- Where one arc ends and another begins, there is an arc over both. -/
def GoesAt (l : List (Int × Int)) (i j : Nat) : Prop := (l.getD i (0, 0)).2 = (l.getD j (0, 0)).1 → ((l.getD i (0, 0)).1, (l.getD j (0, 0)).2) ∈ l
def Goes (l : List (Int × Int)) : Prop := ∀ i, i < l.length → ∀ j, j < l.length → GoesAt l i j

theorem found_step {l : List (Int × Int)} {k : Nat} {p r x z : Int} (hf : (false = true) ↔ ∃ q, q < k ∧ l.getD q (0, 0) = (x, z)) (hk : l.getD k (0, 0) = (p, r)) : ((decide (p = x) && decide (r = z)) = true) ↔ ∃ q, q < k + 1 ∧ l.getD q (0, 0) = (x, z) := by
  rw [Bool.and_eq_true, decide_eq_true_eq, decide_eq_true_eq]
  constructor
  · rintro ⟨rfl, rfl⟩; exact ⟨k, by omega, hk⟩
  · rintro ⟨q, hq, e⟩
    by_cases eq : q = k
    · subst eq
      rw [hk] at e
      simpa using e
    · exact absurd (hf.2 ⟨q, by omega, e⟩) (by decide)
set_option maxHeartbeats 3200000 in
set_option maxRecDepth 100000 in
theorem trans_any (l : List (Int × Int)) (v : Value) (w : World) (h : IsEdges w v l) (hl : l.length ≤ 100000) :
    Calls Try.prog 24 #[v] w fun e w' => ∃ b : Bool, e = .returned (.bool b) ∧ (b = true ↔ Goes l) ∧ Below w.heap.size w w' := by
  obtain ⟨ad, cap, bb, o, rfl, hcap, hmax, hadr, -, hcell⟩ := h
  have Hc := Lib.hid hcell
  have Hadr := Lib.hid hadr
  clear hcell hadr
  go_enter Try.func24, Try.ntmps24
  go_wp2
  go_loopg [3] l.length (fun g s3 wr => ∃ (i : Nat), i ≤ l.length ∧ g = l.length - i ∧ s3 = .int .i64 (i : Int) ∧ Below w.heap.size w wr ∧ ∀ p, p < i → ∀ j, j < l.length → GoesAt l p j)
  case atStart => exact ⟨0, Nat.zero_le _, rfl, rfl, Below.refl _ _, fun p hp => absurd hp (Nat.not_lt_zero _)⟩
  case round =>
    obtain ⟨i, hi, rfl, rfl, hb0, hd⟩ := hrel
    have Hb0 := Lib.hid hb0
    clear hb0
    have Hd := Lib.hid hd
    clear hd
    by_cases hlt : i < l.length
    · obtain rfl := Hadr.out (by omega)
      go_wp2
      go_loopg [4] l.length (fun g s4 wr => ∃ (j : Nat), j ≤ l.length ∧ g = l.length - j ∧ s4 = .int .i64 (j : Int) ∧ Below w.heap.size w wr ∧ ∀ q, q < j → GoesAt l i q)
      case atStart => exact ⟨0, Nat.zero_le _, rfl, rfl, Hb0.out, fun p hp => absurd hp (Nat.not_lt_zero _)⟩
      case round =>
        obtain ⟨j, hj, rfl, rfl, hb2, hd2⟩ := hrel
        have Hb2 := Lib.hid hb2
        clear hb2
        have Hd2 := Lib.hid hd2
        clear hd2
        by_cases hjl : j < l.length
        · obtain ⟨i0, i1⟩ := Hc.out i hlt
          obtain ⟨j0, j1⟩ := Hc.out j hjl
          generalize hgi : l.getD i (0, 0) = pi at i0 i1
          generalize hgj : l.getD j (0, 0) = pj at j0 j1
          obtain ⟨x, y⟩ := pi
          obtain ⟨u, z⟩ := pj
          have Hgi := Lib.hid hgi; have Hgj := Lib.hid hgj
          simp only at i0 i1 j0 j1
          clear hgi hgj
          have hb := Hb2.out
          have i0 := below_cell hb i0
          have i1 := below_cell hb i1
          have j0 := below_cell hb j0
          have j1 := below_cell hb j1
          clear hb
          by_cases he : y = u
          · subst he
            go_wp2
            go_quiet (fail)
            go_wp2
            rename_i nq
            go_loopg [5, 6] l.length (fun g s5 s6 wr => ∃ (k : Nat) (f : Bool), k ≤ l.length ∧ g = l.length - k ∧ s5 = .bool f ∧ s6 = .int .i64 (k : Int) ∧ Below w.heap.size w wr ∧ (f = true ↔ ∃ q, q < k ∧ l.getD q (0, 0) = (x, z)))
            case atStart => exact ⟨0, false, Nat.zero_le _, rfl, rfl, rfl, Below.drewN' Hb2.out _, ⟨fun h => (by cases h), fun ⟨q, hq, _⟩ => absurd hq (Nat.not_lt_zero _)⟩⟩
            case round =>
              obtain ⟨k, f, hk, rfl, rfl, rfl, hb3, hf⟩ := hrel
              have Hb3 := Lib.hid hb3
              clear hb3
              have Hf := Lib.hid hf
              clear hf
              by_cases hkl : k < l.length
              · obtain ⟨k0, k1⟩ := Hc.out k hkl
                generalize hgk : l.getD k (0, 0) = pk at k0 k1
                obtain ⟨p, r⟩ := pk
                have Hgk := Lib.hid hgk
                simp only at k0 k1
                clear hgk
                have hb := Hb3.out
                have i0 := below_cell hb (Hc.out i hlt).1
                have j1 := below_cell hb (Hc.out j hjl).2
                rw [Hgi.out] at i0
                rw [Hgj.out] at j1
                simp only at i0 j1
                have k0 := below_cell hb k0
                have k1 := below_cell hb k1
                clear hb
                have hpe := pair_neq p r x z
                cases f
                · go_wp2
                  go_quiet (fail)
                  go_wp2
                  go_roundg (l.length - (k + 1))
                  case measure => go_light; omega
                  case rel => exact ⟨k + 1, _, by omega, rfl, rfl, by go_num, Below.drewN' Hb3.out _, found_step Hf.out Hgk.out⟩
                · go_wp2
                  go_quiet (fail)
                  go_wp2
                  go_roundg (l.length - (k + 1))
                  case measure => go_light; omega
                  case rel => exact ⟨k + 1, true, by omega, rfl, rfl, by go_num, Below.drewN' Hb3.out _, ⟨fun _ => by obtain ⟨q, hq, e⟩ := Hf.out.1 (by trivial); exact ⟨q, by omega, e⟩, fun _ => rfl⟩⟩
              · obtain rfl : k = l.length := by omega
                cases f
                · go_wp2
                  go_ret
                  refine ⟨false, rfl, ⟨fun h => (by cases h), fun hg => ?_⟩, Hb3.out⟩
                  have h1 := hg i hlt j hjl (by rw [Hgi.out, Hgj.out])
                  rw [Hgi.out, Hgj.out] at h1
                  obtain ⟨q, hq, e⟩ := List.getElem_of_mem h1
                  exact Hf.out.2 ⟨q, hq, by rw [List.getD, List.getElem?_eq_getElem hq]; exact e⟩
                · go_wp2
                  go_roundg (l.length - (j + 1))
                  case measure => go_light; omega
                  case rel => exact ⟨j + 1, by omega, rfl, by go_num, Hb3.out, fun q hq => by
                    by_cases e : q = j
                    · subst e
                      intro _
                      rw [Hgi.out, Hgj.out]
                      obtain ⟨q2, hq2, e2⟩ := Hf.out.1 (by trivial)
                      rw [← e2, List.getD, List.getElem?_eq_getElem hq2]
                      exact List.getElem_mem hq2
                    · exact Hd2.out q (by omega)⟩
          · go_wp2
            go_quiet (fail)
            go_wp2
            go_roundg (l.length - (j + 1))
            case measure => go_light; omega
            case rel => exact ⟨j + 1, by omega, rfl, by go_num, Below.drewN' Hb2.out _, fun q hq => by
              by_cases e : q = j
              · subst e
                intro e2
                rw [Hgi.out, Hgj.out] at e2
                exact (he e2).elim
              · exact Hd2.out q (by omega)⟩
        · obtain rfl : j = l.length := by omega
          go_wp2
          go_roundg (l.length - (i + 1))
          case measure => go_light; omega
          case rel => exact ⟨i + 1, by omega, rfl, by go_num, Hb2.out, fun p hp q hq => by
            by_cases e : p = i
            · subst e; exact Hd2.out q hq
            · exact Hd.out p (by omega) q hq⟩
    · obtain rfl : i = l.length := by omega
      go_wp2
      go_ret
      exact ⟨true, rfl, ⟨fun _ p hp q hq => Hd.out p hp q hq, fun _ => rfl⟩, Hb0.out⟩

end Go.Proofs.Ytnhhohhhpaejmaa
