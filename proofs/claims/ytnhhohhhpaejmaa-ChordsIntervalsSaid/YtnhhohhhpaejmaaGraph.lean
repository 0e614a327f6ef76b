/- Graphs as values: lists of edges. arborref.Has. -/
import Derived.Test.YtnhhohhhpaejmaaBase0
import Derived.Test.YtnhhohhhpaejmaaPA
import Derived.Deep.LoopGhost
import Derived.BigQuiet
import Derived.BigRegion
import Derived.Deep.DeepMust
import Derived.Deep.Light
import Derived.Deep.Draws
import Derived.Deep.DeepCutAuto
import Derived.WalkSmall
import Derived.RegionTactic
import Derived.WalkLawsBesides
import Derived.Deep.QuietTactic
import Derived.Deep.RegionHeld3
namespace Go.Proofs.Ytnhhohhhpaejmaa
open Go.RowKit

/-- Slice value v reads as these edges. -/
def IsEdges (w : World) (v : Value) (l : List (Int × Int)) : Prop :=
  ∃ (a : Option Addr) (cap b o : Nat), v = .slice a l.length cap ∧ l.length ≤ cap ∧ cap ≤ 9223372036854775807 ∧ (0 < l.length → a = some ⟨b, o, none⟩) ∧
    (a = none → cap = 0) ∧ ∀ j, j < l.length → w.cell? ⟨b, o + j * 2, none⟩ = some (.int .i64 (l.getD j (0, 0)).1) ∧ w.cell? ⟨b, o + j * 2 + 1, none⟩ = some (.int .i64 (l.getD j (0, 0)).2)

theorem IsEdges.nil (w : World) : IsEdges w (.slice none 0 0) [] := ⟨none, 0, 0, 0, rfl, Nat.le_refl _, by omega, by simp, by simp, by simp⟩
theorem IsEdges.below {w w' : World} {v : Value} {l : List (Int × Int)} (h : IsEdges w v l) (hb : Below w.heap.size w w') : IsEdges w' v l := by
  obtain ⟨a, cap, b, o, h1, h2, h3, h4, h4', h5⟩ := h
  exact ⟨a, cap, b, o, h1, h2, h3, h4, h4', fun j hj => ⟨below_cell hb (h5 j hj).1, below_cell hb (h5 j hj).2⟩⟩
theorem IsEdges.drewN {w : World} {v : Value} {l : List (Int × Int)} (h : IsEdges w v l) (n : Nat) : IsEdges (w.drewN n) v l := h.below (Below.drewN' (Below.refl _ _) n)
theorem IsEdges.take {w : World} {a : Option Addr} {n cap : Nat} {l : List (Int × Int)} (h : IsEdges w (.slice a n cap) l) {k : Nat} (hk : k ≤ n) : IsEdges w (.slice a k cap) (l.take k) := by
  obtain ⟨a', cap', b, o, h1, h2, h3, h4, h4', h5⟩ := h
  simp only [Value.slice.injEq] at h1
  obtain ⟨rfl, rfl, rfl⟩ := h1
  have hl : (l.take k).length = k := by simp; omega
  refine ⟨a, cap, b, o, by rw [hl], by omega, h3, fun hp => h4 (by omega), h4', fun j hj => ?_⟩
  have hj' : j < k := by omega
  have e : (l.take k).getD j (0, 0) = l.getD j (0, 0) := by simp [List.getD, hj']
  rw [e]
  exact h5 j (by omega)

theorem edges_at {w wr : World} {b o k : Nat} {l : List (Int × Int)} (h : ∀ j, j < l.length → w.cell? ⟨b, o + j * 2, none⟩ = some (.int .i64 (l.getD j (0, 0)).1) ∧ w.cell? ⟨b, o + j * 2 + 1, none⟩ = some (.int .i64 (l.getD j (0, 0)).2)) (hb : Below w.heap.size w wr) (hk : k < l.length) :
    ∃ x y, Hid (l.getD k (0, 0) = (x, y)) ∧ wr.cell? ⟨b, o + k * 2, none⟩ = some (.int .i64 x) ∧ wr.cell? ⟨b, o + k * 2 + 1, none⟩ = some (.int .i64 y) :=
  ⟨_, _, rfl, below_cell hb (h k hk).1, below_cell hb (h k hk).2⟩

/-- An edge between two nodes. -/
def Meets (e : Int × Int) (a b : Int) : Prop := (e.1 = a ∧ e.2 = b) ∨ (e.1 = b ∧ e.2 = a)
instance (e : Int × Int) (a b : Int) : Decidable (Meets e a b) := by unfold Meets; infer_instance
/-- Is there one? -/
def hasE (l : List (Int × Int)) (a b : Int) : Bool := l.any fun e => decide (Meets e a b)

theorem hasE_yes {l : List (Int × Int)} {a b : Int} {k : Nat} (hk : k < l.length) (h : Meets (l.getD k (0, 0)) a b) : hasE l a b = true := by
  refine List.any_eq_true.2 ⟨l[k], List.getElem_mem hk, ?_⟩
  simpa [List.getD, hk] using h
theorem hasE_no {l : List (Int × Int)} {a b : Int} (h : ∀ k, k < l.length → ¬ Meets (l.getD k (0, 0)) a b) : hasE l a b = false := by
  refine List.any_eq_false.2 fun e he => ?_
  obtain ⟨k, hk, rfl⟩ := List.mem_iff_getElem.1 he
  have := h k hk
  simpa [List.getD, hk] using this

set_option maxHeartbeats 3200000 in
set_option maxRecDepth 100000 in
theorem has_any (l : List (Int × Int)) (n : Int) (s : Value) (a b : Int) (w : World) (h : IsEdges w s l) :
    Calls Try.prog 28 #[.agg #[.int .i64 n, s], .int .i64 a, .int .i64 b] w fun e w' => e = .returned (.bool (hasE l a b)) ∧ Below w.heap.size w w' := by
  obtain ⟨ad, cap, bb, o, rfl, hcap, hmax, hadr, -, hcell⟩ := h
  have hb1 := below1 w (Obj.cells #[.int .i64 n, .slice ad l.length cap] 24)
  have c0 : (w.alloc (Obj.cells #[.int .i64 n, .slice ad l.length cap] 24)).cell? ⟨w.heap.size, 1, none⟩ = some (.slice ad l.length cap) := by rw [World.cell?_alloc_at _ _ _ _ rfl]; rfl
  have Hb1 := Lib.hid hb1; have C0 := Lib.hid c0
  clear hb1 c0
  go_enter Try.func28, Try.ntmps28
  go_wp2
  generalize w.alloc (Obj.cells #[.int .i64 n, .slice ad l.length cap] 24) = w1 at *
  have hzw : w.heap.size < w1.heap.size := World.block_lt_of_cell? _ _ C0.out
  go_loopg [7] l.length (fun g s7 wr => ∃ k : Nat, k ≤ l.length ∧ g = l.length - k ∧ s7 = .int .i64 k ∧ Below w1.heap.size w1 wr ∧ ∀ j, j < k → ¬ Meets (l.getD j (0, 0)) a b)
  case atStart => exact ⟨0, Nat.zero_le _, rfl, rfl, Below.refl _ _, fun _ h => absurd h (Nat.not_lt_zero _)⟩
  case round =>
    obtain ⟨k, hk, rfl, rfl, hb, hno⟩ := hrel
    have Hno := Lib.hid hno; clear hno
    have c0 := below_cell hb C0.out
    have hzr := hb.size
    by_cases hlt : k < l.length
    · obtain rfl := hadr (by omega)
      obtain ⟨x, y, He, cx, cy⟩ := edges_at hcell (Hb1.out.trans (hb.mono Hb1.out.size)) hlt
      have fin1 := hb.alloc hb.size (Obj.cells #[.int .i64 x, .int .i64 y] 52)
      have fin := Hb1.out.trans (fin1.mono Hb1.out.size)
      have Fin := Lib.hid fin; have Fin1 := Lib.hid fin1
      clear fin fin1 hb hcell hadr
      by_cases h1 : x = a
      · have q1 : (x == a) = true := by simp [h1]
        by_cases h2 : y = b
        · have q2 : (y == b) = true := by simp [h2]
          have H1 := Lib.hid h1; have H2 := Lib.hid h2
          clear h1 h2
          go_wp2
          go_ret
          exact ⟨ret_bool (hasE_yes hlt (by rw [He.out]; exact Or.inl ⟨H1.out, H2.out⟩)).symm, Fin.out⟩
        · have q2 : (y == b) = false := by simp [h2]
          by_cases h3 : x = b
          · have q3 : (x == b) = true := by simp [h3]
            by_cases h4 : y = a
            · have q4 : (y == a) = true := by simp [h4]
              have H1 := Lib.hid h1; have H2 := Lib.hid h2; have H3 := Lib.hid h3; have H4 := Lib.hid h4
              clear h1 h2 h3 h4
              go_wp2
              go_ret
              exact ⟨ret_bool (hasE_yes hlt (by rw [He.out]; exact Or.inr ⟨H3.out, H4.out⟩)).symm, Fin.out⟩
            · have q4 : (y == a) = false := by simp [h4]
              have H1 := Lib.hid h1; have H2 := Lib.hid h2; have H3 := Lib.hid h3; have H4 := Lib.hid h4
              clear h1 h2 h3 h4
              go_wp2
              go_roundg (l.length - (k + 1))
              case measure => go_light; omega
              case rel => exact ⟨k + 1, by omega, rfl, by go_num, Fin1.out, fun j hj => by
                by_cases e : j = k
                · rw [e, He.out]; unfold Meets; have h1 := H1.out; have h2 := H2.out; have h3 := H3.out; have h4 := H4.out; simp only; omega
                · exact Hno.out j (by omega)⟩
          · have q3 : (x == b) = false := by simp [h3]
            have H1 := Lib.hid h1; have H2 := Lib.hid h2; have H3 := Lib.hid h3
            clear h1 h2 h3
            go_wp2
            go_roundg (l.length - (k + 1))
            case measure => go_light; omega
            case rel => exact ⟨k + 1, by omega, rfl, by go_num, Fin1.out, fun j hj => by
              by_cases e : j = k
              · rw [e, He.out]; unfold Meets; have h1 := H1.out; have h2 := H2.out; have h3 := H3.out; simp only; omega
              · exact Hno.out j (by omega)⟩
      · have q1 : (x == a) = false := by simp [h1]
        by_cases h3 : x = b
        · have q3 : (x == b) = true := by simp [h3]
          by_cases h4 : y = a
          · have q4 : (y == a) = true := by simp [h4]
            have H1 := Lib.hid h1; have H3 := Lib.hid h3; have H4 := Lib.hid h4
            clear h1 h3 h4
            go_wp2
            go_ret
            exact ⟨ret_bool (hasE_yes hlt (by rw [He.out]; exact Or.inr ⟨H3.out, H4.out⟩)).symm, Fin.out⟩
          · have q4 : (y == a) = false := by simp [h4]
            have H1 := Lib.hid h1; have H3 := Lib.hid h3; have H4 := Lib.hid h4
            clear h1 h3 h4
            go_wp2
            go_roundg (l.length - (k + 1))
            case measure => go_light; omega
            case rel => exact ⟨k + 1, by omega, rfl, by go_num, Fin1.out, fun j hj => by
              by_cases e : j = k
              · rw [e, He.out]; unfold Meets; have h1 := H1.out; have h3 := H3.out; have h4 := H4.out; simp only; omega
              · exact Hno.out j (by omega)⟩
        · have q3 : (x == b) = false := by simp [h3]
          have H1 := Lib.hid h1; have H3 := Lib.hid h3
          clear h1 h3
          go_wp2
          go_roundg (l.length - (k + 1))
          case measure => go_light; omega
          case rel => exact ⟨k + 1, by omega, rfl, by go_num, Fin1.out, fun j hj => by
            by_cases e : j = k
            · rw [e, He.out]; unfold Meets; have h1 := H1.out; have h3 := H3.out; simp only; omega
            · exact Hno.out j (by omega)⟩
    · obtain rfl : l.length = k := by omega
      have fin := Hb1.out.trans (hb.mono Hb1.out.size)
      have Fin := Lib.hid fin
      clear fin hb hcell hadr
      go_wp2
      go_ret
      exact ⟨ret_bool (hasE_no Hno.out).symm, Fin.out⟩

end Go.Proofs.Ytnhhohhhpaejmaa
