/- The function literal inside parts.ring: the way up from a node. -/
import Derived.Test.YtnhhohhhpaejmaaDoorPD
import Derived.Test.YtnhhohhhpaejmaaDoorPN
namespace Go.Proofs.YtnhhohhhpaejmaaDoor
open Go.RowKit Go.Maps

/-- The i-th node on the way up. -/
def anc (P : Nat → Nat) (v : Nat) : Nat → Nat
  | 0 => v
  | n + 1 => P (anc P v n)
/-- The way up, of n nodes. -/
def way (P : Nat → Nat) (v n : Nat) : List Nat := (List.range n).map (anc P v)
theorem way_len (P : Nat → Nat) (v n : Nat) : (way P v n).length = n := by simp [way]
theorem way_succ (P : Nat → Nat) (v n : Nat) : way P v (n + 1) = way P v n ++ [anc P v n] := by simp [way, List.range_succ]
theorem way_at {P : Nat → Nat} {v n i : Nat} (h : i < n) : (way P v n).getD i 0 = anc P v i := by simp [way, List.getD, h]
/-- A way up of n arcs, as a row of numbers tells it. -/
structure UpOk (N : Nat) (F : Nat → Int) (P : Nat → Nat) (v n : Nat) : Prop where
  lt : ∀ i, i ≤ n → anc P v i < N
  up : ∀ i, i < n → F (anc P v i) = (anc P v (i + 1) : Nat)
  top : F (anc P v n) = -1
/-- What stands when k nodes are listed. -/
def upAt (P : Nat → Nat) (v n k : Nat) : Int := if k ≤ n then ((anc P v k : Nat) : Int) else -1

set_option maxHeartbeats 3200000 in
set_option maxRecDepth 100000 in
theorem rup_any {N : Nat} {F : Nat → Int} {P : Nat → Nat} {x n TB bF : Nat} (w : World) (hn : n < 1000) (hN : N ≤ 100) (hbx : w.cell? ⟨TB, 0, none⟩ = some (.slice (some ⟨bF, 0, none⟩) N N)) (hrow : w.rowIs bF 3 N (ri F)) (h : UpOk N F P x n) :
    Calls Tryd.prog 55 #[.int .i64 (x : Int), .pointer (some ⟨TB, 0, none⟩)] w fun e w' => ∃ v, e = .returned v ∧ w'.ownsRow w.heap.size 3 1 v (n + 1) (nvals (way P x (n + 1))) ∧ Below w.heap.size w w' := by
  have Hbx := Lib.hid hbx; have Hrow := Lib.hid hrow; have Hup := Lib.hid h
  clear hbx hrow h
  go_enter Tryd.func55, Tryd.ntmps55
  go_wp2
  go_loopg [0, 4] (n + 1) (fun g s0 s4 wr => ∃ k : Nat, k ≤ n + 1 ∧ g = n + 1 - k ∧ s0 = .int .i64 (upAt P x n k) ∧ Below w.heap.size w wr ∧ wr.ownsRow w.heap.size 3 1 s4 k (nvals (way P x k)))
  case atStart => exact ⟨0, Nat.zero_le _, rfl, rfl, Below.refl _ _, World.ownsRow_nil _ _ _ _⟩
  case round =>
    obtain ⟨k, hk, rfl, rfl, hb, ho⟩ := hrel
    obtain ⟨aP, cP, rfl⟩ := ownsRow_form ho
    have Hb := Lib.hid hb; have Ho := Lib.hid ho
    have hz := hb.size
    by_cases hkn : k ≤ n
    · have hsu := way_succ P x k
      have hlk := Hup.out.lt k hkn
      have hu0 : upAt P x n k = ((anc P x k : Nat) : Int) := if_pos hkn
      have hnx : F (anc P x k) = upAt P x n (k + 1) := by
        by_cases e : k < n
        · rw [Hup.out.up k e]; exact (if_pos (by omega)).symm
        · obtain rfl : k = n := by omega
          rw [Hup.out.top]; exact (if_neg (by omega)).symm
      rw [hu0]
      generalize anc P x k = u at *
      obtain ⟨nx, enx⟩ : ∃ nx, nx = upAt P x n (k + 1) := ⟨_, rfl⟩
      rw [← enx] at hnx
      have Enx := Lib.hid enx
      clear enx
      have Hsu := Lib.hid hsu
      have hu1 : ¬ ((u : Int) < 0) := by omega
      clear hsu hu0 hb ho
      go_upto_region 3 with (at_builtin; refine wpList_append_has rfl (.tmp 11) (.tmp 13) 29 rfl w.heap.size 3 (.int .i64 0) 8 Tryd.underlying29 info3 rfl (.slice aP k cP) k (nvals (way P x k)) rfl (Ho.out.alloc _) _ 1 (nvals [u]) rfl (HasCells.one _ _ _ rfl) (by omega) (by omega) (by simp; omega) ?_; intro a8 c8 w8 ho8 hg8; have B8 := Lib.hid (((Hb.out.alloc hz (Obj.cells #[.int .i64 (u : Int)] 3))).grown hg8 (by simp; omega) (fun g e => (Ho.out.lt g e).1)); have Ho8 := Lib.hid ho8; clear ho8 hg8)
      have cb := below_cell B8.out Hbx.out
      have cf := (Hrow.out.of_block (B8.out.block bF Hrow.out.lt)).cell hlk
      simp only [ri] at cf
      rw [hnx] at cf
      go_wp2
      go_roundg (n + 1 - (k + 1))
      case measure => go_light; omega
      case rel => exact ⟨k + 1, by omega, rfl, by rw [← Enx.out], B8.out, by rw [Hsu.out]; simpa [nvals, ints] using Ho8.out⟩
    · obtain rfl : k = n + 1 := by omega
      have hu0 : upAt P x n (n + 1) = -1 := if_neg (by omega)
      rw [hu0]
      clear hb ho
      go_wp2
      go_ret
      exact ⟨_, rfl, Ho.out, Hb.out⟩

end Go.Proofs.YtnhhohhhpaejmaaDoor
