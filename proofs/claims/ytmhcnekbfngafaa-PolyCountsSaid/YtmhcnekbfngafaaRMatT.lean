/- arborref.Matchings. -/
import Derived.Test.YtmhcnekbfngafaaRMatW
import Derived.Deep.RegionWith
namespace Go.Proofs.Ytmhcnekbfngafaa
open Go Go.RowKit

theorem rmat_start {N U OO : Nat} (hN : N ≤ 100) {l : List (Int × Int)} {w W : World} {sv : Value} (hb : Below w.heap.size w W) (he : IsEdges w sv l) (hU : w.heap.size ≤ U) (hO : w.heap.size ≤ OO) (hE : EndsN N l) (hl : l.length ≤ 14)
    (hrow : W.rowIs U 4 N (rb fun _ => false)) (hc : W.cell? ⟨OO, 0, none⟩ = some (.slice none 0 0)) (hf : W.frozen? ⟨OO, 0, none⟩ = false) (hne : U ≠ OO) :
    Calls Try.prog 57 #[sv, .slice (some ⟨U, 0, none⟩) N N, .int .i64 0, .pointer (some ⟨OO, 0, none⟩)] W fun e w' => e = .returned (.tuple #[]) ∧
      ∃ cv, w'.cell? ⟨OO, 0, none⟩ = some cv ∧ IsInts w' cv (mRef (elN l) (fun u => decide (u < N)) 0 []) ∧ Below w.heap.size w w' := by
  have hlO := World.block_lt_of_cell? _ _ hc
  simp only at hlO
  have up : ∀ w', Chg (fun q => q = U ∨ q = OO) W w' → Below w.heap.size w w' := fun w' h' => hb.trans (h'.toBelow hb.size fun k hk e => by rcases e with e | e <;> omega)
  have h2 : 2 ^ l.length ≤ 16384 := Nat.pow_le_pow_right (n := 2) (by decide) hl
  refine (rmat_any hN (w0 := W) l (fun u => decide (u < N)) 0 [] sv W (fun w' h' => he.below (up w' h')) hE hl (by omega) (by simp) (fun j => by
    have h3 : ((2 ^ l.length : Nat) : Int) ≤ ((16384 : Nat) : Int) := Int.ofNat_le.2 h2
    simp only [List.getD_nil]
    omega) ⟨row_rb hrow fun u hu => by simp [hu], ⟨_, hc, World.ownsRow_nil _ _ _ _⟩, hf, Chg.refl _ _, hlO, hrow.lt, hne⟩).mono ?_
  rintro e w' ⟨rfl, hr⟩
  obtain ⟨cv, h1, h2⟩ := hr.cel
  exact ⟨rfl, cv, h1, IsInts.owned h2, up w' hr.ch⟩

set_option maxHeartbeats 3200000 in
set_option maxRecDepth 100000 in
theorem rmatTop_any {N : Nat} (hN : N ≤ 100) (l : List (Int × Int)) (sv : Value) (w : World) (h : IsEdges w sv l) (hE : EndsN N l) (hl : l.length ≤ 14) :
    Calls Try.prog 25 #[.agg #[.int .i64 (N : Int), sv]] w fun e w' => ∃ v, e = .returned v ∧ IsInts w' v (mRef (elN l) (fun u => decide (u < N)) 0 []) ∧ Below w.heap.size w w' := by
  have He := Lib.hid h; have HE := Lib.hid hE
  have hmk := run_make_row' (P := Try.prog) 60 4 (.bool false) 1 Try.underlying60 info4 rfl .i64 .i64 N (by omega) (by omega)
  have c2 := two_cells w (.int .i64 (N : Int)) sv 24
  clear h hE
  go_enter Try.func25, Try.ntmps25
  go_upto_region 2 with fail
  have hb2 := below2 w (Obj.cells #[.int .i64 (N : Int), sv] 24) (Obj.cells #[.slice none 0 0] 39)
  have hb1 := below1 (w.alloc (Obj.cells #[.int .i64 (N : Int), sv] 24)) (Obj.cells #[.slice none 0 0] 39)
  have cn := below_cell hb1 c2.1
  have cs := below_cell hb1 c2.2
  have co : ((w.alloc (Obj.cells #[.int .i64 (N : Int), sv] 24)).alloc (Obj.cells #[.slice none 0 0] 39)).cell? ⟨w.heap.size + 1, 0, none⟩ = some (.slice none 0 0) := by
    rw [World.cell?_alloc_at _ _ _ _ (by simp)]; rfl
  have hsz : ((w.alloc (Obj.cells #[.int .i64 (N : Int), sv] 24)).alloc (Obj.cells #[.slice none 0 0] 39)).heap.size = w.heap.size + 1 + 1 := by simp
  have fo : ((w.alloc (Obj.cells #[.int .i64 (N : Int), sv] 24)).alloc (Obj.cells #[.slice none 0 0] 39)).frozen? ⟨w.heap.size + 1, 0, none⟩ = false := by
    have r1 := World.rowIs_alloc (w.alloc (Obj.cells #[.int .i64 (N : Int), sv] 24)) #[.slice none 0 0] 39 (fun _ => .slice none 0 0) (fun i hi => by
      match i, hi with
      | 0, _ => rfl)
    have r2 := r1.frozen 0
    rw [World.size_alloc] at r2
    exact r2
  clear c2 hb1
  generalize (w.alloc (Obj.cells #[.int .i64 (N : Int), sv] 24)).alloc (Obj.cells #[.slice none 0 0] 39) = w2 at *
  have Hb2 := Lib.hid hb2; have Co := Lib.hid co; have Fo := Lib.hid fo
  have HS := Lib.hid (fun W (hW : Below w2.heap.size w2 W) (hr : W.rowIs (w.heap.size + 1 + 1) 4 N (rb fun _ => false)) => rmat_start hN (OO := w.heap.size + 1) (Hb2.out.trans (hW.mono Hb2.out.size)) He.out (by omega) (Nat.le_succ _) HE.out hl hr (below_cell hW Co.out) (by
    rw [World.frozen?_of_block (w := w2) (hW.block (w.heap.size + 1) (by omega))]; exact Fo.out) (by omega))
  have HR := Lib.hid (show (w2.alloc (Obj.cells (madeCells #[Value.bool false] N) 4)).drew.rowIs (w.heap.size + 1 + 1) 4 N (rb fun _ => false) by
    have h := World.rowIs_made w2 (.bool false) N 4
    rw [hsz] at h
    exact h)
  have HB := Lib.hid (below1 w2 (Obj.cells (madeCells #[Value.bool false] N) 4)).drew
  clear hb2 co fo
  go_cut [9] from 4 to 9 (fun s9 wx => ∃ cv, wx.cell? ⟨w.heap.size + 1, 0, none⟩ = some cv ∧ IsInts wx cv (mRef (elN l) (fun u => decide (u < N)) 0 []) ∧ Below w.heap.size w wx)
  case first =>
    go_region_with (go_at_call 57; refine (HS.out _ HB.out HR.out).mono ?_; rintro e w5 ⟨rfl, cv, hcv, hi, hb⟩)
    all_goals (go_wp2_with fail; go_meet; exact ⟨cv, hcv, hi, hb⟩)
  case rest =>
    obtain ⟨cv, hcv, hi, hb⟩ := hcut
    have Hi := Lib.hid hi; have Hb := Lib.hid hb
    clear hi hb
    go_wp2
    go_ret
    exact ⟨_, rfl, Hi.out, Hb.out⟩

end Go.Proofs.Ytmhcnekbfngafaa
