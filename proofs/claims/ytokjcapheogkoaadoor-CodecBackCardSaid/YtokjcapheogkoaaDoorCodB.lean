/- arborlaw.codecBegun. -/
import Derived.Test.YtokjcapheogkoaaDoorPackW
import Derived.Test.YtokjcapheogkoaaDoorPrintW
import Derived.Test.YtokjcapheogkoaaDoorFVar
namespace Go.Proofs.YtokjcapheogkoaaDoor
open Go Go.RowKit

def cbL : List (Int × Int) := [(1, 0), (2, 1)]
theorem cb_spec : GraphSpec 3 cbL 0 0 := by
  refine Or.inr ⟨by unfold TooBig cbL; simp, Or.inr ⟨fun j hj => ?_, rfl, rfl⟩⟩
  have hj2 : j < 2 := hj
  match j, hj2 with
  | 0, _ => exact ⟨by unfold EndsOk cbL; decide, by decide, by decide⟩
  | 1, _ => exact ⟨by unfold EndsOk cbL; decide, by decide, by decide⟩
theorem cb_pack : packS 3 (adj cbL) = ⟨#[66, 103]⟩ := by
  unfold packS
  congr 1
theorem cb_prs : prsTo 3 (adj cbL) 3 = [(0, 1), (1, 2)] := by decide +kernel
theorem dig1 {k : Nat} (h : k < 10) : Lib.decDigits k = [UInt8.ofNat (48 + k)] := by rw [Lib.decDigits, dif_pos h]
theorem cb_text : bA (txtN 3 (prsTo 3 (adj cbL) 3)) = ⟨#[51, 58, 32, 48, 45, 49, 32, 49, 45, 50, 10]⟩ := by
  rw [cb_prs]
  unfold txtN txtE
  simp only [List.flatMap_cons, List.flatMap_nil]
  rw [dig1 (by decide), dig1 (by decide), dig1 (by decide), dig1 (by decide)]
  rfl

set_option maxHeartbeats 1600000 in
set_option maxRecDepth 100000 in
theorem codecBegun_any (w : World) (hT : Pow10 w) : Calls Tryd.prog 10 #[] w fun e w' => e = .returned (.bool true) ∧ Below w.heap.size w w' := by
  have HT := Lib.hid hT
  clear hT
  have hE0 : IsEdges (w.alloc (Obj.cells #[.int .i64 1, .int .i64 0, .int .i64 2, .int .i64 1] 40)) (.slice (some ⟨w.heap.size, 0, none⟩) 2 2) cbL := by
    refine ⟨_, 2, w.heap.size, 0, rfl, Nat.le_refl _, by omega, fun _ => rfl, by simp, fun j hj => ?_⟩
    have hj2 : j < 2 := hj
    match j, hj2 with
    | 0, _ => exact ⟨by rw [World.cell?_alloc_at _ _ _ _ rfl]; rfl, by rw [World.cell?_alloc_at _ _ _ _ rfl]; rfl⟩
    | 1, _ => exact ⟨by rw [World.cell?_alloc_at _ _ _ _ rfl]; rfl, by rw [World.cell?_alloc_at _ _ _ _ rfl]; rfl⟩
  have hb1 := below2 w (Obj.cells #[.int .i64 1, .int .i64 0, .int .i64 2, .int .i64 1] 40) (Obj.cells #[.int .i64 3, .slice (some ⟨w.heap.size, 0, none⟩) 2 2] 24)
  have c0 := two_cells (w.alloc (Obj.cells #[.int .i64 1, .int .i64 0, .int .i64 2, .int .i64 1] 40)) (.int .i64 3) (.slice (some ⟨w.heap.size, 0, none⟩) 2 2) 24
  have hE1 := hE0.below (below1 _ (Obj.cells #[.int .i64 3, .slice (some ⟨w.heap.size, 0, none⟩) 2 2] 24))
  rw [World.size_alloc] at c0
  obtain ⟨cn, cs⟩ := c0
  have HE1 := Lib.hid hE1; have Hb1 := Lib.hid hb1
  clear hE0 hE1 hb1
  go_enter Tryd.func10, Tryd.ntmps10
  go_upto_region 2 with fail
  generalize (w.alloc (Obj.cells #[.int .i64 1, .int .i64 0, .int .i64 2, .int .i64 1] 40)).alloc (Obj.cells #[.int .i64 3, .slice (some ⟨w.heap.size, 0, none⟩) 2 2] 24) = w1 at *
  go_wp2_with fail
  refine (pack_any 3 cbL _ w1 HE1.out).mono ?_
  rintro e w2 ⟨c, a, s, rfl, hsp, hb2, hres⟩
  obtain ⟨e1, e2⟩ := hsp.uniq cb_spec
  subst e1; subst e2
  obtain rfl : s = ⟨#[66, 103]⟩ := by
    rcases hres with ⟨h, -⟩ | ⟨-, -, N, h1, h2⟩
    · exact absurd rfl h
    · obtain rfl : N = 3 := by omega
      rw [h2, cb_pack]
  have hb3 := upp hb2 (below1 w2 (Obj.cells #[.int .i64 0, .int .i64 0] 27))
  have F3 := Lib.hid (FV.new w2 0 0)
  have cn3 := below_cell hb3 cn
  have cs3 := below_cell hb3 cs
  have HE3 := Lib.hid (HE1.out.below hb3)
  have Hb3 := Lib.hid (upp Hb1.out hb3)
  clear hsp hb2 hres hb3 cn cs
  go_upto_region 3 with fail
  generalize w2.alloc (Obj.cells #[.int .i64 0, .int .i64 0] 27) = w3 at *
  generalize w2.heap.size = F at *
  go_wp2_with fail
  refine (print_any 3 cbL _ w3 HE3.out (HT.out.below Hb3.out)).mono ?_
  rintro e w4 ⟨c, a, s, rfl, hsp, hb4, hres⟩
  obtain ⟨e1, e2⟩ := hsp.uniq cb_spec
  subst e1; subst e2
  obtain rfl : s = ⟨#[51, 58, 32, 48, 45, 49, 32, 49, 45, 50, 10]⟩ := by
    rcases hres with ⟨h, -⟩ | ⟨-, -, N, h1, h2⟩
    · exact absurd rfl h
    · obtain rfl : N = 3 := by omega
      rw [h2, cb_text]
  have hb5 := upp hb4 (below1 w4 (Obj.cells #[.int .i64 0, .int .i64 0] 27))
  have G5 := Lib.hid (FV.new w4 0 0)
  have F5 := Lib.hid (F3.out.below hb5)
  have Hb5 := Lib.hid (upp Hb3.out hb5)
  clear hsp hb4 hres hb5 cn3 cs3
  go_upto_region 4 with fail
  generalize w4.alloc (Obj.cells #[.int .i64 0, .int .i64 0] 27) = w5 at *
  generalize w4.heap.size = E at *
  obtain ⟨f0, f1, -, -, -⟩ := F5.out.facts
  obtain ⟨g0, g1, -, -, -⟩ := G5.out.facts
  go_wp2
  go_ret
  exact ⟨rfl, Hb5.out⟩

end Go.Proofs.YtokjcapheogkoaaDoor
