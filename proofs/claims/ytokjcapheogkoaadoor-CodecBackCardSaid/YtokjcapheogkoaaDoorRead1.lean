/- The deferred closure of codec.Read: a fault that was thrown comes back. -/
import Derived.Test.YtokjcapheogkoaaDoorReadsW
import Derived.Defers
import Derived.Recover
namespace Go.Proofs.YtokjcapheogkoaaDoor
open Go Go.RowKit

set_option maxHeartbeats 1600000 in
set_option maxRecDepth 100000 in
theorem catch_idle (p q : Addr) (w : World) :
    CallsD Tryd.prog 33 #[.pointer (some p), .pointer (some q)] .returning w fun e u' w' => e = .returned (.tuple #[]) ∧ u' = .returning ∧ w' = w := by
  refine callsD_of_wpS Tryd.func33 rfl fun c₀ cs hu => ?_
  apply wpS_seq
  apply wpS_region
  simp [wpOpsS, go_sem, recoverD, hu, Tryd.ntmps33, Exit.thenS]
  refine wpS_of_wp ?_
  go_wp2
  cases c₀
  simp_all [bodyPostS, results, Tryd.results33]

set_option maxHeartbeats 1600000 in
set_option maxRecDepth 100000 in
theorem catch_thrown (G F : Nat) (fG fF : Nat → Value) (c a : Int) (w : World) (hG : w.rowIs G 24 2 fG) (hF : w.rowIs F 27 2 fF) (hne : G ≠ F) :
    CallsD Tryd.prog 33 #[.pointer (some ⟨G, 0, none⟩), .pointer (some ⟨F, 0, none⟩)] (.panicking [{ v := .iface 64 (.agg #[.int .i64 c, .int .i64 a]), recovered := false }]) w fun e u' w' =>
      e = .returned (.tuple #[]) ∧ u' = .panicking [{ v := .iface 64 (.agg #[.int .i64 c, .int .i64 a]), recovered := true }] ∧ Chg (fun k => k = G ∨ k = F) w w' ∧
        w'.rowIs G 24 2 (fun i => if i = 0 then .int .i64 0 else .slice none 0 0) ∧ w'.rowIs F 27 2 (fun i => if i = 0 then .int .i64 c else .int .i64 a) := by
  refine callsD_of_wpS Tryd.func33 rfl fun c₀ cs hu => ?_
  have hta : ∀ (x : Value) (W : World), (Instr.typeAssert (.iface 64 x) 20 64 true).run Tryd.prog W = .ok (.tuple #[x, .bool true]) W := fun x W => by kernel_rfl
  rw [show (#[Value.pointer (some ⟨G, 0, none⟩), .pointer (some ⟨F, 0, none⟩)] ++ Array.replicate (Tryd.f33.ntmps - #[Value.pointer (some ⟨G, 0, none⟩), .pointer (some ⟨F, 0, none⟩)].size) undef : Array Value) = #[Value.pointer (some ⟨G, 0, none⟩), .pointer (some ⟨F, 0, none⟩), undef, undef, undef, undef, undef, undef, undef, undef, undef, undef, undef, undef] from by simp [Tryd.ntmps33]]
  apply wpS_seq
  apply wpS_region
  simp [wpOpsS, go_sem, recoverD, hu, Exit.thenS]
  refine wpS_of_wp ?_
  go_wp2
  have R0 := Lib.hid (hG.alloc (Obj.cells #[.int .i64 c, .int .i64 a] 64))
  have R1 := Lib.hid (hF.alloc (Obj.cells #[.int .i64 c, .int .i64 a] 64))
  have Hb := Lib.hid (show Chg (fun k => k = G ∨ k = F) w _ from Chg.ofBelow (below1 w (Obj.cells #[.int .i64 c, .int .i64 a] 64)))
  have e01 := two_cells w (.int .i64 c) (.int .i64 a) 64
  have n1 : G ≠ w.heap.size := by have := hG.lt; omega
  have n2 : F ≠ w.heap.size := by have := hF.lt; omega
  have z0 := R0.out.cell (show 0 < 2 by omega); have z1 := R0.out.cell (show 1 < 2 by omega); have f0 := R0.out.frozen 0; have f1 := R0.out.frozen 1; have l0 := R0.out.lt
  have y0 := R1.out.cell (show 0 < 2 by omega); have y1 := R1.out.cell (show 1 < 2 by omega); have g0 := R1.out.frozen 0; have g1 := R1.out.frozen 1; have l1 := R1.out.lt
  clear hG hF
  generalize w.alloc (Obj.cells #[.int .i64 c, .int .i64 a] 64) = w1 at *
  obtain ⟨e0, e1⟩ := e01
  generalize w.heap.size = E at *
  have Hu := Lib.hid hu
  clear hu
  go_region_held3 (fun w' => w'.cell? ⟨E, 0, none⟩ = some (.int .i64 c) ∧ w'.cell? ⟨E, 1, none⟩ = some (.int .i64 a)) (go_keep) (fail)
  all_goals
    refine ⟨rfl, _, rfl, .tuple #[], by simp [results, Tryd.results33], rfl, rfl, ?_, ?_, ?_⟩
    · exact ((((Hb.out.setCell (p := ⟨G, 0, none⟩) (fun _ => Or.inl rfl) _).setCell (p := ⟨G, 1, none⟩) (fun _ => Or.inl rfl) _).setCell (p := ⟨F, 0, none⟩) (fun _ => Or.inr rfl) _).setCell (p := ⟨F, 1, none⟩) (fun _ => Or.inr rfl) _).drew
    · exact ((((R0.out.set 0 (.int .i64 0)).set 1 (.slice none 0 0)).setOther (a := ⟨F, 0, none⟩) hne (.int .i64 c)).setOther (a := ⟨F, 1, none⟩) hne (.int .i64 a)).congr fun i hi => by
        match i, hi with
        | 0, _ => rfl
        | 1, _ => rfl
    · exact ((((R1.out.setOther (a := ⟨G, 0, none⟩) (Ne.symm hne) (.int .i64 0)).setOther (a := ⟨G, 1, none⟩) (Ne.symm hne) (.slice none 0 0)).set 0 (.int .i64 c)).set 1 (.int .i64 a)).congr fun i hi => by
        match i, hi with
        | 0, _ => rfl
        | 1, _ => rfl
end Go.Proofs.YtokjcapheogkoaaDoor
