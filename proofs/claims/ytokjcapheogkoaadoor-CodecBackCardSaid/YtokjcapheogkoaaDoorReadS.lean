/- What a text tells, and what a reading of it finds in memory. -/
import Derived.Test.YtokjcapheogkoaaDoorFigW
import Derived.Test.YtokjcapheogkoaaDoorComplS
import Derived.Test.YtokjcapheogkoaaDoorPackW
import Derived.Test.YtokjcapheogkoaaDoorPA
import Derived.Test.YtokjcapheogkoaaDoorOf
namespace Go.Proofs.YtokjcapheogkoaaDoor
open Go Go.RowKit

/-- The graph and the fault that a text tells. -/
def RSpec (b : List UInt8) (N : Nat) (G : List (Int × Int)) (c a : Int) : Prop :=
  (20000 < b.length ∧ N = 0 ∧ G = [] ∧ c = 2 ∧ a = 0) ∨
  (b.length ≤ 20000 ∧ ∃ p : Nat, readG b = .inl p ∧ N = 0 ∧ G = [] ∧ c = 1 ∧ a = p) ∨
  (b.length ≤ 20000 ∧ ∃ L, readG b = .inr L ∧ GraphSpec (numV b 0 : Int) L c a ∧ ((c ≠ 0 ∧ N = 0 ∧ G = []) ∨ (c = 0 ∧ N = numV b 0 ∧ G = prsTo (numV b 0) (adj L) (numV b 0))))
theorem RSpec.uniq {b : List UInt8} {N N' : Nat} {G G' : List (Int × Int)} {c a c' a' : Int} (h : RSpec b N G c a) (h' : RSpec b N' G' c' a') : N = N' ∧ G = G' ∧ c = c' ∧ a = a' := by
  rcases h with ⟨h0, rfl, rfl, rfl, rfl⟩ | ⟨h0, p, h1, rfl, rfl, rfl, rfl⟩ | ⟨h0, L, h1, h2, h3⟩ <;>
  rcases h' with ⟨k0, rfl, rfl, rfl, rfl⟩ | ⟨k0, p', k1, rfl, rfl, rfl, rfl⟩ | ⟨k0, L', k1, k2, k3⟩
  · exact ⟨rfl, rfl, rfl, rfl⟩
  · omega
  · omega
  · omega
  · rw [h1] at k1; cases k1; exact ⟨rfl, rfl, rfl, rfl⟩
  · rw [h1] at k1; cases k1
  · omega
  · rw [h1] at k1; cases k1
  · rw [h1] at k1
    cases k1
    obtain ⟨rfl, rfl⟩ := h2.uniq k2
    rcases h3 with ⟨h4, rfl, rfl⟩ | ⟨h4, rfl, rfl⟩ <;> rcases k3 with ⟨k4, rfl, rfl⟩ | ⟨k4, rfl, rfl⟩
    · exact ⟨rfl, rfl, rfl, rfl⟩
    · exact absurd k4 h4
    · exact absurd h4 k4
    · exact ⟨rfl, rfl, rfl, rfl⟩

/-- A reading under way: a graph of one's own at G, another variable at X, the fault. -/
structure PSt (w wr : World) (G X : Nat) (TX : TypeId) (fx : Nat → Value) (n : Int) (v : Value) (L : List (Int × Int)) : Prop where
  hb : Below w.heap.size w wr
  out : wr.rowIs G 24 2 (fun i => if i = 0 then .int .i64 n else v)
  ox : wr.rowIs X TX 2 fx
  rf : wr.rowIs (w.heap.size + 1) 27 2 (fun i => if i = 0 then .int .i64 0 else .int .i64 0)
  own : OwnE wr (w.heap.size + 3) v L
  hG : w.heap.size ≤ G ∧ G < w.heap.size + 3 ∧ G ≠ w.heap.size + 1
  hX : w.heap.size ≤ X ∧ X < w.heap.size + 3 ∧ X ≠ w.heap.size + 1 ∧ G ≠ X
section
variable {w wr : World} {G X : Nat} {TX : TypeId} {fx : Nat → Value} {n : Int} {v : Value} {L : List (Int × Int)} (h : PSt w wr G X TX fx n v L)
include h
theorem PSt.below {w' : World} (hb : Below wr.heap.size wr w') : PSt w w' G X TX fx n v L :=
  ⟨h.hb.trans (hb.mono h.hb.size), h.out.of_block (hb.block _ h.out.lt), h.ox.of_block (hb.block _ h.ox.lt), h.rf.of_block (hb.block _ h.rf.lt), h.own.below hb, h.hG, h.hX⟩
theorem PSt.hlo : ∀ g, v.ownBlock = some g → w.heap.size + 3 ≤ g ∧ g < wr.heap.size := fun g e => World.ownsRow.lt h.own g e
theorem PSt.put {w2 : World} {v2 : Value} {L2 : List (Int × Int)} (h2 : OwnE w2 (w.heap.size + 3) v2 L2) (hg : wr.grownBy w2 v.ownBlock) :
    PSt w (w2.setCell ⟨G, 1, none⟩ v2) G X TX fx n v2 L2 := by
  have hlo := h.hlo
  obtain ⟨hG1, hG2, hG3⟩ := h.hG
  obtain ⟨hX1, hX2, hX3, hX4⟩ := h.hX
  have blk : ∀ q, q < w.heap.size + 3 → q < wr.heap.size → w2.heap[q]? = wr.heap[q]? := fun q hq hl => hg.block q hl (fun e => by have := (hlo q e.symm).1; omega)
  refine ⟨((h.hb.grown hg h.hb.size (fun g e => by have := (hlo g e).1; omega))).setCell hG1 _, ?_, ?_, ?_, h2.set hG2 _ _, h.hG, h.hX⟩
  · refine ((h.out.of_block (blk _ hG2 h.out.lt)).set 1 _).congr fun i hi => ?_
    by_cases e : i = 1
    · subst e; simp
    · have : i = 0 := by omega
      subst this; simp
  · exact (h.ox.of_block (blk _ hX2 h.ox.lt)).setOther (Ne.symm hX4) _
  · exact (h.rf.of_block (blk _ (by omega) h.rf.lt)).setOther (Ne.symm hG3) _
theorem PSt.after {w2 : World} (hg : wr.grownBy w2 v.ownBlock) : w2.rowIs G 24 2 (fun i => if i = 0 then .int .i64 n else v) := by
  have hlo := h.hlo
  have := h.hG
  exact h.out.of_block (hg.block _ h.out.lt (fun e => by have := (hlo _ e.symm).1; omega))
theorem PSt.putN (m : Int) : PSt w (wr.setCell ⟨G, 0, none⟩ (.int .i64 m)) G X TX fx m v L := by
  obtain ⟨hG1, hG2, hG3⟩ := h.hG
  obtain ⟨hX1, hX2, hX3, hX4⟩ := h.hX
  refine ⟨h.hb.setCell hG1 _, (h.out.set 0 _).congr fun i hi => ?_, h.ox.setOther (Ne.symm hX4) _, h.rf.setOther (Ne.symm hG3) _, h.own.set hG2 _ _, h.hG, h.hX⟩
  by_cases e : i = 1
  · subst e; simp
  · have : i = 0 := by omega
    subst this; simp
/-- The other variable turns. -/
theorem PSt.turn {w' : World} {fx' : Nat → Value} (hc : Chg (· = X) wr w') (hx : w'.rowIs X TX 2 fx') : PSt w w' G X TX fx' n v L := by
  obtain ⟨hG1, hG2, hG3⟩ := h.hG
  obtain ⟨hX1, hX2, hX3, hX4⟩ := h.hX
  refine ⟨h.hb.trans (hc.toBelow h.hb.size fun k hk e => by omega), hc.rowIs h.out hX4, hx, hc.rowIs h.rf (by omega), ?_, h.hG, h.hX⟩
  refine World.ownsRow.kept (row := some X) h.own ⟨hc.os, hc.tape, hc.output, hc.size, fun k hk hne => hc.block k hk (fun e => hne (by rw [e]))⟩ (Or.inr fun e => ?_)
  have := (h.hlo X e).1
  omega
/-- The two results. -/
theorem PSt.ends (hGX : G = w.heap.size ∨ X = w.heap.size) : ∃ T f, wr.rowIs w.heap.size T 2 f := by
  rcases hGX with e | e
  · exact ⟨_, _, e ▸ h.out⟩
  · exact ⟨_, _, e ▸ h.ox⟩
end

end Go.Proofs.YtokjcapheogkoaaDoor
