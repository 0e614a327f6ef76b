/- What arborlaw.CodecBack asks of what is packed, printed, unpacked and read: plain. -/
import Derived.Test.YtokjcapheogkoaaDoorBP
import Derived.Test.YtokjcapheogkoaaDoorReadS
import Derived.Test.YtokjcapheogkoaaDoorFormP
namespace Go.Proofs.YtokjcapheogkoaaDoor
open Go Go.RowKit

theorem back_uG {N : Nat} {l : List (Int × Int)} (hg : GoodGraph (N : Int) l) : uG (u8L (packN N (adj l))) = (N, prsTo N (adj l) N, 0, 0) :=
  pack_back (by have := hg.hi; omega) (by rw [form_length hg]; exact hg.len)
theorem back_text {N : Nat} {l : List (Int × Int)} (hg : GoodGraph (N : Int) l) : RSpec (txtN N (prsTo N (adj l) N)) N (prsTo N (adj l) N) 0 0 := by
  have hN : N ≤ 100 := by have := hg.hi; omega
  have hlen := form_length hg
  have h1000 : (prsTo N (adj l) N).length ≤ 1000 := by rw [hlen]; exact hg.len
  have hends := prs_ends (N := N) (p := adj l)
  have few : ∀ e ∈ prsTo N (adj l) N, e.1.toNat < 1000 ∧ e.2.toNat < 1000 := fun e he => by
    have := hends e he; omega
  obtain ⟨h1, h2⟩ := text_back (N := N) (L := prsTo N (adj l) N) (by omega) fun e he => ⟨by have := hends e he; omega, by have := hends e he; omega, (few e he).1, (few e he).2⟩
  have h3 := txtL_few few
  have h4 := digits_few N (by omega)
  refine Or.inr (Or.inr ⟨?_, prsTo N (adj l) N, h1, ?_, Or.inr ⟨rfl, h2.symm, ?_⟩⟩)
  · unfold txtN
    simp only [List.length_append, List.length_cons, List.length_nil]
    omega
  · rw [h2]
    exact (good_prs hN h1000).spec
  · rw [h2]
    exact prsTo_congr (fun i j hij hj => (adj_prs hij hj).symm) _
/-- A code that is read is whole. -/
theorem uG_yes {b : List UInt8} {N : Nat} {L : List (Int × Int)} {a : Int} (h : uG b = (N, L, 0, a)) : U6 b ∧ N = nU b ∧ L = edgesU b ∧ a = 0 ∧ (edgesU b).length ≤ 1000 := by
  unfold uG at h
  split at h
  · simp at h
  split at h
  · simp at h
  split at h
  · simp at h
  split at h
  · simp at h
  split at h
  · simp at h
  split at h
  · simp at h
  split at h
  · simp at h
  split at h
  · simp at h
  rename_i h1 h2 h3 h4 h5 h6 h7 h8
  simp only [Prod.mk.injEq] at h
  obtain ⟨rfl, rfl, -, rfl⟩ := h
  refine ⟨{ len := by omega, ok := fun i hi => ?_, hd := h3, form := h4, few := h5, size := by simpa using h6, pad := h7 }, rfl, rfl, rfl, by omega⟩
  refine Classical.byContradiction fun hn => h2 ?_
  obtain ⟨k, hk, ⟨hk1, hk2⟩, hk3⟩ := least_nat (p := fun i => i < b.length ∧ ¬ okB (bt b i)) i ⟨hi, hn⟩
  exact ⟨k, hk1, hk2, fun j hj => Classical.byContradiction fun hb => hk3 j hj ⟨by omega, hb⟩⟩
theorem edgesU_adj {b : List UInt8} {i j : Nat} (hij : i < j) (hj : j < nU b) : adj (edgesU b) i j = gU b i j := adj_prs hij hj
/-- Of a code that is read: the graph is good, and its code is the code. -/
theorem back_code {b : List UInt8} {N : Nat} {L : List (Int × Int)} {a : Int} (h : uG b = (N, L, 0, a)) : GoodGraph (N : Int) L ∧ u8L (packN N (adj L)) = b := by
  obtain ⟨h1, rfl, rfl, rfl, h2⟩ := uG_yes h
  exact ⟨good_prs (by have := h1.few; omega) h2, back_pack h1 fun i j hij hj => edgesU_adj hij hj⟩

end Go.Proofs.YtokjcapheogkoaaDoor
