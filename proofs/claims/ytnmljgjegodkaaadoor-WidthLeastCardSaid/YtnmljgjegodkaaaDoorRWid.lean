/- arborref.Width: the least that comes of any order. -/
import Derived.Test.YtnmljgjegodkaaaDoorWCls
namespace Go.Proofs.YtnmljgjegodkaaaDoor
open Go Go.RowKit

theorem ints_back {n : Nat} {l : List Int} (h : PartW n l) : ints (l.map Int.toNat) = l := by
  unfold ints
  rw [List.map_map]
  refine List.ext_getElem (by simp) fun i h1 h2 => ?_
  have h3 := (h.1 i h2).1
  rw [List.getD, List.getElem?_eq_getElem h2] at h3
  simp only [List.getElem_map, Function.comp]
  exact Int.toNat_of_nonneg h3
theorem PartW.ord {n : Nat} {l : List Int} (h : PartW n l) (hl : l.length = n) : Ord n (l.map Int.toNat) where
  len := by simp [hl]
  nd := by
    rw [List.nodup_iff_pairwise_ne, List.pairwise_iff_getElem]
    intro i j hi hj hij e
    rw [List.length_map] at hi hj
    simp only [List.getElem_map] at e
    have h1 := h.2 j i hj hij
    have h2 := (h.1 i hi).1
    have h3 := (h.1 j hj).1
    rw [List.getD, List.getD, List.getElem?_eq_getElem hi, List.getElem?_eq_getElem hj] at h1
    rw [List.getD, List.getElem?_eq_getElem hi] at h2
    rw [List.getD, List.getElem?_eq_getElem hj] at h3
    simp only [Option.getD_some] at h1 h2 h3
    omega
  lt := fun v hv => by
    obtain ⟨z, hz, rfl⟩ := List.mem_map.1 hv
    obtain ⟨i, hi, rfl⟩ := List.getElem_of_mem hz
    have h2 := h.1 i hi
    rw [List.getD, List.getElem?_eq_getElem hi] at h2
    simp only [Option.getD_some] at h2
    omega
theorem Ord.part {n : Nat} {L : List Nat} (h : Ord n L) : PartW n (ints L) := by
  refine ⟨fun i hi => ?_, fun i j hi hj => ?_⟩
  · rw [ints_length] at hi
    rw [ints_getDW hi]
    have := (h.at (i := i) (by rw [← h.len]; exact hi)).1
    omega
  · rw [ints_length] at hi
    rw [ints_getDW hi, ints_getDW (show j < L.length by omega)]
    intro e
    have := h.inj (i := j) (j := i) (by have := h.len; omega) (by have := h.len; omega) (by omega)
    omega
/-- Width is the least. -/
theorem rwidth_any {N W : Nat} {G : Nat → Nat → Bool} {L : List Nat} (hn : N ≤ 100) (hG : Gr N G) (hO : Ord N L) (hW : WidL N G L W) (hm : ∀ L', Ord N L' → ∀ B, (∀ i, i < N → degB N G (goneL L' i) (L'.getD i 0) ≤ B) → W ≤ B) (gv : Value) (w : World) (hg : HasGrid w gv N G) :
    Calls Tryd.prog 14 #[gv] w fun e w' => e = .returned (.int .i64 (if N = 0 then -1 else (W : Int))) ∧ Below w.heap.size w w' := by
  refine rwidth_of (Ls := ints L) hn (by rw [ints_length, hO.len]) hO.part gv w hg ?_ fun l s wx x hk hs hsb hl hp => ?_
  · by_cases h0 : N = 0
    · rw [if_pos h0]; omega
    · rw [if_neg h0]
      rcases hW.at' with e | ⟨i, hi, e⟩
      · omega
      · have := degB_lt (G := G) (S := goneL L i) (hO.at hi).1
        omega
  · have hO' := hp.ord hl
    refine (cls_any hn hG hg hO' s wx x hk (by rw [ints_back hp]; exact hs) hsb).mono ?_
    rintro e w' ⟨rfl, m, hwd, hk', hgr⟩
    refine ⟨rfl, min x m, hk', hgr, by omega, fun hx => ?_, fun e => ?_⟩
    · have : (if N = 0 then -1 else (W : Int)) ≤ m := by
        rcases hwd with ⟨h0, rfl⟩ | ⟨d, rfl, h1, j, h2, h3⟩
        · rw [if_pos h0]; omega
        · rw [if_neg (by omega)]
          have := hm _ hO' d h1
          omega
      omega
    · subst e
      have e2 : (ints L).map Int.toNat = L := by
        unfold ints
        rw [List.map_map]
        exact (List.map_congr_left fun a _ => by simp).trans (List.map_id _)
      rw [e2] at hwd
      have := hwd.fin hW
      omega
end Go.Proofs.YtnmljgjegodkaaaDoor
