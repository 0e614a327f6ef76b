/- How many colours a set of nodes needs: the plain law of colour.Number. No walk. -/
import Derived.Test.YtfflnpcbpcldeaaDoorFree
namespace Go.Proofs.YtfflnpcbpcldeaaDoor
open Go Go.RowKit

section
variable {l : List (Int × Int)} {N : Nat}
/-- The nodes of a set can be coloured with so many colours. -/
def Col (l : List (Int × Int)) (N s k : Nat) : Prop := ∃ c : Nat → Nat, (∀ u, s.testBit u = true → c u < k) ∧ ∀ u, u < N → ∀ v, v < N → s.testBit u = true → s.testBit v = true → adj l u v = true → c u ≠ c v
theorem Col.mono {s k k' : Nat} (h : Col l N s k) (hk : k ≤ k') : Col l N s k' := by
  obtain ⟨c, h1, h2⟩ := h
  exact ⟨c, fun u hu => Nat.lt_of_lt_of_le (h1 u hu) hk, h2⟩
theorem Col.zero : Col l N 0 0 := ⟨fun _ => 0, fun u hu => by simp at hu, fun u _ v _ hu => by simp at hu⟩
theorem Col.none {s : Nat} (h : Col l N s 0) : s = 0 := by
  obtain ⟨c, h1, -⟩ := h
  refine zero_bits.2 fun i => ?_
  cases e : s.testBit i with
  | false => rfl
  | true => exact absurd (h1 i e) (Nat.not_lt_zero _)
theorem Col.all (hl : ∀ j, j < l.length → (l.getD j (0, 0)).1 ≠ (l.getD j (0, 0)).2) {s : Nat} (hs : s < 2 ^ N) : Col l N s N :=
  ⟨fun v => v, fun u hu => bit_lt hs hu, fun u _ v _ _ _ ha e => by
    simp only at e
    subst e
    rw [adj_self hl] at ha
    cases ha⟩
/-- With one colour more. -/
theorem Col.more {s t j : Nat} (ht : Within t s) (hf : freeB l N t = true) (h : Col l N (less s t) j) : Col l N s (j + 1) := by
  obtain ⟨c, h1, h2⟩ := h
  have hf := freeB_iff.1 hf
  have hin : ∀ u, s.testBit u = true → t.testBit u = false → (less s t).testBit u = true := fun u hu ht => by rw [less_bit, hu, ht]; rfl
  refine ⟨fun v => if t.testBit v = true then j else c v, fun u hu => ?_, fun u hu v hv bu bv ha => ?_⟩
  · simp only
    by_cases e : t.testBit u = true
    · rw [if_pos e]; omega
    · rw [if_neg e]
      have := h1 u (hin u hu (by simpa using e))
      omega
  · simp only
    by_cases e1 : t.testBit u = true <;> by_cases e2 : t.testBit v = true
    · have := hf u hu v hv e1 e2
      rw [this] at ha; cases ha
    · rw [if_pos e1, if_neg e2]
      have := h1 v (hin v bv (by simpa using e2))
      omega
    · rw [if_neg e1, if_pos e2]
      have := h1 u (hin u bu (by simpa using e1))
      omega
    · rw [if_neg e1, if_neg e2]
      exact h2 u hu v hv (hin u bu (by simpa using e1)) (hin v bv (by simpa using e2)) ha
/-- One colour's nodes, and the others. -/
theorem Col.part {s j : Nat} (h : Col l N s (j + 1)) (h0 : s ≠ 0) (hs : s < 2 ^ N) : ∃ t, t ≠ 0 ∧ Within t s ∧ freeB l N t = true ∧ Col l N (less s t) j := by
  obtain ⟨c, h1, h2⟩ := h
  have hex : ∃ u, s.testBit u = true := Classical.byContradiction fun hn => h0 (zero_bits.2 fun i => by
    cases e : s.testBit i with
    | false => rfl
    | true => exact absurd ⟨i, e⟩ hn)
  obtain ⟨u, hu⟩ := hex
  have huN := bit_lt hs hu
  have hb : ∀ i, (maskOf (fun v => s.testBit v && decide (c v = c u)) N).testBit i = (s.testBit i && decide (c i = c u)) := fun i => by
    rw [maskOf_bit]
    cases e : s.testBit i with
    | false => simp
    | true => simp [bit_lt hs e]
  refine ⟨maskOf (fun v => s.testBit v && decide (c v = c u)) N, fun e => ?_, fun i hi => ?_, freeB_iff.2 fun a ha b hb' ba bb => ?_, fun v => if c v = j then c u else c v, fun v hv => ?_, fun a ha b hb' ba bb hadj => ?_⟩
  · have := hb u
    rw [e, hu] at this
    simp at this
  · rw [hb] at hi
    simp at hi
    exact hi.1
  · rw [hb] at ba bb
    simp at ba bb
    cases e : adj l a b with
    | false => rfl
    | true => exact absurd (ba.2.trans bb.2.symm) (h2 a ha b hb' ba.1 bb.1 e)
  · rw [less_bit, hb] at hv
    simp at hv
    have g1 := h1 v hv.1
    have g2 : ¬ c v = c u := by
      rcases hv.2 with e | e
      · rw [hv.1] at e; cases e
      · exact e
    have g3 := h1 u hu
    simp only
    by_cases e : c v = j
    · rw [if_pos e]
      have : c u ≠ j := fun e2 => g2 (e.trans e2.symm)
      omega
    · rw [if_neg e]; omega
  · rw [less_bit, hb] at ba bb
    simp at ba bb
    have g1 := h2 a ha b hb' ba.1 bb.1 hadj
    have g2 : ¬ c a = c u := by
      rcases ba.2 with e | e
      · rw [ba.1] at e; cases e
      · exact e
    have g3 : ¬ c b = c u := by
      rcases bb.2 with e | e
      · rw [bb.1] at e; cases e
      · exact e
    simp only
    by_cases e1 : c a = j <;> by_cases e2 : c b = j
    · exact absurd (e1.trans e2.symm) g1
    · rw [if_pos e1, if_neg e2]; exact fun e => g3 e.symm
    · rw [if_neg e1, if_pos e2]; exact g2
    · rw [if_neg e1, if_neg e2]; exact g1

/-- What the tables tell of a set: it needs n colours; t are the nodes of one of them. -/
structure NOk (l : List (Int × Int)) (N : Nat) (need last : Nat → Nat) (s : Nat) : Prop where
  yes : Col l N s (need s)
  no : ∀ j, j < need s → ¬ Col l N s j
  class_ : s ≠ 0 → last s ≠ 0 ∧ Within (last s) s ∧ freeB l N (last s) = true ∧ need (less s (last s)) + 1 = need s
theorem NOk.start (l : List (Int × Int)) (N : Nat) : NOk l N (fun _ => 0) (fun _ => 0) 0 := ⟨Col.zero, fun j hj => absurd hj (Nat.not_lt_zero _), fun h => absurd rfl h⟩
theorem less_lt {s t : Nat} (ht : Within t s) (h0 : t ≠ 0) : less s t < s := by
  have h1 : less s t ≤ s := Within.le fun i hi => by rw [less_bit] at hi; simp at hi; exact hi.1
  rcases Nat.lt_or_ge (less s t) s with h | h
  · exact h
  · have e : less s t = s := by omega
    exfalso
    apply h0
    refine zero_bits.2 fun i => ?_
    cases e2 : t.testBit i with
    | false => rfl
    | true =>
      have h2 := less_bit s t i
      rw [e, ht i e2, e2] at h2
      cases h2
/-- The tables below a set say the same where one cell more is turned. -/
theorem NOk.congr {need last need' last' : Nat → Nat} {s : Nat} (h : NOk l N need last s) (e1 : ∀ q, q ≤ s → need' q = need q) (e2 : last' s = last s) : NOk l N need' last' s := by
  refine ⟨by rw [e1 s (Nat.le_refl _)]; exact h.yes, fun j hj => h.no j (by rw [← e1 s (Nat.le_refl _)]; exact hj), fun h0 => ?_⟩
  obtain ⟨g1, g2, g3, g4⟩ := h.class_ h0
  rw [e2, e1 s (Nat.le_refl _), e1 _ (Nat.le_of_lt (less_lt g2 g1))]
  exact ⟨g1, g2, g3, g4⟩

/-- While all sets within s are tried, from s down to above t. -/
structure NTry (l : List (Int × Int)) (N : Nat) (need : Nat → Nat) (s t k x : Nat) : Prop where
  within : Within t s
  le : k ≤ N + 1
  of : k = N + 1 ∨ (x ≠ 0 ∧ Within x s ∧ freeB l N x = true ∧ need (less s x) + 1 = k)
  least : ∀ q, t < q → Within q s → freeB l N q = true → k ≤ need (less s q) + 1
theorem NTry.start (need : Nat → Nat) (s x : Nat) : NTry l N need s s (N + 1) x :=
  ⟨Within.refl s, Nat.le_refl _, Or.inl rfl, fun q hq hw => absurd (Within.le hw) (by omega)⟩
theorem NTry.next {need : Nat → Nat} {s t k x : Nat} (h : NTry l N need s t k x) (h0 : t ≠ 0) {k' x' : Nat}
    (hc : (freeB l N t = true ∧ need (less s t) + 1 < k ∧ k' = need (less s t) + 1 ∧ x' = t) ∨ (¬ (freeB l N t = true ∧ need (less s t) + 1 < k) ∧ k' = k ∧ x' = x)) : NTry l N need s (land (t - 1) s) k' x' := by
  have key : ∀ q, land (t - 1) s < q → Within q s → q = t ∨ t < q := fun q hq hw => by
    rcases Nat.lt_trichotomy q t with e | e | e
    · have := next_sub t t s q (Nat.le_refl _) h.within hw e
      omega
    · exact Or.inl e
    · exact Or.inr e
  rcases hc with ⟨h1, h2, rfl, rfl⟩ | ⟨h1, rfl, rfl⟩
  · refine ⟨land_within _ _, by have := h.le; omega, Or.inr ⟨h0, h.within, h1, rfl⟩, fun q hq hw hf => ?_⟩
    rcases key q hq hw with rfl | e
    · exact Nat.le_refl _
    · have := h.least q e hw hf; omega
  · refine ⟨land_within _ _, h.le, h.of, fun q hq hw hf => ?_⟩
    rcases key q hq hw with rfl | e
    · rcases Nat.lt_or_ge (need (less s q) + 1) k' with e | e
      · exact absurd ⟨hf, e⟩ h1
      · exact e
    · exact h.least q e hw hf
/-- All have been tried. -/
theorem NTry.fin (hl : ∀ j, j < l.length → (l.getD j (0, 0)).1 ≠ (l.getD j (0, 0)).2) {need last need' last' : Nat → Nat} {s k x : Nat} (h : NTry l N need s 0 k x) (h0 : s ≠ 0) (hs : s < 2 ^ N)
    (hbelow : ∀ q, q < s → NOk l N need last q) (e1 : ∀ q, q < s → need' q = need q) (e2 : need' s = k) (e3 : last' s = x) : NOk l N need' last' s := by
  have hup : ∀ j, Col l N s j → k ≤ j := fun j hj => by
    cases j with
    | zero => exact absurd hj.none h0
    | succ j =>
      obtain ⟨t, t0, tw, tf, tc⟩ := hj.part h0 hs
      have hlt := less_lt tw t0
      have h1 := h.least t (by omega) tw tf
      have h2 : need (less s t) ≤ j := by
        rcases Nat.lt_or_ge j (need (less s t)) with e | e
        · exact absurd tc ((hbelow _ hlt).no j e)
        · exact e
      omega
  have hN := hup N (Col.all hl hs)
  rcases h.of with e | ⟨g1, g2, g3, g4⟩
  · omega
  · have hlt := less_lt g2 g1
    refine ⟨?_, fun j hj hc => ?_, fun _ => ?_⟩
    · rw [e2, ← g4]
      exact Col.more g2 g3 (hbelow _ hlt).yes
    · rw [e2] at hj
      have := hup j hc
      omega
    · rw [e3, e2, e1 _ hlt]
      exact ⟨g1, g2, g3, g4⟩

/-- While colours are laid: s are the nodes without one, k colours are used. -/
structure NLay (l : List (Int × Int)) (N : Nat) (need : Nat → Nat) (all s k : Nat) (c : Nat → Nat) : Prop where
  sum : need s + k = need all
  below : ∀ v, v < N → s.testBit v = false → c v < k
  ok : ∀ u, u < N → ∀ v, v < N → s.testBit u = false → s.testBit v = false → adj l u v = true → c u ≠ c v
theorem NLay.start (need : Nat → Nat) {all : Nat} (ha : ∀ v, v < N → all.testBit v = true) (c : Nat → Nat) : NLay l N need all all 0 c :=
  ⟨rfl, fun v hv h => (by rw [ha v hv] at h; cases h), fun u hu v _ h => (by rw [ha u hu] at h; cases h)⟩
theorem NLay.next {need last : Nat → Nat} {all s k : Nat} {c c' : Nat → Nat} (h : NLay l N need all s k c) (hs : NOk l N need last s) (h0 : s ≠ 0) (hc : ∀ v, v < N → c' v = if (last s).testBit v = true then k else c v) : NLay l N need all (less s (last s)) (k + 1) c' := by
  obtain ⟨g1, g2, g3, g4⟩ := hs.class_ h0
  have hf := freeB_iff.1 g3
  have hout : ∀ v, (less s (last s)).testBit v = false → (last s).testBit v = true ∨ ((last s).testBit v = false ∧ s.testBit v = false) := fun v hv => by
    rw [less_bit] at hv
    cases e1 : (last s).testBit v with
    | true => exact Or.inl rfl
    | false => rw [e1] at hv; simp at hv; exact Or.inr ⟨rfl, hv⟩
  refine ⟨by have := h.sum; omega, fun v hv hb => ?_, fun u hu v hv bu bv ha => ?_⟩
  · rw [hc v hv]
    rcases hout v hb with e | ⟨e, e2⟩
    · rw [if_pos e]; omega
    · rw [e, if_neg (by decide)]; have := h.below v hv e2; omega
  · rw [hc u hu, hc v hv]
    rcases hout u bu with e1 | ⟨e1, f1⟩ <;> rcases hout v bv with e2 | ⟨e2, f2⟩
    · rw [hf u hu v hv e1 e2] at ha; cases ha
    · rw [if_pos e1, e2, if_neg (by decide)]
      have := h.below v hv f2; omega
    · rw [e1, if_neg (by decide), if_pos e2]
      have := h.below u hu f1; omega
    · rw [e1, if_neg (by decide), e2, if_neg (by decide)]
      exact h.ok u hu v hv f1 f2 ha

/-- What colour.Number answers where all is well. -/
structure NumOk (l : List (Int × Int)) (N k : Nat) (c : Nat → Nat) : Prop where
  below : ∀ v, v < N → c v < k
  ok : ∀ u, u < N → ∀ v, v < N → adj l u v = true → c u ≠ c v
  no : ∀ j, j < k → ¬ ∃ d : Nat → Nat, (∀ u, u < N → d u < j) ∧ ∀ u, u < N → ∀ v, v < N → adj l u v = true → d u ≠ d v
theorem NLay.fin {need last : Nat → Nat} {all k : Nat} {c : Nat → Nat} (h : NLay l N need all 0 k c) (hall : NOk l N need last all) (hz : NOk l N need last 0) (ha : all < 2 ^ N) : NumOk l N k c := by
  have h1 : need 0 = 0 := by
    rcases Nat.eq_zero_or_pos (need 0) with e | e
    · exact e
    · exact absurd Col.zero (hz.no 0 e)
  have hk : k = need all := by have := h.sum; omega
  refine ⟨fun v hv => h.below v hv (by simp), fun u hu v hv ha => h.ok u hu v hv (by simp) (by simp) ha, fun j hj ⟨d, d1, d2⟩ => ?_⟩
  rw [hk] at hj
  exact hall.no j hj ⟨d, fun u hu => d1 u (bit_lt ha hu), fun u hu v hv _ _ hadj => d2 u hu v hv hadj⟩
end

end Go.Proofs.YtfflnpcbpcldeaaDoor
