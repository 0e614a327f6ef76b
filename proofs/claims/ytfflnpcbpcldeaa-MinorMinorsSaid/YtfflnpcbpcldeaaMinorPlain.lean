/- The plain law of minor.Minor and arborref.Model. No program in sight. -/
import Derived.Test.YtfflnpcbpcldeaaMinor
import Derived.Test.YtfflnpcbpcldeaaMinorLaw
import Derived.Test.YtfflnpcbpcldeaaModel
namespace Go.Proofs.Ytfflnpcbpcldeaa
open Go Go.RowKit

theorem mem_bitsTo {s v : Nat} : ∀ {n}, v ∈ bitsTo s n ↔ v < n ∧ s.testBit v = true
  | 0 => by simp [bitsTo]
  | n + 1 => by
    rw [bitsTo]
    split
    · rename_i h
      rw [List.mem_append, mem_bitsTo (n := n)]
      simp only [List.mem_singleton]
      constructor
      · rintro (⟨h1, h2⟩ | rfl)
        · exact ⟨by omega, h2⟩
        · exact ⟨by omega, h⟩
      · rintro ⟨h1, h2⟩
        by_cases e : v = n
        · exact Or.inr e
        · exact Or.inl ⟨by omega, h2⟩
    · rename_i h
      rw [mem_bitsTo (n := n)]
      constructor
      · rintro ⟨h1, h2⟩; exact ⟨by omega, h2⟩
      · rintro ⟨h1, h2⟩
        refine ⟨?_, h2⟩
        by_cases e : v = n
        · subst e; exact absurd h2 h
        · omega
theorem bitsTo_up (s : Nat) : ∀ n, (bitsTo s n).Pairwise (· < ·)
  | 0 => .nil
  | n + 1 => by
    rw [bitsTo]
    split
    · rw [List.pairwise_append]
      refine ⟨bitsTo_up s n, by simp, fun a ha b hb => ?_⟩
      obtain rfl : b = n := by simpa using hb
      exact (mem_bitsTo.1 ha).1
    · exact bitsTo_up s n
theorem getD_mem {l : List Nat} {i : Nat} (h : i < l.length) : l.getD i 0 ∈ l := by
  rw [List.getD_eq_getElem?_getD, List.getElem?_eq_getElem h]; exact List.getElem_mem h
theorem bitsTo_lt {s n i j : Nat} (hij : i < j) (hj : j < (bitsTo s n).length) : (bitsTo s n).getD i 0 < (bitsTo s n).getD j 0 := by
  have := List.pairwise_iff_getElem.1 (bitsTo_up s n) i j (by omega) hj hij
  simpa [List.getD, hj, Nat.lt_trans hij hj] using this

/-- In which set a node is, of the first i ones: 0 in none. -/
def inA (S : List Nat) : Nat → Nat → Nat
  | 0, _ => 0
  | i + 1, v => if (S.getD i 0).testBit v then i + 1 else inA S i v
theorem inA_le (S : List Nat) (v : Nat) : ∀ i, inA S i v ≤ i
  | 0 => Nat.le_refl _
  | i + 1 => by have := inA_le S v i; rw [inA]; split <;> omega
theorem inA_bit {S : List Nat} {v j : Nat} : ∀ {i}, inA S i v = j + 1 → (S.getD j 0).testBit v = true
  | 0, h => by cases h
  | i + 1, h => by
    rw [inA] at h
    split at h
    · obtain rfl : i = j := by omega
      assumption
    · exact inA_bit h
theorem inA_zero {S : List Nat} {v : Nat} : ∀ {i}, (∀ j, j < i → (S.getD j 0).testBit v = false) → inA S i v = 0
  | 0, _ => rfl
  | i + 1, h => by rw [inA, if_neg (by rw [h i (by omega)]; exact Bool.false_ne_true)]; exact inA_zero fun j hj => h j (by omega)
theorem inA_is {S : List Nat} {v j : Nat} (hap : ∀ a b, a < b → b < S.length → (S.getD a 0).testBit v = true → (S.getD b 0).testBit v = false) : ∀ {i}, i ≤ S.length → j < i → (S.getD j 0).testBit v = true → inA S i v = j + 1
  | 0, _, hj, _ => absurd hj (Nat.not_lt_zero _)
  | i + 1, hi, hj, h => by
    rw [inA]
    by_cases e : j = i
    · subst e; rw [if_pos h]
    · rw [if_neg (by rw [hap j i (by omega) (by omega) h]; exact Bool.false_ne_true)]
      exact inA_is hap (by omega) (by omega) h

theorem cnt_pos {I : Nat → Bool} : ∀ {n}, cnt I n ≠ 0 ↔ ∃ x, x < n ∧ I x = true
  | 0 => by simp [cnt]
  | n + 1 => by
    rw [cnt]
    constructor
    · intro h
      by_cases e : I n = true
      · exact ⟨n, by omega, e⟩
      · rw [if_neg e] at h
        obtain ⟨x, h1, h2⟩ := cnt_pos.1 h
        exact ⟨x, by omega, h2⟩
    · rintro ⟨x, h1, h2⟩
      by_cases e : x = n
      · subst e; rw [if_pos h2]; omega
      · have := cnt_pos.2 ⟨x, show x < n by omega, h2⟩
        omega
theorem cnt_two {I : Nat → Bool} {x y : Nat} : ∀ {n}, x < y → y < n → I x = true → I y = true → 2 ≤ cnt I n
  | 0, _, h, _, _ => absurd h (Nat.not_lt_zero _)
  | n + 1, hxy, hy, h1, h2 => by
    rw [cnt]
    by_cases e : y = n
    · subst e
      have := cnt_pos.2 ⟨x, hxy, h1⟩
      rw [if_pos h2]; omega
    · have := cnt_two (n := n) hxy (by omega) h1 h2
      omega
theorem cnt_one {I : Nat → Bool} {x : Nat} : ∀ {n}, x < n → I x = true → (∀ u, u < n → I u = true → u = x) → cnt I n = 1
  | 0, h, _, _ => absurd h (Nat.not_lt_zero _)
  | n + 1, hx, h1, h2 => by
    rw [cnt]
    by_cases e : x = n
    · subst e
      have : cnt I x = 0 := by
        rcases Nat.eq_zero_or_pos (cnt I x) with h | h
        · exact h
        · obtain ⟨u, hu, hi⟩ := cnt_pos.1 (show cnt I x ≠ 0 by omega)
          have := h2 u (by omega) hi
          omega
      rw [if_pos h1, this]
    · rw [if_neg (fun h => e (h2 n (by omega) h).symm), cnt_one (n := n) (by omega) h1 fun u hu hi => h2 u (by omega) hi]

/-- One component just where all hang together. -/
theorem parts_one {N : Nat} {G : Nat → Nat → Bool} {S : Nat → Bool} (hG : ∀ i j, G i j = G j i) : (∃ x, x < N ∧ S x = false) → (partsF N G S = 1 ↔ ∀ a b, a < N → b < N → S a = false → S b = false → Rch N G S a b) := by
  rintro ⟨x, hx, hs⟩
  have symm : ∀ a b, S a = false → Rch N G S a b → Rch N G S b a := fun a b ha h => by
    induction h with
    | refl => exact .refl
    | @step b c h1 h2 h3 h4 h5 ih => exact (Rch.step .refl h3 h2 (by rw [hG]; exact h4) (h1.free ha)).trans ih
  -- each open node is reached from the first node of its component
  have lead : ∀ n a, a ≤ n → a < N → S a = false → ∃ u, u ≤ a ∧ Lead N G S u ∧ Rch N G S u a := by
    intro n
    induction n with
    | zero =>
      intro a h0 hN ha
      obtain rfl : a = 0 := by omega
      exact ⟨0, Nat.le_refl _, ⟨ha, fun u hu => absurd hu (Nat.not_lt_zero _)⟩, .refl⟩
    | succ n ih =>
      intro a h0 hN ha
      by_cases h : ∃ u, u < a ∧ S u = false ∧ Rch N G S u a
      · obtain ⟨u, hu, hsu, hr⟩ := h
        obtain ⟨v, hv, hl, hr2⟩ := ih u (by omega) (by omega) hsu
        exact ⟨v, by omega, hl, hr2.trans hr⟩
      · exact ⟨a, Nat.le_refl _, ⟨ha, fun u hu hsu hr => h ⟨u, hu, hsu, hr⟩⟩, .refl⟩
  constructor
  · intro h1 a b ha hb hsa hsb
    obtain ⟨u, hu, hlu, hru⟩ := lead a a (Nat.le_refl _) ha hsa
    obtain ⟨v, hv, hlv, hrv⟩ := lead b b (Nat.le_refl _) hb hsb
    have e : u = v := by
      rcases Nat.lt_trichotomy u v with h | h | h
      · have := cnt_two (I := leadB N G S) h (show v < N by omega) (leadB_iff.2 hlu) (leadB_iff.2 hlv)
        unfold partsF at h1; omega
      · exact h
      · have := cnt_two (I := leadB N G S) h (show u < N by omega) (leadB_iff.2 hlv) (leadB_iff.2 hlu)
        unfold partsF at h1; omega
    subst e
    exact (symm u a hlu.1 hru).trans hrv
  · intro h
    obtain ⟨u, hu, hlu, hru⟩ := lead x x (Nat.le_refl _) hx hs
    refine cnt_one (x := u) (by omega) (leadB_iff.2 hlu) fun v hv hi => ?_
    have hlv := leadB_iff.1 hi
    rcases Nat.lt_trichotomy u v with h2 | h2 | h2
    · exact absurd (h u v (by omega) hv hlu.1 hlv.1) (hlv.2 u h2 hlu.1)
    · exact h2.symm
    · exact absurd (h v u hv (by omega) hlv.1 hlu.1) (hlu.2 v h2 hlv.1)

/-- A set, by its bits and by its number. -/
structure SameSet (N : Nat) (s : Nat) (f : List Nat) (k : Nat) : Prop where
  lt : ∀ v, s.testBit v = true → v < N
  eq : ∀ v, v < N → (s.testBit v = true ↔ f.getD v 0 = k)
section
variable {N s k : Nat} {f : List Nat} {l : List (Int × Int)}
theorem SameSet.out (h : SameSet N s f k) {v : Nat} (hv : v < N) : outK N f k v = false ↔ s.testBit v = true := by
  unfold outK
  rw [decide_eq_true hv, Bool.true_and, h.eq v hv]
  simp
theorem near_adj {b c : Nat} : (near l N b).testBit c = true ↔ c < N ∧ adj l b c = true := by
  unfold near
  rw [maskOf_bit]
  simp
theorem SameSet.rch (h : SameSet N s f k) {a b : Nat} (ha : s.testBit a = true) : Conn (near l N) s a b ↔ Rch N (adj l) (outK N f k) a b := by
  constructor
  · intro hc
    induction hc with
    | refl => exact .refl
    | @step b c h1 h2 h3 ih => exact .step ih (h.lt b (h1.inside ha)) (h.lt c h2) (near_adj.1 h3).2 ((h.out (h.lt c h2)).2 h2)
  · intro hr
    induction hr with
    | refl => exact .refl
    | @step b c h1 h2 h3 h4 h5 ih => exact .step ih ((h.out h3).1 h5) (near_adj.2 ⟨h3, h4⟩)
theorem SameSet.whole (h : SameSet N s f k) : Whole (near l N) s ↔ SetOk N (adj l) f k := by
  have hne : s ≠ 0 ↔ ∃ v, s.testBit v = true := by
    constructor
    · intro h0
      obtain ⟨v, hv, _⟩ := low_is s s (Nat.le_refl _) h0
      exact ⟨v, hv⟩
    · rintro ⟨v, hv⟩ rfl
      simp at hv
  have hcnt : cnt (isK f k) N ≠ 0 ↔ ∃ v, s.testBit v = true := by
    rw [cnt_pos]
    constructor
    · rintro ⟨v, hv, he⟩
      exact ⟨v, (h.eq v hv).2 (by unfold isK at he; exact of_decide_eq_true he)⟩
    · rintro ⟨v, hv⟩
      exact ⟨v, h.lt v hv, by unfold isK; exact decide_eq_true ((h.eq v (h.lt v hv)).1 hv)⟩
  unfold Whole SetOk
  rw [hne, hcnt]
  constructor
  · rintro ⟨⟨x, hx⟩, hc⟩
    refine ⟨⟨x, hx⟩, (parts_one (adj_symm l) ⟨x, h.lt x hx, (h.out (h.lt x hx)).2 hx⟩).2 fun a b ha hb h1 h2 => ?_⟩
    have ha' := (h.out ha).1 h1
    exact (h.rch ha').1 (hc a b ha' ((h.out hb).1 h2))
  · rintro ⟨⟨x, hx⟩, hp⟩
    refine ⟨⟨x, hx⟩, fun a b ha hb => ?_⟩
    exact (h.rch ha).2 ((parts_one (adj_symm l) ⟨x, h.lt x hx, (h.out (h.lt x hx)).2 hx⟩).1 hp a b (h.lt a ha) (h.lt b hb) ((h.out (h.lt a ha)).2 ha) ((h.out (h.lt b hb)).2 hb))
end

theorem land_ne {a b : Nat} : land a b ≠ 0 ↔ ∃ v, a.testBit v = true ∧ b.testBit v = true := by
  constructor
  · intro h
    obtain ⟨v, hv, _⟩ := low_is _ _ (Nat.le_refl _) h
    rw [land_bit, Bool.and_eq_true] at hv
    exact ⟨v, hv⟩
  · rintro ⟨v, h1, h2⟩ h
    have : (land a b).testBit v = true := by rw [land_bit, h1, h2]; rfl
    rw [h] at this; simp at this

/-- The edge between two sets. -/
theorem meet_iff {N a b sa sb : Nat} {f : List Nat} {l : List (Int × Int)} (ha : SameSet N sa f (a + 1)) (hb : SameSet N sb f (b + 1)) : land (bes (near l N) sa N) sb ≠ 0 ↔ EdgeOk N (adj l) f a b := by
  rw [land_ne]
  constructor
  · rintro ⟨y, h1, h2⟩
    obtain ⟨x, hx, h3, h4⟩ := bes_bit.1 h1
    exact ⟨x, y, hx, hb.lt y h2, by unfold condE; rw [(near_adj.1 h4).2, decide_eq_true ((ha.eq x hx).1 h3), decide_eq_true ((hb.eq y (hb.lt y h2)).1 h2)]; rfl⟩
  · rintro ⟨x, y, hx, hy, hc⟩
    unfold condE at hc
    rw [Bool.and_eq_true, Bool.and_eq_true, decide_eq_true_eq, decide_eq_true_eq] at hc
    exact ⟨y, bes_bit.2 ⟨x, hx, (ha.eq x hx).2 hc.1.2, near_adj.2 ⟨hy, hc.1.1⟩⟩, (hb.eq y hy).2 hc.2⟩

/-- What is found is a minor. -/
theorem minorF_has {N M : Nat} {l k : List (Int × Int)} {S : List Nat} (h : minorF N M l k = some S) : S.length = M ∧ (∀ j, j < M → ∀ v, (S.getD j 0).testBit v = true → v < N) ∧ (∀ v a b, a < b → b < S.length → (S.getD a 0).testBit v = true → (S.getD b 0).testBit v = false) ∧
    ModelP N M (adj l) (adj k) ((List.range N).map (inA S M)) := by
  obtain ⟨h1, _, he⟩ := tryS_has h
  have hl : S.length = M := by simpa using h1
  have hlt : ∀ j, j < M → ∀ v, (S.getD j 0).testBit v = true → v < N := fun j hj v hv => by
    obtain ⟨_, _, hw⟩ := he.ok j (by simp) (by omega)
    have hp := pow2_pos N
    exact bits_lt (by have := hw.le; omega) hv
  have hap : ∀ v a b, a < b → b < S.length → (S.getD a 0).testBit v = true → (S.getD b 0).testBit v = false := fun v a b hab hb hv => he.apart a b (by simp) hab hb v hv
  have hget : ∀ v, v < N → ((List.range N).map (inA S M)).getD v 0 = inA S M v := fun v hv => by simp [List.getD, hv]
  have hss : ∀ j, j < M → SameSet N (S.getD j 0) ((List.range N).map (inA S M)) (j + 1) := fun j hj => ⟨hlt j hj, fun v hv => by
    rw [hget v hv]
    exact ⟨fun hb => inA_is (hap v) (by omega) hj hb, inA_bit⟩⟩
  refine ⟨hl, hlt, hap, fun q h1 h2 => ?_, fun a b ha hb hH => ?_⟩
  · obtain ⟨j, rfl⟩ : ∃ j, q = j + 1 := ⟨q - 1, by omega⟩
    obtain ⟨_, hW, _⟩ := he.ok j (by simp) (by omega)
    exact (hss j (by omega)).whole.1 (wholeB_iff.1 hW)
  · have := he.meet b a hb (by simp) (by omega) (near_adj.2 ⟨by omega, hH⟩)
    exact (meet_iff (hss a ha) (hss b (by omega))).1 this

/-- Where none is found there is none. -/
theorem minorF_not {N M : Nat} {l k : List (Int × Int)} (h : minorF N M l k = none) (f : List Nat) (hf : f.length = N) : ¬ ModelP N M (adj l) (adj k) f := by
  rintro ⟨h1, h2⟩
  have hT : ∀ j, j < M → ((List.range M).map fun j => maskOf (fun v => decide (f.getD v 0 = j + 1)) N).getD j 0 = maskOf (fun v => decide (f.getD v 0 = j + 1)) N := fun j hj => by rw [List.getD_eq_getElem?_getD, List.getElem?_map, List.getElem?_range hj]; rfl
  have hbit : ∀ j v, (maskOf (fun v => decide (f.getD v 0 = j + 1)) N).testBit v = true ↔ v < N ∧ f.getD v 0 = j + 1 := fun j v => by rw [maskOf_bit]; simp
  have hss : ∀ j, SameSet N (maskOf (fun v => decide (f.getD v 0 = j + 1)) N) f (j + 1) := fun j => ⟨fun v hv => ((hbit j v).1 hv).1, fun v hv => by rw [hbit]; simp [hv]⟩
  refine tryS_not (T := (List.range M).map fun j => maskOf (fun v => decide (f.getD v 0 = j + 1)) N) h (by simp) (by simp) ⟨fun j _ hj => ?_, fun i j _ hij hj b hb => ?_, fun i j hij _ hj hb => ?_⟩
  · have hj' : j < M := by simpa using hj
    rw [hT j hj']
    have hw := (hss j).whole.2 (h1 (j + 1) (by omega) (by omega))
    refine ⟨hw.1, wholeB_iff.2 hw, fun v hv => ?_⟩
    have hvN := ((hbit j v).1 hv).1
    have e : pow2 N - 1 = 2 ^ N - 1 := rfl
    rw [e, Nat.testBit_two_pow_sub_one]
    simpa using hvN
  · have hj' : j < M := by simpa using hj
    rw [hT i (by omega)] at hb
    rw [hT j hj']
    cases e : (maskOf (fun v => decide (f.getD v 0 = j + 1)) N).testBit b
    · rfl
    · have h3 := ((hbit i b).1 hb).2
      have h4 := ((hbit j b).1 e).2
      omega
  · have hj' : j < M := by simpa using hj
    rw [hT j hj', hT i (by omega)]
    exact (meet_iff (hss j) (hss i)).2 (h2 j i hj' hij (near_adj.1 hb).2)

end Go.Proofs.Ytfflnpcbpcldeaa
