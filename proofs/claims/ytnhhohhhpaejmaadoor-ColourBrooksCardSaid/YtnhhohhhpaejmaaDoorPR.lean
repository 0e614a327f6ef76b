/- Sets of nodes without an edge. No walk. Colourings counted by sets without edges: the plain law of colour.Poly. No walk. colour.Poly at the ring of five. How many colours a set of nodes needs: the plain law of colour.Number. No walk. -/
import Derived.Test.YtnhhohhhpaejmaaDoorPF
import Derived.Test.YtnhhohhhpaejmaaDoorCtz
import Derived.Test.YtnhhohhhpaejmaaDoorPM
namespace Go.Proofs.YtnhhohhhpaejmaaDoor
open Go Go.RowKit

/-- Does a set of nodes have no edge? -/
def freeB (l : List (Int × Int)) (N s : Nat) : Bool := decide (∀ u, u < N → ∀ v, v < N → s.testBit u = true → s.testBit v = true → adj l u v = false)
theorem freeB_iff {l : List (Int × Int)} {N s : Nat} : freeB l N s = true ↔ ∀ u, u < N → ∀ v, v < N → s.testBit u = true → s.testBit v = true → adj l u v = false := by
  unfold freeB; exact decide_eq_true_iff
theorem freeB_zero (l : List (Int × Int)) (N : Nat) : freeB l N 0 = true := freeB_iff.2 fun u _ v _ h => by simp at h
theorem bit_lt {s N i : Nat} (hs : s < 2 ^ N) (h : s.testBit i = true) : i < N := by
  rcases Nat.lt_or_ge i N with h' | h'
  · exact h'
  · have : s < 2 ^ i := Nat.lt_of_lt_of_le hs (Nat.pow_le_pow_right (by decide) h')
    rw [Nat.testBit_lt_two_pow this] at h
    cases h
theorem zero_bits {a : Nat} : a = 0 ↔ ∀ i, a.testBit i = false := ⟨fun h i => by rw [h]; simp, fun h => Nat.eq_of_testBit_eq fun i => by rw [h i]; simp⟩
theorem few_pow {s N : Nat} (hN : N ≤ 62) (hs : s < 2 ^ N) : Few s := Nat.lt_of_lt_of_le hs (by rw [few_two]; exact Nat.pow_le_pow_right (by decide) hN)
/-- As colour.loose finds it. -/
theorem freeB_step {l : List (Int × Int)} {N s : Nat} (hl : ∀ j, j < l.length → (l.getD j (0, 0)).1 ≠ (l.getD j (0, 0)).2) (hN : N ≤ 62) (h0 : s ≠ 0) (hs : s < 2 ^ N) :
    freeB l N s = (freeB l N (land s (s - 1)) && decide (land (near l N (Lib.ctz 64 s)) (land s (s - 1)) = 0)) := by
  obtain ⟨h1, h2⟩ := ctz_low h0 (few_pow hN hs)
  have hcN := bit_lt hs h1
  generalize land s (s - 1) = r at *
  generalize Lib.ctz 64 s = c at *
  have hnear : ∀ i, (land (near l N c) r).testBit i = (decide (i < N) && adj l c i && (s.testBit i && decide (i ≠ c))) := fun i => by
    rw [land_bit, h2 i]; unfold near; rw [maskOf_bit]
  rw [Bool.eq_iff_iff, Bool.and_eq_true, freeB_iff, freeB_iff, decide_eq_true_iff, zero_bits]
  constructor
  · intro h
    refine ⟨fun u hu v hv bu bv => h u hu v hv (by rw [h2] at bu; simp at bu; exact bu.1) (by rw [h2] at bv; simp at bv; exact bv.1), fun i => ?_⟩
    rw [hnear]
    by_cases hi : i < N
    · cases e : s.testBit i with
      | false => simp
      | true => rw [h c hcN i hi h1 e]; simp
    · simp [hi]
  · rintro ⟨ha, hb⟩ u hu v hv bu bv
    have key : ∀ w, w < N → s.testBit w = true → adj l c w = false := fun w hw bw => by
      by_cases e : w = c
      · subst e; exact adj_self hl w
      · have := hb w
        rw [hnear, bw] at this
        simpa [hw, e] using this
    by_cases e1 : u = c
    · subst e1; exact key v hv bv
    · by_cases e2 : v = c
      · subst e2; rw [adj_sy]; exact key u hu bu
      · exact ha u hu v hv (by rw [h2, bu]; simp [e1]) (by rw [h2, bv]; simp [e2])
theorem land_pred {s : Nat} (h0 : s ≠ 0) : land s (s - 1) < s := by
  have : land s (s - 1) ≤ s - 1 := Nat.and_le_right
  omega

end Go.Proofs.YtnhhohhhpaejmaaDoor
namespace Go.Proofs.YtnhhohhhpaejmaaDoor
open Go Go.RowKit

/-- The lowest bit of a set. -/
def lowB (r : Nat) : Nat := less r (r - 1)
theorem op_lowB {s : Nat} (h : Few s) (h0 : s ≠ 0) : bits .and .i64 (s : Int) (-(s : Int)) = (lowB s : Int) := by
  unfold lowB
  rw [← op_andNot h (by show s - 1 < _; unfold Few at h; omega)]
  unfold bits
  show IntKind.i64.wrap (((BitVec.ofInt 64 (s : Int)) &&& (BitVec.ofInt 64 (-(s : Int)))).toNat : Int) = IntKind.i64.wrap (((BitVec.ofInt 64 (s : Int)) &&& ~~~(BitVec.ofInt 64 ((s - 1 : Nat) : Int))).toNat : Int)
  have e : BitVec.ofInt 64 (-(s : Int)) = ~~~(BitVec.ofInt 64 ((s - 1 : Nat) : Int)) := by
    have hh : s < 4611686018427387904 := h
    apply BitVec.eq_of_toNat_eq
    rw [BitVec.toNat_not, BitVec.toNat_ofInt, BitVec.toNat_ofInt]
    omega
  rw [e]

/-- What goes from s to x: x is s and a set without an edge, which has the lowest node that s lacks. -/
def polC (free : Nat → Bool) (all : Nat) (W : Nat → Int) (s x : Nat) : Int :=
  if s ≠ all ∧ land s x = s ∧ land (less x s) (lowB (less all s)) ≠ 0 ∧ free (less x s) = true then W s else 0

/-- In the midst of s: sets above t have been added. -/
def polT (free : Nat → Bool) (all : Nat) (W base : Nat → Int) (s t x : Nat) : Int := base x + if t < less x s then polC free all W s x else 0
theorem lor_less {s t all : Nat} (ht : Within t (less all s)) : less (lor s t) s = t ∧ land s (lor s t) = s := by
  refine ⟨Nat.eq_of_testBit_eq fun i => ?_, Nat.eq_of_testBit_eq fun i => ?_⟩
  · rw [less_bit, lor_bit]
    cases e : t.testBit i with
    | false => cases s.testBit i <;> rfl
    | true =>
      have := ht i e
      rw [less_bit] at this
      simp at this
      rw [this.2]; rfl
  · rw [land_bit, lor_bit]
    cases s.testBit i <;> rfl
theorem less_lor {s x t : Nat} (hs : land s x = s) (h : less x s = t) : x = lor s t := by
  refine Nat.eq_of_testBit_eq fun i => ?_
  have h1 := congrArg (fun z => z.testBit i) hs
  have h2 := congrArg (fun z => z.testBit i) h
  simp only [land_bit, less_bit] at h1 h2
  rw [lor_bit, ← h2]
  cases e1 : s.testBit i <;> cases e2 : x.testBit i <;> simp [e1, e2] at h1 ⊢
theorem less_within {x s all : Nat} (hx : Within x all) : Within (less x s) (less all s) := fun i hi => by
  rw [less_bit] at hi ⊢
  simp at hi ⊢
  exact ⟨hx i hi.1, hi.2⟩
theorem polT_start {free : Nat → Bool} {all : Nat} {W base : Nat → Int} {s x : Nat} (hx : Within x all) : polT free all W base s (less all s) x = base x := by
  unfold polT
  have := Within.le (less_within (s := s) hx)
  rw [if_neg (by omega)]; omega
theorem polT_end {free : Nat → Bool} {all : Nat} {W base : Nat → Int} {s x : Nat} : polT free all W base s 0 x = base x + polC free all W s x := by
  unfold polT
  by_cases h : 0 < less x s
  · rw [if_pos h]
  · have h0 : less x s = 0 := by omega
    rw [if_neg h]
    unfold polC
    rw [if_neg]
    rintro ⟨-, -, h3, -⟩
    rw [h0] at h3
    apply h3
    unfold land
    exact Nat.zero_and _
/-- One set more. -/
theorem polT_next {free : Nat → Bool} {all : Nat} {W base : Nat → Int} {s t x : Nat} (hx : Within x all) (h0 : t ≠ 0) (ht : Within t (less all s)) (hsa : s ≠ all) :
    polT free all W base s (land (t - 1) (less all s)) x = polT free all W base s t x + if x = lor s t ∧ land t (lowB (less all s)) ≠ 0 ∧ free t = true then W s else 0 := by
  have hlt : land (t - 1) (less all s) ≤ t - 1 := Nat.and_le_left
  have hw := less_within (s := s) hx
  unfold polT
  by_cases hs : land s x = s
  · rcases Nat.lt_trichotomy (less x s) t with e | e | e
    · have h1 := next_sub t t (less all s) (less x s) (Nat.le_refl _) ht hw e
      have hne : ¬ x = lor s t := fun e2 => by rw [e2, (lor_less ht).1] at e; omega
      rw [if_neg (show ¬ land (t - 1) (less all s) < less x s by omega), if_neg (show ¬ t < less x s by omega), if_neg (show ¬ (x = lor s t ∧ land t (lowB (less all s)) ≠ 0 ∧ free t = true) from fun h => hne h.1)]; omega
    · have hxe := less_lor hs e
      rw [if_pos (show land (t - 1) (less all s) < less x s by omega), if_neg (show ¬ t < less x s by omega)]
      unfold polC
      rw [e]
      by_cases hc : land t (lowB (less all s)) ≠ 0 ∧ free t = true
      · rw [if_pos ⟨hsa, hs, hc⟩, if_pos ⟨hxe, hc⟩]; omega
      · rw [if_neg (fun h => hc h.2.2), if_neg (fun h => hc h.2)]
        omega
    · have hne : ¬ x = lor s t := fun e2 => by rw [e2, (lor_less ht).1] at e; omega
      rw [if_pos (show land (t - 1) (less all s) < less x s by omega), if_pos (show t < less x s by omega), if_neg (show ¬ (x = lor s t ∧ land t (lowB (less all s)) ≠ 0 ∧ free t = true) from fun h => hne h.1)]; omega
  · have hz : polC free all W s x = 0 := by unfold polC; rw [if_neg (fun h => hs h.2.1)]
    have hne : ¬ x = lor s t := fun e2 => hs (by rw [e2]; exact (lor_less ht).2)
    rw [hz, if_neg (show ¬ (x = lor s t ∧ land t (lowB (less all s)) ≠ 0 ∧ free t = true) from fun h => hne h.1)]
    split <;> split <;> omega
/-- A set with no way to it, or the whole, gives nothing. -/
theorem polC_none {free : Nat → Bool} {all : Nat} {W base : Nat → Int} {s x : Nat} (h : wI (W s) = 0 ∨ s = all) : wI (base x + polC free all W s x) = wI (base x) := by
  unfold polC
  split
  · rename_i hc
    rcases h with h | h
    · rw [← wI_addr, h]; simp
    · exact absurd h hc.1
  · simp

/-- The tables of colour.Poly: ways by sets, falling powers, the sums. -/
def polW (free : Nat → Bool) (M : Nat) : Nat → Nat → Int
  | 0, x => if x = 0 then 1 else 0
  | k + 1, x => sumI (fun s => polC free (M - 1) (polW free M k) s x) M
def polF : Nat → Nat → Int
  | 0, i => if i = 0 then 1 else 0
  | k + 1, i => (if i = 0 then 0 else polF k (i - 1)) - k * polF k i
def polO (free : Nat → Bool) (M : Nat) : Nat → Nat → Int
  | 0, _ => 0
  | k + 1, i => polO free M k i + if i ≤ k then polW free M k (M - 1) * polF k i else 0
theorem polF_zero : ∀ k i, k < i → polF k i = 0
  | 0, i, h => by simp only [polF, if_neg (show ¬ i = 0 by omega)]
  | k + 1, i, h => by
    rw [polF, polF_zero k i (by omega), polF_zero k (i - 1) (by omega), if_neg (show ¬ i = 0 by omega)]
    simp
/-- '-= k * c', as ints do it. -/
theorem wI_subm (x k c : Int) : wI (wI x - wI (k * wI c)) = wI (x - k * c) := by
  obtain ⟨a, ha⟩ := wI_eq x
  obtain ⟨b, hb⟩ := wI_eq (k * wI c)
  obtain ⟨e, he⟩ := wI_eq c
  refine wI_congr (q := a - b - k * e) ?_
  rw [ha, hb, he]
  simp only [Int.mul_add, Int.sub_mul]
  have e1 : k * (e * 18446744073709551616) = k * e * 18446744073709551616 := by rw [Int.mul_assoc]
  rw [e1]
  omega
/-- The next falling power under way: i cells of the last one have been used. -/
def polG (k i q : Nat) : Int := (if q < i then -((k : Int) * polF k q) else 0) + if 0 < q ∧ q ≤ i then polF k (q - 1) else 0
theorem polG_zero (k q : Nat) : polG k 0 q = 0 := by
  unfold polG
  rw [if_neg (by omega), if_neg (by omega)]; rfl
theorem polG_end {k q : Nat} (hq : q < k + 2) : polG k (k + 1) q = polF (k + 1) q := by
  unfold polG
  rw [polF]
  by_cases h0 : q = 0
  · subst h0
    rw [if_pos (show 0 < k + 1 by omega), if_neg (show ¬ (0 < 0 ∧ 0 ≤ k + 1) by omega), if_pos rfl]; omega
  · rw [if_pos (show 0 < q ∧ q ≤ k + 1 by omega), if_neg h0]
    by_cases h1 : q < k + 1
    · rw [if_pos h1]; omega
    · have : polF k q = 0 := polF_zero k q (by omega)
      rw [if_neg h1, this]; simp
theorem polG_next (k i q : Nat) : polG k (i + 1) q = polG k i q + (if q = i then -((k : Int) * polF k i) else 0) + if q = i + 1 then polF k i else 0 := by
  unfold polG
  by_cases e1 : q = i
  · subst e1
    rw [if_pos (show q < q + 1 by omega), if_neg (show ¬ q < q by omega), if_pos rfl, if_neg (show ¬ q = q + 1 by omega)]
    by_cases h0 : 0 < q
    · rw [if_pos (show 0 < q ∧ q ≤ q + 1 by omega), if_pos (show 0 < q ∧ q ≤ q by omega)]; omega
    · rw [if_neg (show ¬ (0 < q ∧ q ≤ q + 1) by omega), if_neg (show ¬ (0 < q ∧ q ≤ q) by omega)]; omega
  · by_cases e2 : q = i + 1
    · subst e2
      rw [if_neg (show ¬ i + 1 < i + 1 by omega), if_pos (show 0 < i + 1 ∧ i + 1 ≤ i + 1 by omega), if_neg (show ¬ i + 1 < i by omega), if_neg (show ¬ (0 < i + 1 ∧ i + 1 ≤ i) by omega), if_neg (show ¬ i + 1 = i by omega), if_pos rfl]
      simp
    · rw [if_neg e1, if_neg e2]
      by_cases h1 : q < i
      · rw [if_pos (show q < i + 1 by omega), if_pos h1]
        by_cases h0 : 0 < q
        · rw [if_pos (show 0 < q ∧ q ≤ i + 1 by omega), if_pos (show 0 < q ∧ q ≤ i by omega)]; omega
        · rw [if_neg (show ¬ (0 < q ∧ q ≤ i + 1) by omega), if_neg (show ¬ (0 < q ∧ q ≤ i) by omega)]; omega
      · rw [if_neg (show ¬ q < i + 1 by omega), if_neg h1, if_neg (show ¬ (0 < q ∧ q ≤ i + 1) by omega), if_neg (show ¬ (0 < q ∧ q ≤ i) by omega)]; omega

end Go.Proofs.YtnhhohhhpaejmaaDoor
namespace Go.Proofs.YtnhhohhhpaejmaaDoor
open Go Go.RowKit

/-- The ring of five. -/
def fiveL : List (Int × Int) := [(0, 1), (1, 2), (2, 3), (3, 4), (0, 4)]
def fiveF : List Bool := [true, true, true, false, true, true, false, false, true, true, true, false, false, false, false, false, true, false, true, false, true, false, false, false, false, false, false, false, false, false, false, false]
theorem five_free : ∀ s, s < 32 → freeB fiveL 5 s = fiveF.getD s false := by decide +kernel
theorem five_stage {k : Nat} {L L' : List Int} (h : ∀ s, s < 32 → polW (freeB fiveL 5) 32 k s = L.getD s 0)
    (hd : ∀ x, x < 32 → sumI (fun s => polC (fun q => fiveF.getD q false) 31 (fun s => L.getD s 0) s x) 32 = L'.getD x 0) : ∀ x, x < 32 → polW (freeB fiveL 5) 32 (k + 1) x = L'.getD x 0 := fun x hx => by
  rw [← hd x hx, polW]
  refine sumI_congr fun s hs => ?_
  unfold polC
  have hle : less x s < 32 := by
    have : less x s ≤ x := Within.le fun i hi => by rw [less_bit] at hi; simp at hi; exact hi.1
    omega
  rw [five_free _ hle, h s hs]
def fiveW0 : List Int := [1, 0, 0, 0, 0, 0, 0, 0, 0, 0, 0, 0, 0, 0, 0, 0, 0, 0, 0, 0, 0, 0, 0, 0, 0, 0, 0, 0, 0, 0, 0, 0]
def fiveW1 : List Int := [0, 1, 0, 0, 0, 1, 0, 0, 0, 1, 0, 0, 0, 0, 0, 0, 0, 0, 0, 0, 0, 0, 0, 0, 0, 0, 0, 0, 0, 0, 0, 0]
def fiveW2 : List Int := [0, 0, 0, 1, 0, 0, 0, 1, 0, 0, 0, 2, 0, 0, 0, 1, 0, 0, 0, 1, 0, 0, 0, 1, 0, 0, 0, 1, 0, 0, 0, 0]
def fiveW3 : List Int := [0, 0, 0, 0, 0, 0, 0, 1, 0, 0, 0, 0, 0, 0, 0, 3, 0, 0, 0, 0, 0, 0, 0, 2, 0, 0, 0, 0, 0, 0, 0, 5]
def fiveW4 : List Int := [0, 0, 0, 0, 0, 0, 0, 0, 0, 0, 0, 0, 0, 0, 0, 1, 0, 0, 0, 0, 0, 0, 0, 0, 0, 0, 0, 0, 0, 0, 0, 5]
def fiveW5 : List Int := [0, 0, 0, 0, 0, 0, 0, 0, 0, 0, 0, 0, 0, 0, 0, 0, 0, 0, 0, 0, 0, 0, 0, 0, 0, 0, 0, 0, 0, 0, 0, 1]
theorem five_w0 : ∀ s, s < 32 → polW (freeB fiveL 5) 32 0 s = fiveW0.getD s 0 := by
  intro s hs
  rw [polW]
  revert s
  decide +kernel
theorem five_w1 : ∀ s, s < 32 → polW (freeB fiveL 5) 32 1 s = fiveW1.getD s 0 := five_stage five_w0 (by decide +kernel)
theorem five_w2 : ∀ s, s < 32 → polW (freeB fiveL 5) 32 2 s = fiveW2.getD s 0 := five_stage five_w1 (by decide +kernel)
theorem five_w3 : ∀ s, s < 32 → polW (freeB fiveL 5) 32 3 s = fiveW3.getD s 0 := five_stage five_w2 (by decide +kernel)
theorem five_w4 : ∀ s, s < 32 → polW (freeB fiveL 5) 32 4 s = fiveW4.getD s 0 := five_stage five_w3 (by decide +kernel)
theorem five_w5 : ∀ s, s < 32 → polW (freeB fiveL 5) 32 5 s = fiveW5.getD s 0 := five_stage five_w4 (by decide +kernel)
theorem five_poly : (List.range 6).map (fun i => wI (polO (freeB fiveL 5) 32 6 i)) = [0, 4, -10, 10, -5, 1] := by
  have e0 := five_w0 31 (by omega)
  have e1 := five_w1 31 (by omega)
  have e2 := five_w2 31 (by omega)
  have e3 := five_w3 31 (by omega)
  have e4 := five_w4 31 (by omega)
  have e5 := five_w5 31 (by omega)
  simp only [polO, e0, e1, e2, e3, e4, e5]
  decide +kernel

end Go.Proofs.YtnhhohhhpaejmaaDoor
namespace Go.Proofs.YtnhhohhhpaejmaaDoor
open Go Go.RowKit

section
variable {l : List (Int × Int)} {N : Nat}
/-- The nodes of a set can be coloured with so many colours. -/
def Col (l : List (Int × Int)) (N s k : Nat) : Prop := ∃ c : Nat → Nat, (∀ u, s.testBit u = true → c u < k) ∧ ∀ u, u < N → ∀ v, v < N → s.testBit u = true → s.testBit v = true → adj l u v = true → c u ≠ c v
theorem Col.mono {s k k' : Nat} (h : Col l N s k) (hk : k ≤ k') : Col l N s k' := by
  obtain ⟨c, h1, h2⟩ := h
  exact ⟨c, fun u hu => Nat.lt_of_lt_of_le (h1 u hu) hk, h2⟩
theorem Col.zero : Col l N 0 0 := ⟨fun _ => 0, fun u hu => by simp at hu, fun u _ v _ hu => by simp at hu⟩
theorem Col.none {s : Nat} (h : Col l N s 0) : s = 0 := by
  obtain ⟨c, h1, -⟩ := h
  refine zero_bits.2 fun i => ?_
  cases e : s.testBit i with
  | false => rfl
  | true => exact absurd (h1 i e) (Nat.not_lt_zero _)
theorem Col.all (hl : ∀ j, j < l.length → (l.getD j (0, 0)).1 ≠ (l.getD j (0, 0)).2) {s : Nat} (hs : s < 2 ^ N) : Col l N s N :=
  ⟨fun v => v, fun u hu => bit_lt hs hu, fun u _ v _ _ _ ha e => by
    simp only at e
    subst e
    rw [adj_self hl] at ha
    cases ha⟩
/-- With one colour more. -/
theorem Col.more {s t j : Nat} (ht : Within t s) (hf : freeB l N t = true) (h : Col l N (less s t) j) : Col l N s (j + 1) := by
  obtain ⟨c, h1, h2⟩ := h
  have hf := freeB_iff.1 hf
  have hin : ∀ u, s.testBit u = true → t.testBit u = false → (less s t).testBit u = true := fun u hu ht => by rw [less_bit, hu, ht]; rfl
  refine ⟨fun v => if t.testBit v = true then j else c v, fun u hu => ?_, fun u hu v hv bu bv ha => ?_⟩
  · simp only
    by_cases e : t.testBit u = true
    · rw [if_pos e]; omega
    · rw [if_neg e]
      have := h1 u (hin u hu (by simpa using e))
      omega
  · simp only
    by_cases e1 : t.testBit u = true <;> by_cases e2 : t.testBit v = true
    · have := hf u hu v hv e1 e2
      rw [this] at ha; cases ha
    · rw [if_pos e1, if_neg e2]
      have := h1 v (hin v bv (by simpa using e2))
      omega
    · rw [if_neg e1, if_pos e2]
      have := h1 u (hin u bu (by simpa using e1))
      omega
    · rw [if_neg e1, if_neg e2]
      exact h2 u hu v hv (hin u bu (by simpa using e1)) (hin v bv (by simpa using e2)) ha
/-- One colour's nodes, and the others. -/
theorem Col.part {s j : Nat} (h : Col l N s (j + 1)) (h0 : s ≠ 0) (hs : s < 2 ^ N) : ∃ t, t ≠ 0 ∧ Within t s ∧ freeB l N t = true ∧ Col l N (less s t) j := by
  obtain ⟨c, h1, h2⟩ := h
  have hex : ∃ u, s.testBit u = true := Classical.byContradiction fun hn => h0 (zero_bits.2 fun i => by
    cases e : s.testBit i with
    | false => rfl
    | true => exact absurd ⟨i, e⟩ hn)
  obtain ⟨u, hu⟩ := hex
  have huN := bit_lt hs hu
  have hb : ∀ i, (maskOf (fun v => s.testBit v && decide (c v = c u)) N).testBit i = (s.testBit i && decide (c i = c u)) := fun i => by
    rw [maskOf_bit]
    cases e : s.testBit i with
    | false => simp
    | true => simp [bit_lt hs e]
  refine ⟨maskOf (fun v => s.testBit v && decide (c v = c u)) N, fun e => ?_, fun i hi => ?_, freeB_iff.2 fun a ha b hb' ba bb => ?_, fun v => if c v = j then c u else c v, fun v hv => ?_, fun a ha b hb' ba bb hadj => ?_⟩
  · have := hb u
    rw [e, hu] at this
    simp at this
  · rw [hb] at hi
    simp at hi
    exact hi.1
  · rw [hb] at ba bb
    simp at ba bb
    cases e : adj l a b with
    | false => rfl
    | true => exact absurd (ba.2.trans bb.2.symm) (h2 a ha b hb' ba.1 bb.1 e)
  · rw [less_bit, hb] at hv
    simp at hv
    have g1 := h1 v hv.1
    have g2 : ¬ c v = c u := by
      rcases hv.2 with e | e
      · rw [hv.1] at e; cases e
      · exact e
    have g3 := h1 u hu
    simp only
    by_cases e : c v = j
    · rw [if_pos e]
      have : c u ≠ j := fun e2 => g2 (e.trans e2.symm)
      omega
    · rw [if_neg e]; omega
  · rw [less_bit, hb] at ba bb
    simp at ba bb
    have g1 := h2 a ha b hb' ba.1 bb.1 hadj
    have g2 : ¬ c a = c u := by
      rcases ba.2 with e | e
      · rw [ba.1] at e; cases e
      · exact e
    have g3 : ¬ c b = c u := by
      rcases bb.2 with e | e
      · rw [bb.1] at e; cases e
      · exact e
    simp only
    by_cases e1 : c a = j <;> by_cases e2 : c b = j
    · exact absurd (e1.trans e2.symm) g1
    · rw [if_pos e1, if_neg e2]; exact fun e => g3 e.symm
    · rw [if_neg e1, if_pos e2]; exact g2
    · rw [if_neg e1, if_neg e2]; exact g1

/-- What the tables tell of a set: it needs n colours; t are the nodes of one of them. -/
structure NOk (l : List (Int × Int)) (N : Nat) (need last : Nat → Nat) (s : Nat) : Prop where
  yes : Col l N s (need s)
  no : ∀ j, j < need s → ¬ Col l N s j
  class_ : s ≠ 0 → last s ≠ 0 ∧ Within (last s) s ∧ freeB l N (last s) = true ∧ need (less s (last s)) + 1 = need s
theorem NOk.start (l : List (Int × Int)) (N : Nat) : NOk l N (fun _ => 0) (fun _ => 0) 0 := ⟨Col.zero, fun j hj => absurd hj (Nat.not_lt_zero _), fun h => absurd rfl h⟩
theorem less_lt {s t : Nat} (ht : Within t s) (h0 : t ≠ 0) : less s t < s := by
  have h1 : less s t ≤ s := Within.le fun i hi => by rw [less_bit] at hi; simp at hi; exact hi.1
  rcases Nat.lt_or_ge (less s t) s with h | h
  · exact h
  · have e : less s t = s := by omega
    exfalso
    apply h0
    refine zero_bits.2 fun i => ?_
    cases e2 : t.testBit i with
    | false => rfl
    | true =>
      have h2 := less_bit s t i
      rw [e, ht i e2, e2] at h2
      cases h2
/-- The tables below a set say the same where one cell more is turned. -/
theorem NOk.congr {need last need' last' : Nat → Nat} {s : Nat} (h : NOk l N need last s) (e1 : ∀ q, q ≤ s → need' q = need q) (e2 : last' s = last s) : NOk l N need' last' s := by
  refine ⟨by rw [e1 s (Nat.le_refl _)]; exact h.yes, fun j hj => h.no j (by rw [← e1 s (Nat.le_refl _)]; exact hj), fun h0 => ?_⟩
  obtain ⟨g1, g2, g3, g4⟩ := h.class_ h0
  rw [e2, e1 s (Nat.le_refl _), e1 _ (Nat.le_of_lt (less_lt g2 g1))]
  exact ⟨g1, g2, g3, g4⟩

/-- While all sets within s are tried, from s down to above t. -/
structure NTry (l : List (Int × Int)) (N : Nat) (need : Nat → Nat) (s t k x : Nat) : Prop where
  within : Within t s
  le : k ≤ N + 1
  of : k = N + 1 ∨ (x ≠ 0 ∧ Within x s ∧ freeB l N x = true ∧ need (less s x) + 1 = k)
  least : ∀ q, t < q → Within q s → freeB l N q = true → k ≤ need (less s q) + 1
theorem NTry.start (need : Nat → Nat) (s x : Nat) : NTry l N need s s (N + 1) x :=
  ⟨Within.refl s, Nat.le_refl _, Or.inl rfl, fun q hq hw => absurd (Within.le hw) (by omega)⟩
theorem NTry.next {need : Nat → Nat} {s t k x : Nat} (h : NTry l N need s t k x) (h0 : t ≠ 0) {k' x' : Nat}
    (hc : (freeB l N t = true ∧ need (less s t) + 1 < k ∧ k' = need (less s t) + 1 ∧ x' = t) ∨ (¬ (freeB l N t = true ∧ need (less s t) + 1 < k) ∧ k' = k ∧ x' = x)) : NTry l N need s (land (t - 1) s) k' x' := by
  have key : ∀ q, land (t - 1) s < q → Within q s → q = t ∨ t < q := fun q hq hw => by
    rcases Nat.lt_trichotomy q t with e | e | e
    · have := next_sub t t s q (Nat.le_refl _) h.within hw e
      omega
    · exact Or.inl e
    · exact Or.inr e
  rcases hc with ⟨h1, h2, rfl, rfl⟩ | ⟨h1, rfl, rfl⟩
  · refine ⟨land_within _ _, by have := h.le; omega, Or.inr ⟨h0, h.within, h1, rfl⟩, fun q hq hw hf => ?_⟩
    rcases key q hq hw with rfl | e
    · exact Nat.le_refl _
    · have := h.least q e hw hf; omega
  · refine ⟨land_within _ _, h.le, h.of, fun q hq hw hf => ?_⟩
    rcases key q hq hw with rfl | e
    · rcases Nat.lt_or_ge (need (less s q) + 1) k' with e | e
      · exact absurd ⟨hf, e⟩ h1
      · exact e
    · exact h.least q e hw hf
/-- All have been tried. -/
theorem NTry.fin (hl : ∀ j, j < l.length → (l.getD j (0, 0)).1 ≠ (l.getD j (0, 0)).2) {need last need' last' : Nat → Nat} {s k x : Nat} (h : NTry l N need s 0 k x) (h0 : s ≠ 0) (hs : s < 2 ^ N)
    (hbelow : ∀ q, q < s → NOk l N need last q) (e1 : ∀ q, q < s → need' q = need q) (e2 : need' s = k) (e3 : last' s = x) : NOk l N need' last' s := by
  have hup : ∀ j, Col l N s j → k ≤ j := fun j hj => by
    cases j with
    | zero => exact absurd hj.none h0
    | succ j =>
      obtain ⟨t, t0, tw, tf, tc⟩ := hj.part h0 hs
      have hlt := less_lt tw t0
      have h1 := h.least t (by omega) tw tf
      have h2 : need (less s t) ≤ j := by
        rcases Nat.lt_or_ge j (need (less s t)) with e | e
        · exact absurd tc ((hbelow _ hlt).no j e)
        · exact e
      omega
  have hN := hup N (Col.all hl hs)
  rcases h.of with e | ⟨g1, g2, g3, g4⟩
  · omega
  · have hlt := less_lt g2 g1
    refine ⟨?_, fun j hj hc => ?_, fun _ => ?_⟩
    · rw [e2, ← g4]
      exact Col.more g2 g3 (hbelow _ hlt).yes
    · rw [e2] at hj
      have := hup j hc
      omega
    · rw [e3, e2, e1 _ hlt]
      exact ⟨g1, g2, g3, g4⟩

/-- While colours are laid: s are the nodes without one, k colours are used. -/
structure NLay (l : List (Int × Int)) (N : Nat) (need : Nat → Nat) (all s k : Nat) (c : Nat → Nat) : Prop where
  sum : need s + k = need all
  below : ∀ v, v < N → s.testBit v = false → c v < k
  ok : ∀ u, u < N → ∀ v, v < N → s.testBit u = false → s.testBit v = false → adj l u v = true → c u ≠ c v
theorem NLay.start (need : Nat → Nat) {all : Nat} (ha : ∀ v, v < N → all.testBit v = true) (c : Nat → Nat) : NLay l N need all all 0 c :=
  ⟨rfl, fun v hv h => (by rw [ha v hv] at h; cases h), fun u hu v _ h => (by rw [ha u hu] at h; cases h)⟩
theorem NLay.next {need last : Nat → Nat} {all s k : Nat} {c c' : Nat → Nat} (h : NLay l N need all s k c) (hs : NOk l N need last s) (h0 : s ≠ 0) (hc : ∀ v, v < N → c' v = if (last s).testBit v = true then k else c v) : NLay l N need all (less s (last s)) (k + 1) c' := by
  obtain ⟨g1, g2, g3, g4⟩ := hs.class_ h0
  have hf := freeB_iff.1 g3
  have hout : ∀ v, (less s (last s)).testBit v = false → (last s).testBit v = true ∨ ((last s).testBit v = false ∧ s.testBit v = false) := fun v hv => by
    rw [less_bit] at hv
    cases e1 : (last s).testBit v with
    | true => exact Or.inl rfl
    | false => rw [e1] at hv; simp at hv; exact Or.inr ⟨rfl, hv⟩
  refine ⟨by have := h.sum; omega, fun v hv hb => ?_, fun u hu v hv bu bv ha => ?_⟩
  · rw [hc v hv]
    rcases hout v hb with e | ⟨e, e2⟩
    · rw [if_pos e]; omega
    · rw [e, if_neg (by decide)]; have := h.below v hv e2; omega
  · rw [hc u hu, hc v hv]
    rcases hout u bu with e1 | ⟨e1, f1⟩ <;> rcases hout v bv with e2 | ⟨e2, f2⟩
    · rw [hf u hu v hv e1 e2] at ha; cases ha
    · rw [if_pos e1, e2, if_neg (by decide)]
      have := h.below v hv f2; omega
    · rw [e1, if_neg (by decide), if_pos e2]
      have := h.below u hu f1; omega
    · rw [e1, if_neg (by decide), e2, if_neg (by decide)]
      exact h.ok u hu v hv f1 f2 ha

/-- What colour.Number answers where all is well. -/
structure NumOk (l : List (Int × Int)) (N k : Nat) (c : Nat → Nat) : Prop where
  below : ∀ v, v < N → c v < k
  ok : ∀ u, u < N → ∀ v, v < N → adj l u v = true → c u ≠ c v
  no : ∀ j, j < k → ¬ ∃ d : Nat → Nat, (∀ u, u < N → d u < j) ∧ ∀ u, u < N → ∀ v, v < N → adj l u v = true → d u ≠ d v
theorem NLay.fin {need last : Nat → Nat} {all k : Nat} {c : Nat → Nat} (h : NLay l N need all 0 k c) (hall : NOk l N need last all) (hz : NOk l N need last 0) (ha : all < 2 ^ N) : NumOk l N k c := by
  have h1 : need 0 = 0 := by
    rcases Nat.eq_zero_or_pos (need 0) with e | e
    · exact e
    · exact absurd Col.zero (hz.no 0 e)
  have hk : k = need all := by have := h.sum; omega
  refine ⟨fun v hv => h.below v hv (by simp), fun u hu v hv ha => h.ok u hu v hv (by simp) (by simp) ha, fun j hj ⟨d, d1, d2⟩ => ?_⟩
  rw [hk] at hj
  exact hall.no j hj ⟨d, fun u hu => d1 u (bit_lt ha hu), fun u hu v hv _ _ hadj => d2 u hu v hv hadj⟩
end

end Go.Proofs.YtnhhohhhpaejmaaDoor
