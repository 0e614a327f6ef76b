/- Sets of nodes as numbers: the nodes that a node sees. Sums over the numbers below one: exchange, turning, what cancels. No program in sight. BIRKHOFF, in plain words: colourings by sets of nodes without an edge, one class behind the other. No program in sight. width.order: the order that is told, from its end. Plain. No program in sight. -/
import Derived.Test.YtnmljgjegodkaaaDoorGridOf
import Derived.Test.YtnmljgjegodkaaaDoorPA
namespace Go.Proofs.YtnmljgjegodkaaaDoor
open Go.RowKit

/-- The bits below n that r tells. -/
def maskOf (r : Nat → Bool) : Nat → Nat
  | 0 => 0
  | n + 1 => lor (maskOf r n) (if r n then pow2 n else 0)
theorem maskOf_bit (r : Nat → Bool) : ∀ n i, (maskOf r n).testBit i = (decide (i < n) && r i)
  | 0, i => by simp [maskOf]
  | n + 1, i => by
    rw [maskOf, lor_bit, maskOf_bit r n i]
    by_cases h : r n = true
    · rw [if_pos h, pow2_bit]
      by_cases e : n = i
      · subst e; simp [h]
      · have : (i < n + 1) ↔ i < n := by omega
        simp [e, this]
    · have h' : r n = false := by simpa using h
      rw [if_neg h]
      by_cases e : n = i
      · subst e; simp [h']
      · have : (i < n + 1) ↔ i < n := by omega
        simp [this]
theorem maskOf_few (r : Nat → Bool) {n : Nat} (h : n ≤ 62) : Few (maskOf r n) := by
  rw [Few, few_two]
  refine few_of_bit fun i hi => ?_
  rw [maskOf_bit] at hi
  simp at hi
  omega

/-- What is near node i. -/
def near (l : List (Int × Int)) (N i : Nat) : Nat := maskOf (adj l i) N

theorem near_nil (N i : Nat) : near [] N i = 0 := by
  refine Nat.eq_of_testBit_eq fun j => ?_
  unfold near
  rw [maskOf_bit]
  simp [adj, hasE]

theorem near_succ {l : List (Int × Int)} {k X Y N : Nat} (hk : k < l.length) (he : l.getD k (0, 0) = ((X : Int), (Y : Int))) (hX : X < N) (hY : Y < N) (hXY : X ≠ Y) (i : Nat) :
    (if i = Y then lor (near (l.take k) N Y) (pow2 X) else if i = X then lor (near (l.take k) N X) (pow2 Y) else near (l.take k) N i) = near (l.take (k + 1)) N i := by
  refine Nat.eq_of_testBit_eq fun j => ?_
  unfold near
  rw [maskOf_bit, ← adj_succ hk he]
  by_cases h1 : i = Y
  · subst h1
    rw [if_pos rfl, lor_bit, maskOf_bit, pow2_bit]
    by_cases e : j = X
    · subst e; simp [hX]
    · have e' : ¬ X = j := fun h => e h.symm
      simp [e, e', Ne.symm hXY]
  · rw [if_neg h1]
    by_cases h2 : i = X
    · subst h2
      rw [if_pos rfl, lor_bit, maskOf_bit, pow2_bit]
      by_cases e : j = Y
      · subst e; simp [hY, h1]
      · have e' : ¬ Y = j := fun h => e h.symm
        simp [e, e', h1]
    · rw [if_neg h2, maskOf_bit]
      simp [h1, h2]

/-- The masks under way. -/
structure MState (w wr : World) (s : Value) (b N : Nat) (M : Nat → Nat) : Prop where
  hb : Below w.heap.size w wr
  up : w.heap.size < b
  cs : wr.cell? ⟨w.heap.size, 1, none⟩ = some s
  row : wr.rowIs b 3 N (rn M)
theorem MState.below {w wr w' : World} {s : Value} {b N : Nat} {M : Nat → Nat} (h : MState w wr s b N M) (hb : Below wr.heap.size wr w') : MState w w' s b N M :=
  ⟨h.hb.trans (hb.mono h.hb.size), h.up, below_cell hb h.cs, h.row.of_block (hb.block _ h.row.lt)⟩
theorem MState.set {w wr : World} {s : Value} {b N : Nat} {M : Nat → Nat} (h : MState w wr s b N M) (x y : Nat) : MState w (wr.setCell ⟨b, x, none⟩ (.int .i64 (y : Int))) s b N (fun i => if i = x then y else M i) := by
  have := h.up
  refine ⟨h.hb.setCell (show w.heap.size ≤ b by omega) _, h.up, ?_, row_set_rn h.row x y⟩
  rw [World.cell?_setCell_far _ _ _ _ (show b ≠ w.heap.size by omega)]; exact h.cs
theorem MState.start (w : World) (n s : Value) (N : Nat) : MState w ((w.alloc (Obj.cells #[n, s] 24)).alloc (.cells (madeCells #[.int .i64 0] N) 3)) s (w.heap.size + 1) N (fun _ => 0) := by
  have c0 := two_cells w n s 24
  have h1 := World.rowIs_made (w.alloc (Obj.cells #[n, s] 24)) (.int .i64 0) N 3
  rw [World.size_alloc] at h1
  exact ⟨below2 _ _ _, by omega, below_cell (below1 _ _) c0.2, h1.congr fun i _ => rfl⟩

/-- The slice of n numbers that are told by a function, in a block of its own. -/
def NumsPost (N : Nat) (M : Nat → Nat) (w : World) (e : Ending) (w' : World) : Prop := ∃ b, e = .returned (.slice (some ⟨b, 0, none⟩) N N) ∧ w.heap.size ≤ b ∧ w'.rowIs b 3 N (rn M) ∧ Below w.heap.size w w'

end Go.Proofs.YtnmljgjegodkaaaDoor
namespace Go.Proofs.YtnmljgjegodkaaaDoor
open Go Go.RowKit

def sumI (f : Nat → Int) : Nat → Int
  | 0 => 0
  | n + 1 => sumI f n + f n
theorem sumI_congr {f g : Nat → Int} : ∀ {n : Nat}, (∀ i, i < n → f i = g i) → sumI f n = sumI g n
  | 0, _ => rfl
  | n + 1, h => by rw [sumI, sumI, sumI_congr fun i hi => h i (by omega), h n (by omega)]
theorem sumI_add (f g : Nat → Int) : ∀ n : Nat, sumI (fun i => f i + g i) n = sumI f n + sumI g n
  | 0 => rfl
  | n + 1 => by simp only [sumI, sumI_add f g n]; omega
theorem sumI_mul (c : Int) (f : Nat → Int) : ∀ n : Nat, sumI (fun i => c * f i) n = c * sumI f n
  | 0 => by simp [sumI]
  | n + 1 => by simp only [sumI, sumI_mul c f n, Int.mul_add]
theorem sumI_neg (f : Nat → Int) (n : Nat) : sumI (fun i => -f i) n = -sumI f n := by
  have := sumI_mul (-1) f n
  simp only [Int.neg_mul, Int.one_mul] at this
  exact this
theorem sumI_zero : ∀ n : Nat, sumI (fun _ => 0) n = 0
  | 0 => rfl
  | n + 1 => by rw [sumI, sumI_zero n]; rfl
theorem sumI_none {f : Nat → Int} {n : Nat} (h : ∀ i, i < n → f i = 0) : sumI f n = 0 := (sumI_congr h).trans (sumI_zero n)
theorem sumI_comm (f : Nat → Nat → Int) (m : Nat) : ∀ n : Nat, sumI (fun i => sumI (fun j => f i j) m) n = sumI (fun j => sumI (fun i => f i j) n) m
  | 0 => by simp only [sumI]; exact (sumI_zero m).symm
  | n + 1 => by
    simp only [sumI]
    rw [sumI_comm f m n, sumI_add]
theorem sumI_at (f : Nat → Int) (a : Nat) : ∀ n : Nat, sumI (fun i => if i = a then f i else 0) n = if a < n then f a else 0
  | 0 => by simp [sumI]
  | n + 1 => by
    rw [sumI, sumI_at f a n]
    by_cases h : a < n
    · rw [if_pos h, if_neg (by omega), if_pos (by omega)]; omega
    · rw [if_neg h]
      by_cases e : n = a
      · subst e; rw [if_pos rfl, if_pos (by omega)]; omega
      · rw [if_neg e, if_neg (by omega)]; omega
/-- One stands alone. -/
theorem sumI_one {f : Nat → Int} {a n : Nat} (ha : a < n) (h : ∀ i, i < n → i ≠ a → f i = 0) : sumI f n = f a := by
  rw [show sumI f n = sumI (fun i => if i = a then f i else 0) n from sumI_congr fun i hi => by
    by_cases e : i = a
    · rw [if_pos e]
    · rw [if_neg e, h i hi e], sumI_at, if_pos ha]
/-- What is turned has the same sum. -/
theorem sumI_turn {f g : Nat → Int} {n : Nat} (φ ψ : Nat → Nat) (hf : ∀ x, x < n → f x ≠ 0 → φ x < n ∧ ψ (φ x) = x ∧ g (φ x) = f x)
    (hg : ∀ z, z < n → g z ≠ 0 → ψ z < n ∧ φ (ψ z) = z ∧ f (ψ z) = g z) : sumI f n = sumI g n := by
  have h1 : sumI f n = sumI (fun x => sumI (fun z => if z = φ x then f x else 0) n) n := sumI_congr fun x hx => by
    rw [sumI_at (fun _ => f x)]
    by_cases h : f x = 0
    · rw [h]; split <;> rfl
    · rw [if_pos (hf x hx h).1]
  have h2 : sumI g n = sumI (fun z => sumI (fun x => if x = ψ z then g z else 0) n) n := sumI_congr fun z hz => by
    rw [sumI_at (fun _ => g z)]
    by_cases h : g z = 0
    · rw [h]; split <;> rfl
    · rw [if_pos (hg z hz h).1]
  rw [h1, h2, sumI_comm]
  refine sumI_congr fun z hz => sumI_congr fun x hx => ?_
  by_cases e1 : f x = 0
  · rw [e1, show (if z = φ x then (0 : Int) else 0) = 0 by split <;> rfl]
    by_cases e2 : x = ψ z
    · rw [if_pos e2]
      by_cases e3 : g z = 0
      · exact e3.symm
      · have := (hg z hz e3).2.2
        rw [← e2, e1] at this
        exact this
    · rw [if_neg e2]
  · obtain ⟨a1, a2, a3⟩ := hf x hx e1
    by_cases e2 : z = φ x
    · rw [if_pos e2, if_pos (by rw [e2]; exact a2.symm), e2, a3]
    · rw [if_neg e2]
      by_cases e3 : x = ψ z
      · rw [if_pos e3]
        by_cases e4 : g z = 0
        · exact e4.symm
        · exact absurd (by rw [e3]; exact ((hg z hz e4).2.1).symm) e2
      · rw [if_neg e3]
/-- What turns its sign under a turn that goes back is nothing. -/
theorem sumI_anti {f : Nat → Int} {n : Nat} (φ : Nat → Nat) (h : ∀ x, x < n → f x ≠ 0 → φ x < n ∧ φ (φ x) = x ∧ f (φ x) = -f x) : sumI f n = 0 := by
  have := sumI_turn (f := f) (g := fun x => -f x) (n := n) φ φ (fun x hx h0 => ⟨(h x hx h0).1, (h x hx h0).2.1, by rw [(h x hx h0).2.2]; omega⟩) (fun z hz h0 => by
    have h1 : f z ≠ 0 := fun e => h0 (by rw [e]; rfl)
    exact ⟨(h z hz h1).1, (h z hz h1).2.1, (h z hz h1).2.2⟩)
  rw [sumI_neg] at this
  omega
theorem sumI_two (f : Nat → Int) : ∀ n : Nat, sumI f (2 * n) = sumI (fun i => f (2 * i) + f (2 * i + 1)) n
  | 0 => rfl
  | n + 1 => by
    rw [show 2 * (n + 1) = 2 * n + 1 + 1 by omega, sumI, sumI, sumI, sumI_two f n]; omega
theorem sumI_le {f g : Nat → Int} : ∀ {n : Nat}, (∀ i, i < n → f i ≤ g i) → sumI f n ≤ sumI g n
  | 0, _ => Int.le_refl _
  | n + 1, h => by
    have h1 := sumI_le (n := n) fun i hi => h i (by omega)
    have h2 := h n (by omega)
    rw [sumI, sumI]; omega
theorem sumI_lt {f g : Nat → Int} {n a : Nat} (h : ∀ i, i < n → f i ≤ g i) (ha : a < n) (hs : f a < g a) : sumI f n < sumI g n := by
  induction n with
  | zero => omega
  | succ n ih =>
    rw [sumI, sumI]
    have h2 := h n (by omega)
    by_cases e : a = n
    · subst e
      have := sumI_le (n := a) (f := f) (g := g) fun i hi => h i (by omega)
      omega
    · have := ih (fun i hi => h i (by omega)) (by omega)
      omega

/-- Falling powers of any number. -/
def ffI (x : Int) : Nat → Int
  | 0 => 1
  | k + 1 => ffI x k * (x - k)
theorem ffI_back (x : Int) : ∀ k : Nat, ffI x (k + 1) = ffI (x - 1) (k + 1) + (k + 1) * ffI (x - 1) k
  | 0 => by simp only [ffI]; grind
  | k + 1 => by
    have h := ffI_back x k
    have e1 : ffI x (k + 1 + 1) = ffI x (k + 1) * (x - (k + 1)) := by rw [ffI]; push_cast; rfl
    have e2 : ffI (x - 1) (k + 1 + 1) = ffI (x - 1) (k + 1) * (x - 1 - (k + 1)) := by rw [ffI]; push_cast; rfl
    have e3 : ffI (x - 1) (k + 1) = ffI (x - 1) k * (x - 1 - k) := rfl
    rw [e1, e2, h, e3]
    push_cast
    generalize ffI (x - 1) k = G
    generalize (k : Int) = K
    grind
theorem ffI_zero : ∀ k : Nat, 0 < k → ffI 0 k = 0
  | 0, h => by omega
  | 1, _ => by simp [ffI]
  | k + 2, _ => by rw [ffI, ffI_zero (k + 1) (by omega), Int.zero_mul]
theorem ffI_nil {n : Nat} : ∀ k : Nat, n < k → ffI n k = 0
  | 0, h => by omega
  | k + 1, h => by
    rw [ffI]
    by_cases e : n < k
    · rw [ffI_nil k e, Int.zero_mul]
    · have : n = k := by omega
      subst this
      rw [Int.sub_self, Int.mul_zero]

end Go.Proofs.YtnmljgjegodkaaaDoor
namespace Go.Proofs.YtnmljgjegodkaaaDoor
open Go Go.RowKit

/-! Sets as numbers. -/
theorem sub_iff {s x : Nat} : land s x = s ↔ ∀ i, s.testBit i = true → x.testBit i = true := by
  constructor
  · intro h i hi
    have := congrArg (fun z => z.testBit i) h
    simp only [land_bit, hi] at this
    simpa using this
  · intro h
    refine Nat.eq_of_testBit_eq fun i => ?_
    rw [land_bit]
    have := h i
    cases e : s.testBit i <;> simp_all
theorem bit_ltN {s N i : Nat} (hs : s < 2 ^ N) (h : s.testBit i = true) : i < N := by
  rcases Nat.lt_or_ge i N with h' | h'
  · exact h'
  · have : s < 2 ^ i := Nat.lt_of_lt_of_le hs (Nat.pow_le_pow_right (by decide) h')
    rw [Nat.testBit_lt_two_pow this] at h
    cases h
theorem all_bit {N i : Nat} : (2 ^ N - 1).testBit i = decide (i < N) := Nat.testBit_two_pow_sub_one N i
theorem mask_lt {s N : Nat} (h : ∀ i, s.testBit i = true → i < N) : s < 2 ^ N := few_of_bit h
theorem ex_mask (r : Nat → Bool) : ∀ n : Nat, ∃ m, m < 2 ^ n ∧ ∀ i, m.testBit i = (decide (i < n) && r i)
  | 0 => ⟨0, by decide, fun i => by simp⟩
  | n + 1 => by
    obtain ⟨m, hm, hb⟩ := ex_mask r n
    have key : ∀ i, (lor m (if r n then pow2 n else 0)).testBit i = (decide (i < n + 1) && r i) := fun i => by
      rw [lor_bit, hb]
      by_cases e : i = n
      · subst e
        cases e : r i <;> simp [e, pow2_bit]
      · have e1 : (if r n then pow2 n else 0).testBit i = false := by
          cases r n
          · simp
          · simp [pow2_bit]; omega
        have e2 : decide (i < n + 1) = decide (i < n) := by by_cases h : i < n <;> simp [h] <;> omega
        rw [e1, e2]; simp
    refine ⟨_, mask_lt fun i hi => ?_, key⟩
    rw [key] at hi
    simp at hi
    exact hi.1

/-- How many. -/
def card : Nat → Nat → Nat
  | 0, _ => 0
  | n + 1, s => card n s + if s.testBit n then 1 else 0
theorem card_le : ∀ (n s : Nat), card n s ≤ n
  | 0, _ => Nat.le_refl _
  | n + 1, s => by have := card_le n s; rw [card]; split <;> omega
theorem card_zero : ∀ (n : Nat), card n 0 = 0
  | 0 => rfl
  | n + 1 => by rw [card, card_zero n]; simp
theorem card_all : ∀ (n : Nat) {N : Nat}, n ≤ N → card n (2 ^ N - 1) = n
  | 0, _, _ => rfl
  | n + 1, N, h => by rw [card, card_all n (by omega), all_bit, if_pos (by simp; omega)]
theorem card_split {s x : Nat} (h : land s x = s) : ∀ n : Nat, card n x = card n s + card n (less x s)
  | 0 => rfl
  | n + 1 => by
    have h1 := sub_iff.1 h n
    rw [card, card, card, card_split h n, less_bit]
    cases e1 : s.testBit n <;> cases e2 : x.testBit n <;> simp_all <;> omega
theorem card_pos {t i : Nat} (h : t.testBit i = true) : ∀ {n : Nat}, i < n → 0 < card n t
  | 0, hn => by omega
  | n + 1, hn => by
    rw [card]
    by_cases e : i = n
    · subst e; rw [if_pos h]; omega
    · have := card_pos h (n := n) (by omega); omega

/-! One class behind the other. -/
structure Low (N : Nat) (low : Nat → Nat) : Prop where
  out : ∀ s, s < 2 ^ N → s ≠ 2 ^ N - 1 → low s < N ∧ s.testBit (low s) = false
  same : ∀ s z, s < 2 ^ N → z < 2 ^ N → s ≠ 2 ^ N - 1 → land s z = s → z.testBit (low s) = false → low z = low s

def stA (N : Nat) (low : Nat → Nat) (free : Nat → Bool) (s x : Nat) : Int := if s ≠ 2 ^ N - 1 ∧ land s x = s ∧ x.testBit (low s) = true ∧ free (less x s) = true then 1 else 0
def stB (free : Nat → Bool) (s x : Nat) : Int := if land s x = s ∧ s ≠ x ∧ free (less x s) = true then 1 else 0
def stC (N : Nat) (low : Nat → Nat) (free : Nat → Bool) (s x : Nat) : Int := if (s ≠ 2 ^ N - 1 ∧ land s x = s ∧ s ≠ x ∧ free (less x s) = true) ∧ x.testBit (low s) = false then 1 else 0
def wayR (N : Nat) (low : Nat → Nat) (free : Nat → Bool) : Nat → Nat → Int
  | 0, s => if s = 2 ^ N - 1 then 1 else 0
  | k + 1, s => sumI (fun x => stA N low free s x * wayR N low free k x) (2 ^ N)

variable {N : Nat} {low : Nat → Nat} {free : Nat → Bool}
theorem ite_ne {P : Prop} [Decidable P] (h : (if P then (1 : Int) else 0) ≠ 0) : P := by
  by_cases hp : P
  · exact hp
  · rw [if_neg hp] at h; exact absurd rfl h
theorem all_of_sub {s x : Nat} (hx : x < 2 ^ N) (h : land s x = s) (e : s = 2 ^ N - 1) : x = s := by
  subst e
  refine Nat.eq_of_testBit_eq fun i => ?_
  have h1 := sub_iff.1 h i
  rw [all_bit] at *
  by_cases hi : i < N
  · rw [h1 (by simpa using hi)]; simp [hi]
  · cases e2 : x.testBit i
    · simp [hi]
    · exact absurd (bit_ltN hx e2) hi
theorem stB_split (hl : Low N low) {s x : Nat} (hs : s < 2 ^ N) (hx : x < 2 ^ N) : stB free s x = stA N low free s x + stC N low free s x := by
  unfold stA stB stC
  by_cases e : s = 2 ^ N - 1
  · rw [if_neg (fun h => h.2.1 (all_of_sub hx h.1 e).symm), if_neg (fun h => h.1 e), if_neg (fun h => h.1.1 e)]; rfl
  · by_cases h1 : land s x = s ∧ free (less x s) = true
    · cases h2 : x.testBit (low s)
      · rw [if_neg (show ¬ (s ≠ 2 ^ N - 1 ∧ land s x = s ∧ false = true ∧ free (less x s) = true) from fun h => by cases h.2.2.1)]
        by_cases h3 : s ≠ x
        · rw [if_pos ⟨h1.1, h3, h1.2⟩, if_pos ⟨⟨e, h1.1, h3, h1.2⟩, rfl⟩]; rfl
        · rw [if_neg fun h => h3 h.2.1, if_neg fun h => h3 h.1.2.2.1]; rfl
      · have h3 : s ≠ x := fun h3 => by
          have := (hl.out s hs e).2
          rw [h3] at this
          rw [h3, this] at h2
          cases h2
        rw [if_pos ⟨h1.1, h3, h1.2⟩, if_pos ⟨e, h1.1, rfl, h1.2⟩, if_neg fun h => by cases h.2]; rfl
    · rw [if_neg fun h => h1 ⟨h.1, h.2.2⟩, if_neg fun h => h1 ⟨h.2.1, h.2.2.2⟩, if_neg fun h => h1 ⟨h.1.2.1, h.1.2.2.2⟩]; rfl
theorem lor_back {s y : Nat} (h : land s y = s) : lor s (less y s) = y := Nat.eq_of_testBit_eq fun i => by
  have h1 := sub_iff.1 h i
  rw [lor_bit, less_bit]
  cases e1 : s.testBit i <;> cases e2 : y.testBit i <;> simp_all
theorem stAB (hl : Low N low) {s y : Nat} (hs : s < 2 ^ N) (hy : y < 2 ^ N) :
    sumI (fun x => stA N low free s x * stB free x y) (2 ^ N) = sumI (fun z => stC N low free s z * stA N low free z y) (2 ^ N) := by
  have hb : ∀ x i, (lor s (less y x)).testBit i = (s.testBit i || (y.testBit i && !x.testBit i)) := fun x i => by rw [lor_bit, less_bit]
  have hm : land s y = s → ∀ x, lor s (less y x) < 2 ^ N := fun h x => mask_lt fun i hi => by
    rw [hb] at hi
    have := sub_iff.1 h i
    refine bit_ltN hy (i := i) ?_
    cases e1 : s.testBit i <;> cases e2 : y.testBit i <;> simp_all
  have hback : ∀ x, land s x = s → land x y = x → lor s (less y (lor s (less y x))) = x := fun x h1 h2 => Nat.eq_of_testBit_eq fun i => by
    have h1 := sub_iff.1 h1 i
    have h2 := sub_iff.1 h2 i
    rw [hb, hb]
    cases e1 : s.testBit i <;> cases e2 : y.testBit i <;> cases e3 : x.testBit i <;> simp_all
  have hl1 : ∀ x, land s x = s → less (lor s (less y x)) s = less y x := fun x h1 => Nat.eq_of_testBit_eq fun i => by
    have h1 := sub_iff.1 h1 i
    rw [less_bit, hb, less_bit]
    cases e1 : s.testBit i <;> cases e2 : y.testBit i <;> cases e3 : x.testBit i <;> simp_all
  have hl2 : ∀ x, land s x = s → land x y = x → less y (lor s (less y x)) = less x s := fun x h1 h2 => Nat.eq_of_testBit_eq fun i => by
    have h1 := sub_iff.1 h1 i
    have h2 := sub_iff.1 h2 i
    rw [less_bit, hb, less_bit]
    cases e1 : s.testBit i <;> cases e2 : y.testBit i <;> cases e3 : x.testBit i <;> simp_all
  have hs1 : ∀ x, land s (lor s (less y x)) = s := fun x => sub_iff.2 fun i hi => by rw [hb, hi]; rfl
  have hs2 : land s y = s → ∀ x, land (lor s (less y x)) y = lor s (less y x) := fun h x => sub_iff.2 fun i hi => by
    have h1 := sub_iff.1 h i
    rw [hb] at hi
    cases e1 : s.testBit i <;> cases e2 : y.testBit i <;> simp_all
  have htr : ∀ {a b c : Nat}, land a b = a → land b c = b → land a c = a := fun h1 h2 => sub_iff.2 fun i hi => sub_iff.1 h2 i (sub_iff.1 h1 i hi)
  have self : lor s (less y y) = s := Nat.eq_of_testBit_eq fun i => by rw [hb]; cases s.testBit i <;> cases y.testBit i <;> rfl
  refine sumI_turn (fun x => lor s (less y x)) (fun x => lor s (less y x)) ?_ ?_
  · intro x hx h
    have hA := ite_ne (fun e => h (by rw [show stA N low free s x = 0 from e]; simp))
    have hB := ite_ne (fun e => h (by rw [show stB free x y = 0 from e]; simp))
    obtain ⟨a1, a2, a3, a4⟩ := hA
    obtain ⟨b1, b2, b3⟩ := hB
    have hsy := htr a2 b1
    have hlz : (lor s (less y x)).testBit (low s) = false := by rw [hb, (hl.out s hs a1).2, a3]; simp
    have hsame := hl.same s _ hs (hm hsy x) a1 (hs1 x) hlz
    refine ⟨hm hsy x, hback x a2 b1, ?_⟩
    have hne : s ≠ lor s (less y x) := fun e => b2 (by
      have h9 := hback x a2 b1
      rw [← e] at h9
      rw [← h9]
      exact lor_back hsy)
    have e1 : stC N low free s (lor s (less y x)) = 1 := if_pos ⟨⟨a1, hs1 x, hne, (by rw [hl1 x a2]; exact b3)⟩, hlz⟩
    have e2 : stA N low free (lor s (less y x)) y = 1 := if_pos ⟨fun e => by
      rw [e, all_bit] at hlz
      exact of_decide_eq_false hlz (hl.out s hs a1).1, hs2 hsy x, by rw [hsame]; exact sub_iff.1 b1 _ a3, by rw [hl2 x a2 b1]; exact a4⟩
    have e3 : stA N low free s x = 1 := if_pos ⟨a1, a2, a3, a4⟩
    have e4 : stB free x y = 1 := if_pos ⟨b1, b2, b3⟩
    rw [e1, e2, e3, e4]
  · intro z hz h
    have hC := ite_ne (fun e => h (by rw [show stC N low free s z = 0 from e]; simp))
    have hA := ite_ne (fun e => h (by rw [show stA N low free z y = 0 from e]; simp))
    obtain ⟨⟨c1, c2, c3, c4⟩, c5⟩ := hC
    obtain ⟨a1, a2, a3, a4⟩ := hA
    have hsy := htr c2 a2
    have hsame := hl.same s z hs hz c1 c2 c5
    rw [hsame] at a3
    refine ⟨hm hsy z, hback z c2 a2, ?_⟩
    have e1 : stA N low free s (lor s (less y z)) = 1 := if_pos ⟨c1, hs1 z, by rw [hb, a3, c5]; simp, by rw [hl1 z c2]; exact a4⟩
    have e2 : stB free (lor s (less y z)) y = 1 := if_pos ⟨hs2 hsy z, fun e => c3 (by
      have := hback z c2 a2
      rw [e, self] at this
      exact this), by rw [hl2 z c2 a2]; exact c4⟩
    have e3 : stC N low free s z = 1 := if_pos ⟨⟨c1, c2, c3, c4⟩, c5⟩
    have e4 : stA N low free z y = 1 := if_pos ⟨a1, a2, by rw [hsame]; exact a3, a4⟩
    rw [e1, e2, e3, e4]

/-- Any one of the classes first. -/
theorem wayR_any (hl : Low N low) : ∀ (k : Nat) {s : Nat}, s < 2 ^ N → ((k : Int) + 1) * wayR N low free (k + 1) s = sumI (fun x => stB free s x * wayR N low free k x) (2 ^ N)
  | 0, s, hs => by
    have hp : 0 < 2 ^ N := Nat.two_pow_pos N
    have e : ∀ F : Nat → Int, sumI (fun x => F x * wayR N low free 0 x) (2 ^ N) = F (2 ^ N - 1) := fun F => by
      have : sumI (fun x => F x * wayR N low free 0 x) (2 ^ N) = F (2 ^ N - 1) * wayR N low free 0 (2 ^ N - 1) := sumI_one (a := 2 ^ N - 1) (by omega) fun i _ hi => by rw [wayR, if_neg hi]; simp
      rw [this, wayR, if_pos rfl]; simp
    rw [wayR, e, e, stB_split hl hs (by omega)]
    have : stC N low free s (2 ^ N - 1) = 0 := if_neg fun h => by
      have h1 := (hl.out s hs h.1.1).1
      have h2 := h.2
      rw [all_bit] at h2
      simp at h2; omega
    rw [this]; simp
  | k + 1, s, hs => by
    have ih : ∀ x, x < 2 ^ N → ((k : Int) + 1) * wayR N low free (k + 1) x = sumI (fun y => stB free x y * wayR N low free k y) (2 ^ N) := fun x hx => wayR_any hl k hx
    have e1 : sumI (fun x => stB free s x * wayR N low free (k + 1) x) (2 ^ N) = wayR N low free (k + 1 + 1) s + sumI (fun x => stC N low free s x * wayR N low free (k + 1) x) (2 ^ N) := by
      rw [wayR, ← sumI_add]
      exact sumI_congr fun x hx => by rw [stB_split hl hs hx, Int.add_mul]
    have e2 : sumI (fun x => stC N low free s x * wayR N low free (k + 1) x) (2 ^ N) = sumI (fun x => stA N low free s x * (((k : Int) + 1) * wayR N low free (k + 1) x)) (2 ^ N) := by
      have l1 : ∀ F G : Nat → Nat → Int, sumI (fun x => F s x * sumI (fun y => G x y * wayR N low free k y) (2 ^ N)) (2 ^ N) = sumI (fun y => wayR N low free k y * sumI (fun x => F s x * G x y) (2 ^ N)) (2 ^ N) := fun F G => by
        rw [show sumI (fun x => F s x * sumI (fun y => G x y * wayR N low free k y) (2 ^ N)) (2 ^ N) = sumI (fun x => sumI (fun y => F s x * (G x y * wayR N low free k y)) (2 ^ N)) (2 ^ N) from sumI_congr fun x _ => (sumI_mul _ _ _).symm, sumI_comm]
        refine sumI_congr fun y _ => ?_
        rw [← sumI_mul]
        exact sumI_congr fun x _ => by grind
      rw [show sumI (fun x => stA N low free s x * (((k : Int) + 1) * wayR N low free (k + 1) x)) (2 ^ N) = sumI (fun x => stA N low free s x * sumI (fun y => stB free x y * wayR N low free k y) (2 ^ N)) (2 ^ N) from sumI_congr fun x hx => by rw [ih x hx],
        show sumI (fun x => stC N low free s x * wayR N low free (k + 1) x) (2 ^ N) = sumI (fun x => stC N low free s x * sumI (fun y => stA N low free x y * wayR N low free k y) (2 ^ N)) (2 ^ N) from rfl, l1 (stC N low free) (stA N low free), l1 (stA N low free) (stB free)]
      exact sumI_congr fun y hy => by rw [stAB hl hs hy]
    have e3 : sumI (fun x => stA N low free s x * (((k : Int) + 1) * wayR N low free (k + 1) x)) (2 ^ N) = ((k : Int) + 1) * wayR N low free (k + 1 + 1) s := by
      rw [show wayR N low free (k + 1 + 1) s = sumI (fun x => stA N low free s x * wayR N low free (k + 1) x) (2 ^ N) from rfl, ← sumI_mul]
      exact sumI_congr fun x _ => by grind
    rw [e1, e2, e3]
    push_cast
    grind
theorem wayR_nil (hl : Low N low) : ∀ (k : Nat) {s : Nat}, s < 2 ^ N → N < k + card N s → wayR N low free k s = 0
  | 0, s, _, h => by have := card_le N s; omega
  | k + 1, s, hs, h => by
    rw [wayR]
    refine sumI_none fun x hx => ?_
    by_cases h0 : stA N low free s x = 0
    · rw [h0]; simp
    · obtain ⟨a1, a2, a3, a4⟩ := ite_ne h0
      have h1 := card_split a2 N
      have h2 := card_pos (t := less x s) (i := low s) (by rw [less_bit, a3, (hl.out s hs a1).2]; rfl) (n := N) (hl.out s hs a1).1
      rw [wayR_nil hl k hx (by omega)]; simp

/-- The polynomial, at s gone. -/
def polS (N : Nat) (low : Nat → Nat) (free : Nat → Bool) (K s : Nat) (x : Int) : Int := sumI (fun k => wayR N low free k s * ffI x k) K
theorem polS_back (hl : Low N low) : ∀ (K : Nat) {s : Nat} (x : Int), s < 2 ^ N → polS N low free (K + 1) s x = polS N low free (K + 1) s (x - 1) + sumI (fun y => stB free s y * polS N low free K y (x - 1)) (2 ^ N)
  | 0, s, x, _ => by
    unfold polS
    simp only [sumI, ffI]
    rw [sumI_none fun i _ => by simp]; omega
  | K + 1, s, x, hs => by
    have ih := polS_back hl K (s := s) x hs
    have h1 := wayR_any (free := free) hl K hs
    have e1 : ∀ K x, polS N low free (K + 1) s x = polS N low free K s x + wayR N low free K s * ffI x K := fun _ _ => rfl
    have e2 : sumI (fun y => stB free s y * polS N low free (K + 1) y (x - 1)) (2 ^ N) = sumI (fun y => stB free s y * polS N low free K y (x - 1)) (2 ^ N) + sumI (fun y => stB free s y * wayR N low free K y) (2 ^ N) * ffI (x - 1) K := by
      rw [Int.mul_comm _ (ffI (x - 1) K), ← sumI_mul, ← sumI_add]
      exact sumI_congr fun y _ => by
        rw [show polS N low free (K + 1) y (x - 1) = polS N low free K y (x - 1) + wayR N low free K y * ffI (x - 1) K from rfl]
        grind
    rw [e1 (K + 1) x, ih, e1 (K + 1) (x - 1), e2, ← h1, ffI_back]
    grind
def polF' (N : Nat) (low : Nat → Nat) (free : Nat → Bool) (s : Nat) (x : Int) : Int := polS N low free (N + 1) s x
theorem polF'_back (hl : Low N low) {s : Nat} (x : Int) (hs : s < 2 ^ N) : polF' N low free s x = polF' N low free s (x - 1) + sumI (fun y => stB free s y * polF' N low free y (x - 1)) (2 ^ N) := by
  unfold polF'
  rw [polS_back hl N x hs]
  congr 1
  refine sumI_congr fun y hy => ?_
  by_cases h0 : stB free s y = 0
  · rw [h0]; simp
  · obtain ⟨b1, b2, b3⟩ := ite_ne h0
    have h1 := card_split b1 N
    have h2 : 0 < card N (less y s) := by
      rcases Nat.eq_zero_or_pos (card N (less y s)) with e | e
      · refine absurd (Nat.eq_of_testBit_eq fun i => ?_) b2
        have h3 := sub_iff.1 b1 i
        cases e2 : y.testBit i
        · cases e3 : s.testBit i
          · rfl
          · rw [h3 e3] at e2; cases e2
        · cases e3 : s.testBit i
          · have := card_pos (t := less y s) (i := i) (by rw [less_bit, e2, e3]; rfl) (bit_ltN hy e2)
            omega
          · rfl
      · exact e
    rw [show polS N low free (N + 1) y (x - 1) = polS N low free N y (x - 1) + wayR N low free N y * ffI (x - 1) N from rfl, wayR_nil hl N hy (by omega)]
    simp
theorem polF'_zero (s : Nat) : polF' N low free s 0 = if s = 2 ^ N - 1 then 1 else 0 := by
  unfold polF' polS
  have := sumI_one (f := fun k => wayR N low free k s * ffI 0 k) (a := 0) (n := N + 1) (by omega) fun i _ hi => by
    rw [ffI_zero i (by omega)]; simp
  rw [this]
  simp [ffI, wayR]

/-- What is built up in the same way is the same. -/
theorem polF'_up (hl : Low N low) {C : Nat → Nat → Int} (h0 : ∀ s, s < 2 ^ N → C 0 s = if s = 2 ^ N - 1 then 1 else 0)
    (h1 : ∀ x s, s < 2 ^ N → C (x + 1) s = C x s + sumI (fun y => stB free s y * C x y) (2 ^ N)) : ∀ (x : Nat) {s : Nat}, s < 2 ^ N → C x s = polF' N low free s x
  | 0, s, hs => by rw [h0 s hs]; exact (polF'_zero s).symm
  | x + 1, s, hs => by
    rw [h1 x s hs, polF'_back hl _ hs, show (((x + 1 : Nat) : Int) - 1) = (x : Int) by omega, polF'_up hl h0 h1 x hs]
    congr 1
    exact sumI_congr fun y hy => by rw [polF'_up hl h0 h1 x hy]
theorem polF'_down (hl : Low N low) {b : Nat → Int} (h1 : ∀ s, s < 2 ^ N → b s + sumI (fun y => stB free s y * b y) (2 ^ N) = if s = 2 ^ N - 1 then 1 else 0) :
    ∀ (n : Nat) {s : Nat}, s < 2 ^ N → 2 ^ N ≤ s + n → b s = polF' N low free s (-1)
  | 0, s, hs, hn => by omega
  | n + 1, s, hs, hn => by
    have e1 := h1 s hs
    have e2 := polF'_back (free := free) hl 0 hs
    rw [polF'_zero, show (0 - 1 : Int) = -1 from rfl] at e2
    have e3 : sumI (fun y => stB free s y * b y) (2 ^ N) = sumI (fun y => stB free s y * polF' N low free y (-1)) (2 ^ N) := sumI_congr fun y hy => by
      by_cases h0 : stB free s y = 0
      · rw [h0]; simp
      · obtain ⟨b1, b2, b3⟩ := ite_ne h0
        have h3 : s ≤ y := by rw [← b1]; exact Nat.and_le_right
        rw [polF'_down hl h1 n hy (by omega)]
    rw [e3] at e1
    omega

end Go.Proofs.YtnmljgjegodkaaaDoor
namespace Go.Proofs.YtnmljgjegodkaaaDoor
open Go Go.RowKit

/-- What stands ahead of the one that is told at place j. -/
def aheadO (N : Nat) (o : List Nat) (j : Nat) : Nat → Bool := fun q => decide (q < N) && decide (q ∉ o.take (j + 1))
/-- While the order is told from its end: s is what is left. -/
structure WoT (N : Nat) (G : Nat → Nat → Bool) (b : Nat → Nat) (s : Nat) (o : List Nat) : Prop where
  lt : s < 2 ^ N
  nd : o.Nodup
  rng : ∀ u ∈ o, u < N
  left : ∀ u, u < N → (s.testBit u = true ↔ u ∉ o)
  le : ∀ j, j < o.length → degB N G (aheadO N o j) (o.getD j 0) ≤ b (2 ^ N - 1)
  bs : b s ≤ b (2 ^ N - 1)
  at' : b s = b (2 ^ N - 1) ∨ ∃ j, j < o.length ∧ degB N G (aheadO N o j) (o.getD j 0) = b (2 ^ N - 1)
section
variable {N s v : Nat} {G : Nat → Nat → Bool} {b la : Nat → Nat} {o : List Nat}
theorem WoT.start : WoT N G b (2 ^ N - 1) [] where
  lt := by have := Nat.two_pow_pos N; omega
  nd := by simp
  rng u hu := by cases hu
  left u hu := by rw [Nat.testBit_two_pow_sub_one]; simp [hu]
  le j hj := absurd hj (Nat.not_lt_zero _)
  bs := Nat.le_refl _
  at' := .inl rfl
theorem ahead_snoc {j : Nat} (hj : j < o.length) : aheadO N (o ++ [v]) j = aheadO N o j := by
  funext q
  unfold aheadO
  rw [List.take_append_of_le_length (by omega)]
theorem WoT.next (h : WoT N G b s o) (hok : WoOk N G b la s) (h0 : s ≠ 0) : s.testBit (la s) = true ∧ la s < N ∧ less s (pow2 (la s)) < s ∧ WoT N G b (less s (pow2 (la s))) (o ++ [la s]) := by
  obtain ⟨⟨h1, h2, h3⟩, -⟩ := hok.2.1 h0
  have hlt := less_lt h1
  have hno := (h.left _ h2).1 h1
  have hleft : ∀ u, u < N → ((less s (pow2 (la s))).testBit u = true ↔ u ∉ o ++ [la s]) := fun u hu => by
    rw [less_bit, pow2_bit, List.mem_append, List.mem_singleton, Bool.and_eq_true, h.left u hu]
    simp only [Bool.not_eq_true', decide_eq_false_iff_not]
    constructor
    · rintro ⟨k1, k2⟩ (k | k)
      · exact k1 k
      · exact k2 k.symm
    · intro k
      exact ⟨fun m => k (.inl m), fun e => k (.inr e.symm)⟩
  have hd : degB N G (aheadO N (o ++ [la s]) o.length) (la s) = degB N G (bitsF (less s (pow2 (la s)))) (la s) := degB_congr fun q hq => by
    unfold aheadO
    rw [List.take_of_length_le (by rw [List.length_append, List.length_singleton]; exact Nat.le_refl _)]
    rw [Bool.eq_iff_iff, Bool.and_eq_true, decide_eq_true_iff, decide_eq_true_iff, hleft q hq]
    exact ⟨fun k => k.2, fun k => ⟨hq, k⟩⟩
  have hat : (o ++ [la s]).getD o.length 0 = la s := by simp [List.getD]
  have hol : ∀ j, j < o.length → (o ++ [la s]).getD j 0 = o.getD j 0 := fun j hj => by rw [List.getD, List.getElem?_append_left hj]; rfl
  have hb := h.bs
  refine ⟨h1, h2, hlt, ⟨Nat.lt_trans hlt h.lt, ?_, fun u hu => ?_, hleft, fun j hj => ?_, by omega, ?_⟩⟩
  · rw [List.nodup_append]
    exact ⟨h.nd, by simp, fun x hx y hy e => by rw [List.mem_singleton] at hy; subst hy; exact hno (e ▸ hx)⟩
  · rcases List.mem_append.1 hu with hu | hu
    · exact h.rng u hu
    · rw [List.mem_singleton] at hu; subst hu; exact h2
  · rw [List.length_append, List.length_singleton] at hj
    by_cases e : j = o.length
    · subst e; rw [hat, hd]; omega
    · rw [ahead_snoc (by omega), hol j (by omega)]; exact h.le j (by omega)
  · rcases h.at' with k | ⟨j, hj, k⟩
    · rcases Nat.le_total (b (less s (pow2 (la s)))) (degB N G (bitsF (less s (pow2 (la s)))) (la s)) with m | m
      · refine .inr ⟨o.length, by simp, ?_⟩
        rw [hat, hd]; omega
      · left; omega
    · exact .inr ⟨j, by rw [List.length_append]; omega, by rw [ahead_snoc hj, hol j hj]; exact k⟩
theorem WoT.full (h : WoT N G b 0 o) : o.length = N ∧ ∀ u, u < N → u ∈ o := by
  have hall : ∀ u, u < N → u ∈ o := fun u hu => Classical.byContradiction fun k => by
    have := (h.left u hu).2 k
    rw [Nat.zero_testBit] at this; cases this
  refine ⟨?_, hall⟩
  have hp : o.Perm (List.range N) := (List.perm_ext_iff_of_nodup h.nd List.nodup_range).2 fun u => by
    rw [List.mem_range]
    exact ⟨h.rng u, hall u⟩
  have := hp.length_eq
  rwa [List.length_range] at this
theorem WoT.fin (h : WoT N G b 0 o) (h0 : b 0 = 0) : Ord N o.reverse ∧ WidL N G o.reverse (b (2 ^ N - 1)) := by
  obtain ⟨hlen, hall⟩ := h.full
  have hO : Ord N o.reverse := ⟨by rw [List.length_reverse, hlen], List.pairwise_reverse.2 (h.nd.imp fun k e => k e.symm), fun v hv => h.rng v (List.mem_reverse.1 hv)⟩
  have hat : ∀ i, i < N → o.reverse.getD i 0 = o.getD (N - 1 - i) 0 := fun i hi => by
    rw [List.getD, List.getD, List.getElem?_eq_getElem (by rw [List.length_reverse, hlen]; exact hi), List.getElem?_eq_getElem (by omega), List.getElem_reverse]
    simp only [Option.getD_some]
    congr 1
    omega
  have hgone : ∀ i, i < N → ∀ q, q < N → goneL o.reverse i q = aheadO N o (N - 1 - i) q := fun i hi q hq => by
    obtain ⟨k, hk, e⟩ := List.getElem_of_mem (hall q hq)
    have e2 : o.reverse.getD (N - 1 - k) 0 = q := by
      rw [hat _ (by omega), show N - 1 - (N - 1 - k) = k by omega, List.getD, List.getElem?_eq_getElem hk]; exact e
    have h1 := gone_iff hO (i := i) (show N - 1 - k < N by omega)
    rw [e2] at h1
    rw [Bool.eq_iff_iff, h1]
    unfold aheadO
    rw [Bool.and_eq_true, decide_eq_true_iff, decide_eq_true_iff, List.mem_take_iff_getElem]
    constructor
    · intro hlt
      refine ⟨hq, ?_⟩
      rintro ⟨m, hm, em⟩
      have hml : m < o.length := by omega
      have := (List.getElem_inj (h₀ := hml) (h₁ := hk) h.nd).1 (em.trans e.symm)
      omega
    · rintro ⟨-, hno⟩
      refine Classical.byContradiction fun hge => hno ⟨k, by omega, e⟩
  have hd : ∀ i, i < N → degB N G (goneL o.reverse i) (o.reverse.getD i 0) = degB N G (aheadO N o (N - 1 - i)) (o.getD (N - 1 - i) 0) := fun i hi => by
    rw [hat i hi]; exact degB_congr (hgone i hi)
  refine ⟨hO, fun i hi => ?_, ?_⟩
  · rw [hd i hi]; exact h.le _ (by omega)
  · rcases h.at' with k | ⟨j, hj, k⟩
    · left; omega
    · refine .inr ⟨N - 1 - j, by omega, ?_⟩
      rw [hd _ (by omega), show N - 1 - (N - 1 - j) = j by omega]; exact k
end
theorem card_cntN (s : Nat) : ∀ n, card n s = cntN n fun u => s.testBit u
  | 0 => rfl
  | n + 1 => by rw [card, cntN_succ, card_cntN s n]
/-- The set that width.beyond tells. -/
noncomputable def beyM (N : Nat) (G : Nat → Nat → Bool) (set v : Nat) : Nat := maskOf (bey N G (bitsF set) v) N
theorem beyM_bit {N set v : Nat} {G : Nat → Nat → Bool} (u : Nat) : (beyM N G set v).testBit u = bey N G (bitsF set) v u := by
  unfold beyM
  rw [maskOf_bit]
  by_cases h : u < N
  · simp [h]
  · cases e : bey N G (bitsF set) v u
    · simp
    · exact absurd (bey_iff.1 e).1.lt h
theorem beyM_lt {N set v : Nat} {G : Nat → Nat → Bool} : beyM N G set v < 2 ^ N := few_of_bit fun u hu => by
  rw [beyM_bit] at hu; exact (bey_iff.1 hu).1.lt
theorem beyM_card {N set v : Nat} {G : Nat → Nat → Bool} (hN : N ≤ 24) : card 24 (beyM N G set v) = degB N G (bitsF set) v := by
  rw [card_cntN]
  unfold degB
  have h1 : cntN 24 (fun u => (beyM N G set v).testBit u) = cntN 24 (bey N G (bitsF set) v) := cntN_congr fun u _ => beyM_bit u
  rw [h1]
  have key : ∀ m, N ≤ m → cntN m (bey N G (bitsF set) v) = cntN N (bey N G (bitsF set) v) := fun m hm => by
    induction m with
    | zero => rw [show N = 0 by omega]
    | succ m ih =>
      by_cases e : N = m + 1
      · rw [e]
      · rw [cntN_succ, ih (by omega)]
        have : bey N G (bitsF set) v m = false := by
          cases e2 : bey N G (bitsF set) v m
          · rfl
          · have := (bey_iff.1 e2).1.lt; omega
        rw [this]; simp
  exact key 24 hN
end Go.Proofs.YtnmljgjegodkaaaDoor
