/- Karp: closed walks counted by inclusion and exclusion are the rings through all nodes: plain. No program in sight. Sets of nodes without edges, by how many they are: plain. No program in sight. A list of counts in a slice of one's own, beside another one that is read. No program in sight. -/
import Derived.Test.YtnmljgjegodkaaaDoorPA
import Derived.Test.YtnmljgjegodkaaaDoorPB
import Derived.Test.YtnmljgjegodkaaaDoorPC
import Derived.Laws.OwnMore
import Derived.Deep.AppendLies
namespace Go.Proofs.YtnmljgjegodkaaaDoor
open Go Go.RowKit

def b2i (b : Bool) : Int := if b then 1 else 0
/-- The set with one node more. -/
def addV (V : Nat → Bool) (w : Nat) (u : Nat) : Bool := V u || decide (u = w)
def allV (N : Nat) (V : Nat → Bool) : Bool := decide (cnt V N = N)
theorem cnt_all {V : Nat → Bool} : ∀ {N : Nat}, (cnt V N = N ↔ ∀ u, u < N → V u = true)
  | 0 => by simp [cnt]
  | N + 1 => by
    have h := cnt_le V N
    have ih := cnt_all (V := V) (N := N)
    rw [cnt]
    constructor
    · intro e u hu
      by_cases h1 : V N = true
      · rw [if_pos h1] at e
        by_cases h2 : u = N
        · rw [h2]; exact h1
        · exact ih.1 (by omega) u (by omega)
      · rw [if_neg h1] at e; omega
    · intro hu
      rw [ih.2 fun u h => hu u (by omega), if_pos (hu N (by omega))]
theorem cnt_congr {I J : Nat → Bool} : ∀ {n}, (∀ k, k < n → I k = J k) → cnt I n = cnt J n
  | 0, _ => rfl
  | n + 1, h => by rw [cnt, cnt, cnt_congr fun k hk => h k (by omega), h n (by omega)]
theorem cnt_add {V : Nat → Bool} {w : Nat} (hV : V w = false) : ∀ {N : Nat}, w < N → cnt (addV V w) N = cnt V N + 1
  | 0, h => by omega
  | N + 1, h => by
    rw [cnt, cnt]
    by_cases e : w = N
    · subst e
      have : cnt (addV V w) w = cnt V w := cnt_congr fun k hk => by unfold addV; simp; omega
      rw [this, if_pos (by unfold addV; simp), if_neg (by rw [hV]; exact Bool.false_ne_true)]
    · rw [cnt_add hV (by omega)]
      have : addV V w N = V N := by unfold addV; simp; omega
      rw [this]
      split <;> omega
theorem add_old {V : Nat → Bool} {w : Nat} (hV : V w = true) : addV V w = V := by
  funext u
  unfold addV
  by_cases e : u = w
  · subst e; simp [hV]
  · simp [e]

/-- Walks of so many steps from a node back to 0, inside of a set. -/
def bwR (N : Nat) (G : Nat → Nat → Bool) (S : Nat → Bool) : Nat → Nat → Int
  | 0, v => if v = 0 then 1 else 0
  | k + 1, v => sumI (fun w => b2i (S w && G v w) * bwR N G S k w) N
/-- From 0 to a node. -/
def atR (N : Nat) (G : Nat → Nat → Bool) (S : Nat → Bool) : Nat → Nat → Int
  | 0, w => if w = 0 then 1 else 0
  | k + 1, w => sumI (fun v => b2i (S w && G v w) * atR N G S k v) N
theorem at_bw {N : Nat} {G : Nat → Nat → Bool} {S : Nat → Bool} : ∀ k m, sumI (fun w => atR N G S k w * bwR N G S m w) N = sumI (fun w => atR N G S 0 w * bwR N G S (k + m) w) N
  | 0, m => by rw [Nat.zero_add]
  | k + 1, m => by
    rw [show k + 1 + m = k + (m + 1) by omega, ← at_bw k (m + 1)]
    have h1 : sumI (fun w => atR N G S (k + 1) w * bwR N G S m w) N = sumI (fun w => sumI (fun v => b2i (S w && G v w) * atR N G S k v * bwR N G S m w) N) N := sumI_congr fun w _ => by
      rw [atR, Int.mul_comm, ← sumI_mul]
      exact sumI_congr fun v _ => by rw [Int.mul_comm]
    have h2 : sumI (fun w => atR N G S k w * bwR N G S (m + 1) w) N = sumI (fun v => sumI (fun w => b2i (S w && G v w) * atR N G S k v * bwR N G S m w) N) N := sumI_congr fun v _ => by
      rw [bwR, ← sumI_mul]
      exact sumI_congr fun w _ => by rw [← Int.mul_assoc, Int.mul_comm (atR N G S k v)]
    rw [h1, h2, sumI_comm]
theorem at_is_bw {N : Nat} {G : Nat → Nat → Bool} {S : Nat → Bool} (hN : 0 < N) (k : Nat) : atR N G S k 0 = bwR N G S k 0 := by
  have h := at_bw (N := N) (G := G) (S := S) k 0
  have e1 : sumI (fun w => atR N G S k w * bwR N G S 0 w) N = atR N G S k 0 := by
    rw [sumI_one hN (f := fun w => atR N G S k w * bwR N G S 0 w) fun i _ hi => by simp [bwR, hi]]
    simp [bwR]
  have e2 : sumI (fun w => atR N G S 0 w * bwR N G S (k + 0) w) N = bwR N G S k 0 := by
    rw [sumI_one hN (f := fun w => atR N G S 0 w * bwR N G S (k + 0) w) fun i _ hi => by simp [atR, hi]]
    simp [atR]
  rw [← e1, ← e2, h]

/-- Plus where an even number of nodes is not in. -/
def sgR (s : Nat) : Nat → Int
  | 0 => 1
  | m + 1 => sgR s m * (if s.testBit m then 1 else -1)
def subB (V : Nat → Bool) (s : Nat) : Nat → Bool
  | 0 => true
  | m + 1 => subB V s m && (!V m || s.testBit m)
theorem subB_iff {V : Nat → Bool} {s : Nat} : ∀ {m : Nat}, (subB V s m = true ↔ ∀ u, u < m → V u = true → s.testBit u = true)
  | 0 => by simp [subB]
  | m + 1 => by
    rw [subB, Bool.and_eq_true, subB_iff, Bool.or_eq_true, Bool.not_eq_true']
    constructor
    · rintro ⟨h1, h2⟩ u hu hv
      by_cases e : u = m
      · subst e
        rcases h2 with h2 | h2
        · rw [h2] at hv; cases hv
        · exact h2
      · exact h1 u (by omega) hv
    · intro h
      refine ⟨fun u hu => h u (by omega), ?_⟩
      cases e : V m
      · exact Or.inl rfl
      · exact Or.inr (h m (by omega) e)
theorem bit_up {s m u : Nat} (hs : s < 2 ^ m) : (2 ^ m + s).testBit u = if u < m then s.testBit u else decide (u = m) := by
  rcases Nat.lt_trichotomy u m with h | h | h
  · rw [if_pos h, Nat.testBit_two_pow_add_gt h]
  · subst h
    rw [if_neg (by omega), Nat.testBit_two_pow_add_eq, Nat.testBit_lt_two_pow hs]; simp
  · rw [if_neg (by omega)]
    have : 2 ^ m + s < 2 ^ u := by
      have h1 : 2 ^ (m + 1) ≤ 2 ^ u := Nat.pow_le_pow_right (by omega) h
      rw [Nat.pow_succ] at h1; omega
    rw [Nat.testBit_lt_two_pow this]
    simp; omega
theorem sg_up {s m : Nat} (hs : s < 2 ^ m) : ∀ k, k ≤ m → sgR (2 ^ m + s) k = sgR s k
  | 0, _ => rfl
  | k + 1, h => by rw [sgR, sgR, sg_up hs k (by omega), show (2 ^ m + s).testBit k = s.testBit k by rw [bit_up hs, if_pos (by omega)]]
theorem sub_up {V : Nat → Bool} {s m : Nat} (hs : s < 2 ^ m) : ∀ k, k ≤ m → subB V (2 ^ m + s) k = subB V s k
  | 0, _ => rfl
  | k + 1, h => by rw [subB, subB, sub_up hs k (by omega), show (2 ^ m + s).testBit k = s.testBit k by rw [bit_up hs, if_pos (by omega)]]
theorem sumI_split (f : Nat → Int) (a : Nat) : ∀ b, sumI f (a + b) = sumI f a + sumI (fun i => f (a + i)) b
  | 0 => by simp [sumI]
  | b + 1 => by rw [← Nat.add_assoc, sumI, sumI_split f a b, sumI]; omega
/-- Inclusion and exclusion. -/
theorem incl_excl (V : Nat → Bool) : ∀ m, sumI (fun s => sgR s m * b2i (subB V s m)) (2 ^ m) = b2i (allV m V)
  | 0 => by simp [sumI, sgR, subB, b2i, allV, cnt]
  | m + 1 => by
    rw [Nat.pow_succ, Nat.mul_two, sumI_split]
    have ih := incl_excl V m
    have h1 : sumI (fun s => sgR s (m + 1) * b2i (subB V s (m + 1))) (2 ^ m) = sumI (fun s => (if V m then 0 else -1) * (sgR s m * b2i (subB V s m))) (2 ^ m) := sumI_congr fun s hs => by
      rw [sgR, subB, Nat.testBit_lt_two_pow hs]
      cases V m <;> cases subB V s m <;> simp [b2i]
    have h2 : sumI (fun i => sgR (2 ^ m + i) (m + 1) * b2i (subB V (2 ^ m + i) (m + 1))) (2 ^ m) = sumI (fun s => 1 * (sgR s m * b2i (subB V s m))) (2 ^ m) := sumI_congr fun s hs => by
      rw [sgR, subB, sg_up hs m (Nat.le_refl _), sub_up hs m (Nat.le_refl _), show (2 ^ m + s).testBit m = true by rw [bit_up hs, if_neg (by omega)]; simp]
      simp
    rw [h1, h2, sumI_mul, sumI_mul, ih]
    have ha := cnt_all (V := V) (N := m)
    have hb := cnt_all (V := V) (N := m + 1)
    cases e : V m
    · have : allV (m + 1) V = false := by
        unfold allV; rw [decide_eq_false]; intro h; rw [hb.1 h m (by omega)] at e; cases e
      rw [this]
      show -1 * b2i (allV m V) + 1 * b2i (allV m V) = 0
      omega
    · have : allV (m + 1) V = allV m V := by
        unfold allV; rw [cnt, e]; simp
      rw [this]; simp
/-- The set with 0 that a number stands for. -/
def inS (s v : Nat) : Bool := if v = 0 then true else s.testBit (v - 1)
/-- Walks back to 0 that come through all nodes. -/
def cpl (N : Nat) (G : Nat → Nat → Bool) : (Nat → Bool) → Nat → Nat → Int
  | V, 0, v => if v = 0 then b2i (allV N V) else 0
  | V, k + 1, v => sumI (fun w => b2i (G v w) * cpl N G (addV V w) k w) N
theorem sub_add {V : Nat → Bool} {w s M : Nat} (hw : w < M + 1) : subB (fun u => addV V w (u + 1)) s M = (subB (fun u => V (u + 1)) s M && (inS s w)) := by
  rw [Bool.eq_iff_iff, Bool.and_eq_true, subB_iff, subB_iff]
  unfold inS addV
  constructor
  · intro h
    refine ⟨fun u hu hv => h u hu (by rw [hv]; rfl), ?_⟩
    split
    · rfl
    · exact h (w - 1) (by omega) (by simp; omega)
  · rintro ⟨h1, h2⟩ u hu hv
    rw [Bool.or_eq_true] at hv
    rcases hv with hv | hv
    · exact h1 u hu hv
    · have hv := of_decide_eq_true hv
      subst hv
      rw [if_neg (by omega)] at h2
      exact h2
theorem karp {M : Nat} {G : Nat → Nat → Bool} : ∀ (k : Nat) (V : Nat → Bool) (v : Nat), V 0 = true →
    sumI (fun s => sgR s M * b2i (subB (fun u => V (u + 1)) s M) * bwR (M + 1) G (inS s) k v) (2 ^ M) = cpl (M + 1) G V k v
  | 0, V, v, h0 => by
    rw [cpl]
    by_cases e : v = 0
    · rw [if_pos e]
      have h1 := incl_excl (fun u => V (u + 1)) M
      have h2 : allV M (fun u => V (u + 1)) = allV (M + 1) V := by
        unfold allV
        rw [Bool.eq_iff_iff, decide_eq_true_eq, decide_eq_true_eq, cnt_all, cnt_all]
        constructor
        · intro h u hu
          cases u with
          | zero => exact h0
          | succ u => exact h u (by omega)
        · intro h u hu; exact h (u + 1) (by omega)
      rw [← h2, ← h1]
      exact sumI_congr fun s _ => by rw [bwR, if_pos e]; simp
    · rw [if_neg e]
      exact sumI_none fun s _ => by rw [bwR, if_neg e]; simp
  | k + 1, V, v, h0 => by
    rw [cpl]
    have h1 : sumI (fun s => sgR s M * b2i (subB (fun u => V (u + 1)) s M) * bwR (M + 1) G (inS s) (k + 1) v) (2 ^ M)
        = sumI (fun s => sumI (fun w => b2i (G v w) * (sgR s M * b2i (subB (fun u => addV V w (u + 1)) s M) * bwR (M + 1) G (inS s) k w)) (M + 1)) (2 ^ M) := sumI_congr fun s _ => by
      rw [bwR, ← sumI_mul]
      refine sumI_congr fun w hw => ?_
      rw [sub_add hw]
      cases subB (fun u => V (u + 1)) s M <;> cases inS s w <;> cases G v w <;> simp [b2i]
    rw [h1, sumI_comm]
    refine sumI_congr fun w _ => ?_
    rw [sumI_mul, karp k (addV V w) w (by unfold addV; rw [h0]; rfl)]
/-- Rings as they are tried: so many nodes are missing. -/
def rngN (N : Nat) (G : Nat → Nat → Bool) : (Nat → Bool) → Nat → Nat → Int
  | _, 0, v => b2i (G v 0)
  | V, d + 1, v => sumI (fun w => b2i (G v w && !V w) * rngN N G (addV V w) d w) N
theorem cpl_none {N : Nat} {G : Nat → Nat → Bool} : ∀ (k : Nat) (V : Nat → Bool) (v : Nat), V 0 = true → 0 < k → cnt V N + k ≤ N → cpl N G V k v = 0
  | 0, _, _, _, h, _ => absurd h (Nat.lt_irrefl 0)
  | k + 1, V, v, h0, _, hc => by
    rw [cpl]
    refine sumI_none fun w hw => ?_
    have h1 : cnt (addV V w) N ≤ cnt V N + 1 := by
      cases e : V w
      · rw [cnt_add e hw]; exact Nat.le_refl _
      · rw [add_old e]; omega
    have h2 : addV V w 0 = true := by unfold addV; rw [h0]; rfl
    by_cases hk : 0 < k
    · rw [cpl_none k _ w h2 hk (by omega)]; simp
    · obtain rfl : k = 0 := by omega
      rw [cpl]
      split
      · rename_i e
        subst e
        rw [add_old h0]
        unfold allV
        rw [decide_eq_false (by omega)]
        simp [b2i]
      · simp
theorem cpl_rng {N : Nat} {G : Nat → Nat → Bool} (hN : 0 < N) : ∀ (d : Nat) (V : Nat → Bool) (v : Nat), V 0 = true → cnt V N + d = N → cpl N G V (d + 1) v = rngN N G V d v
  | 0, V, v, h0, hc => by
    rw [cpl, rngN, sumI_one hN (f := fun w => b2i (G v w) * cpl N G (addV V w) 0 w) fun w _ hw => by rw [cpl, if_neg hw]; simp, cpl, if_pos rfl, add_old h0]
    unfold allV
    rw [decide_eq_true (by omega)]
    simp [b2i]
  | d + 1, V, v, h0, hc => by
    rw [cpl, rngN]
    refine sumI_congr fun w hw => ?_
    have h2 : addV V w 0 = true := by unfold addV; rw [h0]; rfl
    cases e : V w
    · rw [cpl_rng hN d _ w h2 (by rw [cnt_add e hw]; omega)]; simp
    · rw [cpl_none (d + 1) _ w h2 (by omega) (by rw [add_old e]; omega)]; simp [b2i]
/-- All together. -/
theorem rings_law {M : Nat} {G : Nat → Nat → Bool} (hM : 0 < M) :
    sumI (fun s => sgR s M * atR (M + 1) G (inS s) (M + 1) 0) (2 ^ M) = rngN (M + 1) G (fun u => decide (u = 0)) M 0 := by
  have hc : cnt (fun u => decide (u = 0)) (M + 1) = 1 := by
    have : ∀ n, cnt (fun u => decide (u = 0)) (n + 1) = 1 := fun n => by
      induction n with
      | zero => rfl
      | succ n ih => rw [cnt, ih]; simp
    exact this M
  rw [← cpl_rng (by omega) M _ 0 (by simp) (by rw [hc]; omega), ← karp (M + 1) _ 0 (by simp)]
  refine sumI_congr fun s _ => ?_
  rw [at_is_bw (by omega)]
  have : subB (fun u => decide (u + 1 = 0)) s M = true := subB_iff.2 fun u _ h => by simp at h
  rw [this]
  simp [b2i]

end Go.Proofs.YtnmljgjegodkaaaDoor
namespace Go.Proofs.YtnmljgjegodkaaaDoor
open Go Go.RowKit

def szB (N T : Nat) : Nat := cnt (fun i => T.testBit i) N
def freeG (N : Nat) (G : Nat → Nat → Bool) (T : Nat) : Bool := decide (∀ u, u < N → ∀ v, v < N → T.testBit u = true → T.testBit v = true → G u v = false)
theorem freeG_iff {N : Nat} {G : Nat → Nat → Bool} {T : Nat} : freeG N G T = true ↔ ∀ u, u < N → ∀ v, v < N → T.testBit u = true → T.testBit v = true → G u v = false := by unfold freeG; simp
def inM (s T : Nat) : Bool := decide (land s T = T)
theorem inM_iff {s T : Nat} : inM s T = true ↔ ∀ i, T.testBit i = true → s.testBit i = true := by
  unfold inM
  rw [decide_eq_true_iff]
  constructor
  · intro h i hi
    have := land_bit s T i
    rw [h, hi] at this
    simpa using this.symm
  · intro h
    refine Nat.eq_of_testBit_eq fun i => ?_
    rw [land_bit]
    cases e : T.testBit i
    · simp
    · rw [h i e]; rfl
/-- How many sets of so many nodes, inside of one, have no edge. -/
def looA (N : Nat) (G : Nat → Nat → Bool) (s k : Nat) : Int := sumI (fun T => b2i (inM s T && freeG N G T && decide (szB N T = k))) (2 ^ N)
theorem b2i_nn (b : Bool) : 0 ≤ b2i b ∧ b2i b ≤ 1 := by cases b <;> decide
theorem sumI_bounds {f : Nat → Int} : ∀ {n : Nat}, (∀ i, i < n → 0 ≤ f i ∧ f i ≤ 1) → 0 ≤ sumI f n ∧ sumI f n ≤ n
  | 0, _ => by simp [sumI]
  | n + 1, h => by
    have h1 := sumI_bounds (n := n) fun i hi => h i (by omega)
    have h2 := h n (by omega)
    rw [sumI]; omega
theorem looA_few (N : Nat) (G : Nat → Nat → Bool) (s k : Nat) : 0 ≤ looA N G s k ∧ looA N G s k ≤ (2 ^ N : Nat) := sumI_bounds fun _ _ => b2i_nn _
theorem sz_zero (N : Nat) : szB N 0 = 0 := by
  unfold szB
  induction N with
  | zero => rfl
  | succ N ih => rw [cnt, ih]; simp
theorem looA_zero (N : Nat) (G : Nat → Nat → Bool) (k : Nat) : looA N G 0 k = if k = 0 then 1 else 0 := by
  unfold looA
  rw [sumI_one (a := 0) (Nat.pow_pos (by omega)) fun T _ hT => ?_]
  · have h1 : inM 0 0 = true := inM_iff.2 fun i h => h
    have h2 : freeG N G 0 = true := freeG_iff.2 fun u _ v _ h => by simp at h
    rw [h1, h2, sz_zero]
    by_cases e : k = 0
    · rw [if_pos e, e]; rfl
    · rw [if_neg e, decide_eq_false (by omega)]; rfl
  · have : inM 0 T = false := by
      cases e : inM 0 T
      · rfl
      · refine absurd (Nat.eq_of_testBit_eq fun i => ?_) hT
        cases h : T.testBit i
        · simp
        · exact absurd (inM_iff.1 e i h) (by simp)
    rw [this]; rfl
section
variable {N : Nat} {G : Nat → Nat → Bool} {s v nv : Nat} (hv : v < N) (hs : s.testBit v = true) (hsy : ∀ a b, G a b = G b a) (hno : ∀ a, G a a = false) (hnv : ∀ i, nv.testBit i = (decide (i < N) && G v i))
include hv hs hsy hno hnv
theorem looA_step (k : Nat) : looA N G s k = looA N G (less s (pow2 v)) k + if k = 0 then 0 else looA N G (less (less s (pow2 v)) nv) (k - 1) := by
  have bl : ∀ T i, (less T (pow2 v)).testBit i = (T.testBit i && !decide (v = i)) := fun T i => by rw [less_bit, pow2_bit]
  have bo : ∀ T i, (lor T (pow2 v)).testBit i = (T.testBit i || decide (v = i)) := fun T i => by rw [lor_bit, pow2_bit]
  have h1 : looA N G s k = sumI (fun T => b2i (!T.testBit v && (inM s T && freeG N G T && decide (szB N T = k)))) (2 ^ N) + sumI (fun T => b2i (T.testBit v && (inM s T && freeG N G T && decide (szB N T = k)))) (2 ^ N) := by
    unfold looA
    rw [← sumI_add]
    refine sumI_congr fun T _ => ?_
    cases T.testBit v <;> simp [b2i]
  rw [h1]
  congr 1
  · unfold looA
    refine sumI_congr fun T _ => ?_
    have : inM (less s (pow2 v)) T = (!T.testBit v && inM s T) := by
      rw [Bool.eq_iff_iff, Bool.and_eq_true, inM_iff, inM_iff, Bool.not_eq_true']
      constructor
      · intro h
        refine ⟨?_, fun i hi => ?_⟩
        · cases e : T.testBit v
          · rfl
          · have := h v e
            rw [bl] at this; simp at this
        · have := h i hi
          rw [bl, Bool.and_eq_true] at this
          exact this.1
      · rintro ⟨h2, h3⟩ i hi
        rw [bl, h3 i hi, Bool.true_and]
        by_cases e : v = i
        · subst e; rw [h2] at hi; cases hi
        · simp [e]
    rw [this]
    cases T.testBit v <;> cases inM s T <;> rfl
  · have lt_of : ∀ {T}, T < 2 ^ N → ∀ i, T.testBit i = true → i < N := fun hT i hi => by
      rcases Nat.lt_or_ge i N with h | h
      · exact h
      · rw [Nat.testBit_lt_two_pow (Nat.lt_of_lt_of_le hT (Nat.pow_le_pow_right (by omega) h))] at hi; cases hi
    have szd : ∀ {T}, T.testBit v = false → szB N (lor T (pow2 v)) = szB N T + 1 := fun {T} hT => by
      unfold szB
      rw [← cnt_add (V := fun i => T.testBit i) (w := v) hT hv]
      refine cnt_congr fun i _ => ?_
      rw [bo]; unfold addV
      by_cases e : v = i
      · subst e; simp
      · simp [e, Ne.symm e]
    by_cases hk : k = 0
    · rw [if_pos hk]
      refine sumI_none fun T hT => ?_
      cases e : T.testBit v
      · rfl
      · have : T = lor (less T (pow2 v)) (pow2 v) := Nat.eq_of_testBit_eq fun i => by
          rw [bo, bl]
          by_cases h : v = i
          · subst h; simp [e]
          · simp [h]
        rw [this, szd (by rw [bl]; simp), decide_eq_false (by omega)]
        simp [b2i]
    · rw [if_neg hk]
      unfold looA
      -- what is true of T is true of T without v
      have key : ∀ T, T < 2 ^ N → T.testBit v = false → ((inM s (lor T (pow2 v)) && freeG N G (lor T (pow2 v)) && decide (szB N (lor T (pow2 v)) = k)) = (inM (less (less s (pow2 v)) nv) T && freeG N G T && decide (szB N T = k - 1))) := fun T hT hTv => by
        rw [szd hTv, Bool.eq_iff_iff]
        simp only [Bool.and_eq_true, inM_iff, freeG_iff, decide_eq_true_eq]
        constructor
        · rintro ⟨⟨a1, a2⟩, a3⟩
          refine ⟨⟨fun i hi => ?_, fun a ha b hb ta tb => a2 a ha b hb (by rw [bo, ta]; rfl) (by rw [bo, tb]; rfl)⟩, by omega⟩
          rw [less_bit, bl, a1 i (by rw [bo, hi]; rfl), hnv, a2 v hv i (lt_of hT i hi) (by rw [bo]; simp) (by rw [bo, hi]; rfl)]
          have : ¬ v = i := fun e => by subst e; rw [hTv] at hi; cases hi
          simp [this]
        · rintro ⟨⟨a1, a2⟩, a3⟩
          have hn : ∀ i, T.testBit i = true → s.testBit i = true ∧ G v i = false := fun i hi => by
            have := a1 i hi
            rw [less_bit, bl, hnv] at this
            simp only [Bool.and_eq_true, Bool.not_eq_true', Bool.and_eq_false_iff] at this
            refine ⟨this.1.1, ?_⟩
            rcases this.2 with h | h
            · have := lt_of hT i hi; simp at h; omega
            · exact h
          refine ⟨⟨fun i hi => ?_, fun a ha b hb ta tb => ?_⟩, by omega⟩
          · rw [bo, Bool.or_eq_true] at hi
            rcases hi with hi | hi
            · exact (hn i hi).1
            · have := of_decide_eq_true hi; subst this; exact hs
          · rw [bo, Bool.or_eq_true] at ta tb
            rcases ta with ta | ta <;> rcases tb with tb | tb
            · exact a2 a ha b hb ta tb
            · have := of_decide_eq_true tb; subst this; rw [hsy]; exact (hn a ta).2
            · have := of_decide_eq_true ta; subst this; exact (hn b tb).2
            · have e1 := of_decide_eq_true ta; have e2 := of_decide_eq_true tb
              subst e1; subst e2; exact hno v
      have back : ∀ T, T.testBit v = true → lor (less T (pow2 v)) (pow2 v) = T := fun T h => Nat.eq_of_testBit_eq fun i => by
        rw [bo, bl]
        by_cases e : v = i
        · subst e; simp [h]
        · simp [e]
      have forth : ∀ T, T.testBit v = false → less (lor T (pow2 v)) (pow2 v) = T := fun T h => Nat.eq_of_testBit_eq fun i => by
        rw [bl, bo]
        by_cases e : v = i
        · subst e; simp [h]
        · simp [e]
      have small : ∀ {T}, T < 2 ^ N → less T (pow2 v) < 2 ^ N ∧ lor T (pow2 v) < 2 ^ N := fun {T} hT =>
        ⟨few_of_bit fun i hi => by rw [bl, Bool.and_eq_true] at hi; exact lt_of hT i hi.1, few_of_bit fun i hi => by
          rw [bo, Bool.or_eq_true] at hi
          rcases hi with hi | hi
          · exact lt_of hT i hi
          · have := of_decide_eq_true hi; omega⟩
      refine sumI_turn (fun T => less T (pow2 v)) (fun T => lor T (pow2 v)) (fun T hT h0 => ?_) fun T hT h0 => ?_
      · have hTv : T.testBit v = true := by
          cases e : T.testBit v
          · rw [e] at h0; exact absurd rfl h0
          · rfl
        refine ⟨(small hT).1, back T hTv, ?_⟩
        have := key (less T (pow2 v)) (small hT).1 (by rw [bl]; simp)
        rw [back T hTv] at this
        rw [← this, hTv, Bool.true_and]
      · have hTv : T.testBit v = false := by
          cases e : T.testBit v
          · rfl
          · have : inM (less (less s (pow2 v)) nv) T = false := by
              cases h : inM (less (less s (pow2 v)) nv) T
              · rfl
              · have := inM_iff.1 h v e
                rw [less_bit, bl] at this; simp at this
            rw [this] at h0; exact absurd rfl h0
        refine ⟨(small hT).2, forth T hTv, ?_⟩
        rw [bo, key T hT hTv]
        simp
end

/-! A list of counts: as long as there is something. -/
structure IsCnt (L : List Int) (c : Nat → Int) : Prop where
  at' : ∀ k, L.getD k 0 = c k
  pos : ∀ k, k < L.length → 0 < c k
theorem IsCnt.far {L : List Int} {c : Nat → Int} (h : IsCnt L c) {k : Nat} (hk : L.length ≤ k) : c k = 0 := by
  rw [← h.at', List.getD, List.getElem?_eq_none hk]; rfl
theorem IsCnt.uniq {L L' : List Int} {c : Nat → Int} (h : IsCnt L c) (h' : IsCnt L' c) : L = L' := by
  have hl : L.length = L'.length := by
    rcases Nat.lt_trichotomy L.length L'.length with e | e | e
    · have := h'.pos _ e; have := h.far (Nat.le_refl _); omega
    · exact e
    · have := h.pos _ e; have := h'.far (Nat.le_refl _); omega
  refine List.ext_getElem hl fun i h1 h2 => ?_
  have e1 := h.at' i; have e2 := h'.at' i
  rw [List.getD, List.getElem?_eq_getElem h1] at e1
  rw [List.getD, List.getElem?_eq_getElem h2] at e2
  exact e1.trans e2.symm
/-- A list at least so long. -/
def extL (L : List Int) (n : Nat) : List Int := L ++ List.replicate (n - L.length) 0
theorem ext_length (L : List Int) (n : Nat) : (extL L n).length = max L.length n := by unfold extL; simp; omega
theorem ext_getD (L : List Int) (n k : Nat) : (extL L n).getD k 0 = L.getD k 0 := by
  unfold extL
  by_cases h : k < L.length
  · rw [List.getD, List.getElem?_append_left h]; rfl
  · rw [List.getD, List.getElem?_append_right (by omega), List.getD, List.getElem?_eq_none (by omega : L.length ≤ k), List.getElem?_replicate]
    split <;> rfl
/-- One is added to the next place. -/
def addAt (L : List Int) (k : Nat) (x : Int) : List Int := (extL L (k + 1)).set k ((extL L (k + 1)).getD k 0 + x)
theorem addAt_length (L : List Int) (k : Nat) (x : Int) : (addAt L k x).length = max L.length (k + 1) := by unfold addAt; rw [List.length_set, ext_length]
theorem addAt_getD (L : List Int) (k : Nat) (x : Int) (j : Nat) : (addAt L k x).getD j 0 = L.getD j 0 + if j = k then x else 0 := by
  unfold addAt
  have hl := ext_length L (k + 1)
  by_cases e : j = k
  · subst e
    rw [if_pos rfl, List.getD, List.getElem?_set_self (by omega), Option.getD_some, ext_getD]
  · rw [if_neg e, List.getD, List.getElem?_set_ne (Ne.symm e), ← List.getD, ext_getD]; omega
/-- The second list, moved by one, is added to the first. -/
def shN (L M : List Int) : Nat → List Int
  | 0 => L
  | k + 1 => addAt (shN L M k) (k + 1) (M.getD k 0)
theorem shN_getD (L M : List Int) : ∀ (k j : Nat), (shN L M k).getD j 0 = L.getD j 0 + if 0 < j ∧ j ≤ k then M.getD (j - 1) 0 else 0
  | 0, j => by rw [shN, if_neg (by omega)]; omega
  | k + 1, j => by
    rw [shN, addAt_getD, shN_getD L M k j]
    by_cases e : j = k + 1
    · subst e
      rw [if_neg (by omega), if_pos rfl, if_pos (by omega), Nat.add_sub_cancel]; omega
    · rw [if_neg e]
      by_cases h : 0 < j ∧ j ≤ k
      · rw [if_pos h, if_pos (by omega)]; omega
      · rw [if_neg h, if_neg (by omega)]; omega
theorem shN_length (L M : List Int) : ∀ k, (shN L M k).length = if k = 0 then L.length else max L.length (k + 1)
  | 0 => rfl
  | k + 1 => by
    rw [shN, addAt_length, shN_length L M k, if_neg (show ¬ k + 1 = 0 by omega)]
    split <;> omega
theorem IsCnt.sh {L M : List Int} {a b c : Nat → Int} (h : IsCnt L a) (k : IsCnt M b) (ha : ∀ i, 0 ≤ a i) (hb : ∀ i, 0 ≤ b i) (hc : ∀ i, c i = a i + if i = 0 then 0 else b (i - 1)) (h0 : 0 < L.length) : IsCnt (shN L M M.length) c where
  at' := fun i => by
    rw [shN_getD, h.at', hc]
    by_cases e : i = 0
    · rw [if_pos e, if_neg (by omega)]
    · rw [if_neg e]
      by_cases e2 : i ≤ M.length
      · rw [if_pos (by omega), k.at']
      · rw [if_neg (by omega), k.far (by omega)]
  pos := fun i hi => by
    rw [shN_length] at hi
    rw [hc]
    by_cases e : i = 0
    · subst e
      have := h.pos 0 h0
      rw [if_pos rfl]
      omega
    · have hb' := hb (i - 1); have ha' := ha i
      rw [if_neg e]
      by_cases e2 : i < L.length
      · have := h.pos i e2; omega
      · split at hi
        · omega
        · have := k.pos (i - 1) (by omega); omega

end Go.Proofs.YtnmljgjegodkaaaDoor
namespace Go.Proofs.YtnmljgjegodkaaaDoor
open Go Go.RowKit

abbrev OwnC (w : World) (base : Nat) (v : Value) (L : List Int) : Prop := w.ownsRow base 3 1 v L.length (L.map (Value.int .i64))
theorem OwnC.form {w : World} {base : Nat} {v : Value} {L : List Int} (h : OwnC w base v L) (h0 : 0 < L.length) :
    ∃ g cap, v = .slice (some ⟨g, 0, none⟩) L.length cap ∧ base ≤ g ∧ g < w.heap.size ∧ (∀ j, j < L.length → w.cell? ⟨g, j, none⟩ = some (.int .i64 (L.getD j 0))) ∧ ∀ j, w.frozen? ⟨g, j, none⟩ = false := by
  obtain ⟨g, cap, rfl, h1, h2⟩ := World.ownsRow.form h h0
  refine ⟨g, cap, rfl, h1, h2, fun j hj => ?_, fun j => World.ownsRow.frozenAt h j⟩
  rw [World.ownsRow.cellAt h j (by omega), List.getElem?_map, List.getD, List.getElem?_eq_getElem hj]
  rfl
theorem OwnC.set {w : World} {base g cap : Nat} {L : List Int} (h : OwnC w base (.slice (some ⟨g, 0, none⟩) L.length cap) L) (j : Nat) (x : Int) :
    OwnC (w.setCell ⟨g, j, none⟩ (.int .i64 x)) base (.slice (some ⟨g, 0, none⟩) L.length cap) (L.set j x) := by
  have h1 := (World.ownsRow.stored h j (.int .i64 x)).1
  unfold OwnC
  rw [List.length_set, List.map_set]
  exact h1
theorem IsInts.kept {w w' : World} {v : Value} {l : List Int} {row : Option Nat} (h : IsInts w v l) (hg : w.grownBy w' row) (hl : ∀ g, v.ownBlock = some g → g < w.heap.size) (hne : ∀ g, v.ownBlock = some g → row ≠ some g) : IsInts w' v l := by
  obtain ⟨a, cap, b, o, rfl, h1, h2, h3, h4, h5⟩ := h
  refine ⟨a, cap, b, o, rfl, h1, h2, h3, h4, fun j hj => ?_⟩
  obtain rfl := h3 (by omega)
  rw [← h5 j hj]
  exact World.cell?_of_block (w := w) (hg.block b (hl b rfl) (fun e => hne b rfl e.symm))

/-- One list is written, and one is read. -/
structure CM (w0 wr : World) (cv : Value) (L : List Int) (mv : Value) (M : List Int) : Prop where
  own : OwnC wr w0.heap.size cv L
  im : IsInts wr mv M
  mlt : ∀ g, mv.ownBlock = some g → g < wr.heap.size
  sep : ∀ g, mv.ownBlock = some g → cv.ownBlock ≠ some g
  hb : Below w0.heap.size w0 wr
theorem CM.congr {w0 wr : World} {cv mv : Value} {L L' M : List Int} (h : CM w0 wr cv L mv M) (e : L = L') : CM w0 wr cv L' mv M := e ▸ h
/-- Behind an append of one element, that was laid first. -/
theorem CM.app {w0 wr w2 : World} {cv mv : Value} {L M : List Int} {a2 : Option Addr} {c2 : Nat} {x : Int} (h : CM w0 wr cv L mv M)
    (hown : w2.ownsRow w0.heap.size 3 1 (.slice a2 (L.length + 1) c2) (L.length + 1) (L.map (Value.int .i64) ++ [.int .i64 x])) (hg : (wr.alloc (Obj.cells #[.int .i64 x] 3)).grownBy w2 cv.ownBlock)
    (hat : (Value.slice a2 (L.length + 1) c2).ownBlock = cv.ownBlock ∨ (Value.slice a2 (L.length + 1) c2).ownBlock = some (wr.alloc (Obj.cells #[.int .i64 x] 3)).heap.size) :
    CM w0 w2 (.slice a2 (L.length + 1) c2) (L ++ [x]) mv M := by
  have hs := hg.size
  rw [World.size_alloc] at hs
  refine ⟨?_, ?_, fun g e => Nat.lt_of_lt_of_le (h.mlt g e) (by omega), fun g e => ?_, ?_⟩
  · unfold OwnC
    rw [List.length_append, List.map_append]
    exact hown
  · exact (h.im.below (below1 _ _)).kept hg (fun g e => by rw [World.size_alloc]; have := h.mlt g e; omega) (fun g e => h.sep g e)
  · rcases hat with e2 | e2
    · rw [e2]; exact h.sep g e
    · rw [e2, World.size_alloc]
      intro e3
      have := h.mlt g e
      have := Option.some.inj e3
      omega
  · exact (h.hb.alloc h.hb.size _).grown hg (by rw [World.size_alloc]; have := h.hb.size; omega) (fun g e => (World.ownsRow.lt h.own g e).1)
theorem CM.set {w0 wr : World} {mv : Value} {L M : List Int} {g cap : Nat} (h : CM w0 wr (.slice (some ⟨g, 0, none⟩) L.length cap) L mv M) (j : Nat) (x : Int) :
    CM w0 (wr.setCell ⟨g, j, none⟩ (.int .i64 x)) (.slice (some ⟨g, 0, none⟩) L.length cap) (L.set j x) mv M := by
  have h1 := (World.ownsRow.stored h.own j (.int .i64 x)).2
  refine ⟨h.own.set j x, h.im.kept h1 h.mlt (fun k e => h.sep k e), fun k e => by rw [size_setCell]; exact h.mlt k e, h.sep, h.hb.setCell (World.ownsRow.lt h.own g rfl).1 _⟩
theorem IsInts.cellAt {w : World} {v : Value} {l : List Int} (h : IsInts w v l) {j : Nat} (hj : j < l.length) : ∃ b o cap, v = .slice (some ⟨b, o, none⟩) l.length cap ∧ w.cell? ⟨b, o + j, none⟩ = some (.int .i64 (l.getD j 0)) := by
  obtain ⟨a, cap, b, o, rfl, h1, h2, h3, h4, h5⟩ := h
  obtain rfl := h3 (by omega)
  exact ⟨b, o, cap, rfl, h5 j hj⟩

/-- What an extended list is, one step on. -/
theorem ext_snoc (L : List Int) {n : Nat} (h : L.length ≤ n) : extL L n ++ [0] = extL L (n + 1) := by
  unfold extL
  rw [List.append_assoc, show n + 1 - L.length = n - L.length + 1 by omega, List.replicate_succ']
theorem ext_self (L : List Int) {n : Nat} (h : n ≤ L.length) : extL L n = L := by
  unfold extL
  rw [show n - L.length = 0 by omega]; simp
theorem addAt_set (L : List Int) (k : Nat) (x : Int) {n : Nat} (h1 : L.length ≤ n) (h2 : k < n) (h3 : n ≤ max L.length (k + 1)) : (extL L n).set k ((extL L n).getD k 0 + x) = addAt L k x := by
  unfold addAt
  by_cases e : L.length ≤ k + 1
  · obtain rfl : n = k + 1 := by omega
    rfl
  · obtain rfl : n = L.length := by omega
    rw [ext_self L (Nat.le_refl _), ext_self L (show k + 1 ≤ L.length by omega)]

theorem less_le (s t : Nat) : less s t ≤ s := Nat.le_of_testBit fun i hi => by
  rw [less_bit, Bool.and_eq_true] at hi
  exact hi.1
theorem less_ltC {s c : Nat} (h : s.testBit c = true) : less s (pow2 c) < s := by
  refine Nat.lt_of_le_of_ne (less_le _ _) fun e => ?_
  have := less_bit s (pow2 c) c
  rw [e, h, pow2_bit] at this
  simp at this
/-- The least node of a set. -/
theorem low_bit {s N : Nat} (h0 : s ≠ 0) (h : s < 2 ^ N) : ∃ c, c < N ∧ s.testBit c = true ∧ ∀ j, j < c → s.testBit j = false := by
  have : ∃ i, i < N ∧ s.testBit i = true := by
    obtain ⟨i, hi⟩ := Nat.exists_testBit_of_ne_zero h0
    refine ⟨i, ?_, hi⟩
    rcases Nat.lt_or_ge i N with e | e
    · exact e
    · rw [Nat.testBit_lt_two_pow (Nat.lt_of_lt_of_le h (Nat.pow_le_pow_right (by omega) e))] at hi; cases hi
  obtain ⟨i, hi, hb⟩ := this
  induction i using Nat.strongRecOn with
  | _ i ih =>
    by_cases e : ∃ j, j < i ∧ s.testBit j = true
    · obtain ⟨j, hj, hbj⟩ := e
      exact ih j hj (by omega) hbj
    · refine ⟨i, hi, hb, fun j hj => ?_⟩
      cases hbj : s.testBit j
      · rfl
      · exact absurd ⟨j, hj, hbj⟩ e
theorem looA_far {N : Nat} {G : Nat → Nat → Bool} {s k : Nat} (h : N < k) : looA N G s k = 0 := by
  unfold looA
  refine sumI_none fun T _ => ?_
  have : szB N T ≤ N := cnt_le _ N
  rw [decide_eq_false (by omega)]
  simp [b2i]
theorem IsCnt.short {L : List Int} {c : Nat → Int} (h : IsCnt L c) {N : Nat} (hc : ∀ k, N < k → c k = 0) : L.length ≤ N + 1 := by
  rcases Nat.lt_or_ge (N + 1) L.length with e | e
  · have := h.pos (N + 1) e
    rw [hc (N + 1) (by omega)] at this
    omega
  · exact e
theorem cnt_one (c : Nat → Int) (h : ∀ k, c k = if k = 0 then 1 else 0) : IsCnt [1] c where
  at' := fun k => by
    rw [h]
    match k with
    | 0 => rfl
    | k + 1 => rfl
  pos := fun k hk => by
    have : k = 0 := by simpa using hk
    rw [h, if_pos this]; decide

end Go.Proofs.YtnmljgjegodkaaaDoor
