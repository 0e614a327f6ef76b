/- Two sides, or an odd ring: what a search in breadth keeps. No program in sight. The ring that two ways up close is odd; two sides are those of how far. No program in sight. -/
import Derived.Test.YtnhhohhhpaejmaaDoorPN
import Derived.Test.YtnhhohhhpaejmaaDoorPRing
namespace Go.Proofs.YtnhhohhhpaejmaaDoor
open Go.RowKit

/-- One entry set anew. -/
def putF {α : Type} (f : Nat → α) (y : Nat) (x : α) : Nat → α := fun q => if q = y then x else f q
theorem putF_at {α : Type} (f : Nat → α) (y : Nat) (x : α) : putF f y x y = x := if_pos rfl
theorem putF_ne {α : Type} (f : Nat → α) {y q : Nat} (x : α) (h : q ≠ y) : putF f y x q = f q := if_neg h
/-- Which nodes have a side. -/
def hasS (S : Nat → Int) : Nat → Bool := fun q => decide (0 ≤ S q)
theorem hasS_put {S : Nat → Int} {y : Nat} {x : Int} (hx : 0 ≤ x) : hasS (putF S y x) = fun q => if q = y then true else hasS S q := by
  funext q
  unfold hasS putF
  by_cases e : q = y
  · simp [e, hx]
  · simp [e]
/-- A forest of nodes that have sides: P tells whence, D how deep, R the root. -/
structure SidT (N : Nat) (G : Nat → Nat → Bool) (S Fr : Nat → Int) (P D R : Nat → Nat) : Prop where
  rng : ∀ v, v < N → S v = -1 ∨ S v = 0 ∨ S v = 1
  root : ∀ v, v < N → 0 ≤ S v → D v = 0 → Fr v = -1 ∧ S v = 0 ∧ R v = v
  par : ∀ v, v < N → 0 ≤ S v → 0 < D v → P v < N ∧ Fr v = (P v : Nat) ∧ 0 ≤ S (P v) ∧ D (P v) + 1 = D v ∧ S v = 1 - S (P v) ∧ G (P v) v = true ∧ R v = R (P v)
  few : ∀ v, v < N → 0 ≤ S v → D v < cnt (hasS S) N
  low : ∀ v, v < N → 0 ≤ S v → R v ≤ v
/-- With a queue: root c's tree grows. -/
structure SidI (N : Nat) (G : Nat → Nat → Bool) (c : Nat) (Q : List Nat) (S Fr : Nat → Int) (P D R : Nat → Nat) : Prop where
  t : SidT N G S Fr P D R
  qs : ∀ u ∈ Q, u < N ∧ 0 ≤ S u ∧ R u = c
  don : ∀ u w, u < N → w < N → 0 ≤ S u → u ∉ Q → G u w = true → 0 ≤ S w ∧ S w = 1 - S u ∧ R w = R u
  all : ∀ v, v < c → 0 ≤ S v
section
variable {N c : Nat} {G : Nat → Nat → Bool} {Q : List Nat} {S Fr : Nat → Int} {P D R : Nat → Nat}
theorem SidI.start : SidI N G 0 [] (fun _ => -1) Fr P D R where
  t := ⟨fun _ _ => Or.inl rfl, fun v _ h => absurd h (by decide), fun v _ h => absurd h (by decide), fun v _ h => absurd h (by decide), fun v _ h => absurd h (by decide)⟩
  qs u hu := absurd hu (by simp)
  don u w _ _ h := absurd h (by decide)
  all v h := absurd h (Nat.not_lt_zero _)
theorem SidI.next (h : SidI N G c [] S Fr P D R) (hc : 0 ≤ S c) : SidI N G (c + 1) [] S Fr P D R :=
  ⟨h.t, fun u hu => absurd hu (by simp), h.don, fun v hv => by
    by_cases e : v = c
    · rw [e]; exact hc
    · exact h.all v (by omega)⟩
theorem SidI.pop {x : Nat} (h : SidI N G c (x :: Q) S Fr P D R) (hx : ∀ w, w < N → G x w = true → 0 ≤ S w ∧ S w = 1 - S x ∧ R w = R x) : SidI N G c Q S Fr P D R :=
  ⟨h.t, fun u hu => h.qs u (by simp [hu]), fun u w hu hw hs hn hg => by
    by_cases e : u = x
    · subst e; exact hx w hw hg
    · exact h.don u w hu hw hs (by simp [e, hn]) hg, h.all⟩
theorem cnt_putS {y : Nat} {x : Int} (hy : y < N) (hs : S y < 0) (hx : 0 ≤ x) : cnt (hasS (putF S y x)) N = cnt (hasS S) N + 1 := by
  rw [hasS_put hx]; exact cnt_put1 hy (by unfold hasS; simp; omega)
theorem SidI.open' (h : SidI N G c [] S Fr P D R) (hc : c < N) (hs : S c < 0) : SidI N G c [c] (putF S c 0) (putF Fr c (-1)) P (putF D c 0) (putF R c c) := by
  have hcn := cnt_putS (x := 0) hc hs (Int.le_refl _)
  have old : ∀ v, 0 ≤ S v → v ≠ c := fun v hv e => by rw [e] at hv; omega
  have sn : ∀ v, v ≠ c → 0 ≤ putF S c 0 v → 0 ≤ S v := fun v e hv => by rwa [putF_ne S 0 e] at hv
  refine ⟨⟨fun v hv => ?_, fun v hv hs' hd => ?_, fun v hv hs' hd => ?_, fun v hv hs' => ?_, fun v hv hs' => ?_⟩, fun u hu => ?_, fun u w hu hw hs' hn hg => ?_, fun v hv => ?_⟩
  · by_cases e : v = c
    · subst e; rw [putF_at]; exact Or.inr (Or.inl rfl)
    · rw [putF_ne _ _ e]; exact h.t.rng v hv
  · by_cases e : v = c
    · subst e; rw [putF_at, putF_at, putF_at]; exact ⟨rfl, rfl, rfl⟩
    · rw [putF_ne _ _ e] at hd
      rw [putF_ne _ _ e, putF_ne _ _ e, putF_ne _ _ e]
      exact h.t.root v hv (sn v e hs') hd
  · by_cases e : v = c
    · subst e; rw [putF_at] at hd; omega
    · rw [putF_ne _ _ e] at hd
      obtain ⟨p1, p2, p3, p4, p5, p6, p7⟩ := h.t.par v hv (sn v e hs') hd
      have e2 := old _ p3
      rw [putF_ne _ _ e, putF_ne _ _ e, putF_ne _ _ e, putF_ne _ _ e, putF_ne _ _ e2, putF_ne _ _ e2, putF_ne _ _ e2]
      exact ⟨p1, p2, p3, p4, p5, p6, p7⟩
  · rw [hcn]
    by_cases e : v = c
    · subst e; rw [putF_at]; omega
    · rw [putF_ne _ _ e]
      have := h.t.few v hv (sn v e hs')
      omega
  · by_cases e : v = c
    · subst e; rw [putF_at]; exact Nat.le_refl _
    · rw [putF_ne _ _ e]; exact h.t.low v hv (sn v e hs')
  · obtain rfl : u = c := by simpa using hu
    rw [putF_at, putF_at]; exact ⟨hc, Int.le_refl _, rfl⟩
  · have e : u ≠ c := by simpa using hn
    obtain ⟨q1, q2, q3⟩ := h.don u w hu hw (sn u e hs') (by simp) hg
    have e2 := old _ q1
    rw [putF_ne _ _ e, putF_ne _ _ e, putF_ne _ _ e2, putF_ne _ _ e2]
    exact ⟨q1, q2, q3⟩
  · rw [putF_ne _ _ (by omega)]; exact h.all v hv
theorem SidI.push {x y : Nat} (h : SidI N G c (x :: Q) S Fr P D R) (hy : y < N) (hs : S y < 0) (hg : G x y = true) :
    SidI N G c (x :: (Q ++ [y])) (putF S y (1 - S x)) (putF Fr y (x : Nat)) (putF P y x) (putF D y (D x + 1)) (putF R y c) := by
  obtain ⟨hx, hsx, hrx⟩ := h.qs x (by simp)
  have hx1 : 0 ≤ 1 - S x := by rcases h.t.rng x hx with e | e | e <;> omega
  have hcn := cnt_putS (x := 1 - S x) hy hs hx1
  have old : ∀ v, 0 ≤ S v → v ≠ y := fun v hv e => by rw [e] at hv; omega
  have sn : ∀ v, v ≠ y → 0 ≤ putF S y (1 - S x) v → 0 ≤ S v := fun v e hv => by rwa [putF_ne S _ e] at hv
  have hxy := old x hsx
  have hcy : c ≤ y := by
    by_cases e : c ≤ y
    · exact e
    · have := h.all y (by omega); omega
  refine ⟨⟨fun v hv => ?_, fun v hv hs' hd => ?_, fun v hv hs' hd => ?_, fun v hv hs' => ?_, fun v hv hs' => ?_⟩, fun u hu => ?_, fun u w hu hw hs' hn hg' => ?_, fun v hv => ?_⟩
  · by_cases e : v = y
    · subst e; rw [putF_at]
      rcases h.t.rng x hx with e | e | e <;> omega
    · rw [putF_ne _ _ e]; exact h.t.rng v hv
  · by_cases e : v = y
    · subst e; rw [putF_at] at hd; omega
    · rw [putF_ne _ _ e] at hd
      rw [putF_ne _ _ e, putF_ne _ _ e, putF_ne _ _ e]
      exact h.t.root v hv (sn v e hs') hd
  · by_cases e : v = y
    · subst e
      rw [putF_at, putF_at, putF_at, putF_at, putF_at, putF_ne _ _ hxy, putF_ne _ _ hxy, putF_ne _ _ hxy]
      exact ⟨hx, rfl, hsx, rfl, rfl, hg, hrx.symm⟩
    · rw [putF_ne _ _ e] at hd
      obtain ⟨p1, p2, p3, p4, p5, p6, p7⟩ := h.t.par v hv (sn v e hs') hd
      have e2 := old _ p3
      rw [putF_ne P _ e, putF_ne _ _ e, putF_ne _ _ e, putF_ne _ _ e, putF_ne _ _ e, putF_ne _ _ e2, putF_ne _ _ e2, putF_ne _ _ e2]
      exact ⟨p1, p2, p3, p4, p5, p6, p7⟩
  · rw [hcn]
    by_cases e : v = y
    · subst e; rw [putF_at]
      have := h.t.few x hx hsx
      omega
    · rw [putF_ne _ _ e]
      have := h.t.few v hv (sn v e hs')
      omega
  · by_cases e : v = y
    · subst e; rw [putF_at]; exact hcy
    · rw [putF_ne _ _ e]; exact h.t.low v hv (sn v e hs')
  · by_cases e : u = y
    · subst e; rw [putF_at, putF_at]; exact ⟨hy, hx1, rfl⟩
    · rw [putF_ne _ _ e, putF_ne _ _ e]
      refine h.qs u ?_
      simp only [List.mem_cons, List.mem_append, List.not_mem_nil, or_false] at hu ⊢
      rcases hu with h1 | h1 | h1
      · exact Or.inl h1
      · exact Or.inr h1
      · exact absurd h1 e
  · have e : u ≠ y := fun e => hn (by simp [e])
    obtain ⟨q1, q2, q3⟩ := h.don u w hu hw (sn u e hs') (fun h1 => hn (by
      simp only [List.mem_cons, List.mem_append] at h1 ⊢
      rcases h1 with h1 | h1
      · exact Or.inl h1
      · exact Or.inr (Or.inl h1))) hg'
    have e2 := old _ q1
    rw [putF_ne _ _ e, putF_ne _ _ e, putF_ne _ _ e2, putF_ne _ _ e2]
    exact ⟨q1, q2, q3⟩
  · by_cases e : v = y
    · subst e; rw [putF_at]; exact hx1
    · rw [putF_ne _ _ e]; exact h.all v hv
/-- The way up. -/
theorem SidT.anc (h : SidT N G S Fr P D R) {x : Nat} (hx : x < N) (hs : 0 ≤ S x) : ∀ i, i ≤ D x → anc P x i < N ∧ 0 ≤ S (anc P x i) ∧ D (anc P x i) + i = D x ∧ R (anc P x i) = R x
  | 0, _ => ⟨hx, hs, rfl, rfl⟩
  | i + 1, hi => by
    obtain ⟨h1, h2, h3, h4⟩ := h.anc hx hs i (by omega)
    obtain ⟨p1, p2, p3, p4, p5, p6, p7⟩ := h.par _ h1 h2 (by omega)
    have e : Go.Proofs.YtnhhohhhpaejmaaDoor.anc P x (i + 1) = P (Go.Proofs.YtnhhohhhpaejmaaDoor.anc P x i) := rfl
    rw [e]
    exact ⟨p1, p3, by omega, by rw [← p7]; exact h4⟩
theorem SidT.up (h : SidT N G S Fr P D R) {x : Nat} (hx : x < N) (hs : 0 ≤ S x) : UpOk N Fr P x (D x) ∧ Go.Proofs.YtnhhohhhpaejmaaDoor.anc P x (D x) = R x := by
  obtain ⟨h1, h2, h3, h4⟩ := h.anc hx hs (D x) (Nat.le_refl _)
  obtain ⟨r1, r2, r3⟩ := h.root _ h1 h2 (by omega)
  refine ⟨⟨fun i hi => (h.anc hx hs i hi).1, fun i hi => ?_, r1⟩, by rw [← r3]; exact h4⟩
  obtain ⟨h1, h2, h3, h4⟩ := h.anc hx hs i (by omega)
  exact (h.par _ h1 h2 (by omega)).2.1
theorem SidT.parity (h : SidT N G S Fr P D R) : ∀ (n x : Nat), D x = n → x < N → 0 ≤ S x → S x = ((n % 2 : Nat) : Int) := by
  intro n
  induction n with
  | zero => intro x hd hx hs; rw [(h.root x hx hs hd).2.1]; rfl
  | succ n ih =>
    intro x hd hx hs
    obtain ⟨p1, p2, p3, p4, p5, p6, p7⟩ := h.par x hx hs (by omega)
    have := ih (P x) (by omega) p1 p3
    omega
/-- Two neighbours on one side hang on one root. -/
theorem SidI.meet (h : SidI N G c Q S Fr P D R) (hsym : ∀ i j, i < N → j < N → G i j = G j i) {x y : Nat} (hxq : x ∈ Q) (hy : y < N) (hsy : 0 ≤ S y) (hg : G x y = true) : R x = R y := by
  obtain ⟨hx, hsx, hrx⟩ := h.qs x hxq
  by_cases e : y ∈ Q
  · rw [hrx, (h.qs y e).2.2]
  · exact (h.don y x hy hx hsy e (by rw [hsym y x hy hx]; exact hg)).2.2
end

end Go.Proofs.YtnhhohhhpaejmaaDoor
namespace Go.Proofs.YtnhhohhhpaejmaaDoor
open Go.RowKit

theorem anc_add (P : Nat → Nat) (v i : Nat) : ∀ k, anc P v (i + k) = anc P (anc P v i) k
  | 0 => rfl
  | k + 1 => congrArg P (anc_add P v i k)
theorem ringL_len (P : Nat → Nat) (x y p q : Nat) : (ringL P x y p q).length = p + 1 + q := by
  unfold ringL; rw [List.length_append, List.length_reverse, way_len, way_len]
theorem ringL_lo {P : Nat → Nat} {x y p q k : Nat} (h : k ≤ p) : (ringL P x y p q).getD k 0 = anc P x k := by
  unfold ringL
  rw [List.getD, List.getElem?_append_left (by rw [way_len]; omega)]
  exact way_at (by omega)
theorem ringL_hi {P : Nat → Nat} {x y p q k : Nat} (hm : anc P x p = anc P y q) (h : p ≤ k) (hk : k ≤ p + q) : (ringL P x y p q).getD k 0 = anc P y (p + q - k) := by
  by_cases e : k = p
  · subst e
    rw [ringL_lo (Nat.le_refl _), hm]
    congr 1; omega
  · unfold ringL
    rw [List.getD, List.getElem?_append_right (by rw [way_len]; omega), way_len, List.getElem?_reverse (by rw [way_len]; omega), way_len]
    have h1 := way_at (P := P) (v := y) (n := q) (i := q - 1 - (k - (p + 1))) (by omega)
    rw [List.getD] at h1
    rw [h1]
    congr 1; omega
section
variable {N : Nat} {G : Nat → Nat → Bool} {S Fr : Nat → Int} {P D R : Nat → Nat}
theorem SidT.ring (h : SidT N G S Fr P D R) (hN : N ≤ 100) (hsym : ∀ i j, i < N → j < N → G i j = G j i) (hirr : ∀ i, i < N → G i i = false) {x y p q : Nat} (hx : x < N) (hy : y < N) (hsx : 0 ≤ S x) (hsy : 0 ≤ S y) (hs : S x = S y) (hg : G x y = true)
    (hm : MeetAt P x y (D x) (D y) p q) : RingOk N G (ringL P x y p q) ∧ (p + 1 + q) % 2 = 1 := by
  obtain ⟨hp, hq, hlev, hat, hend⟩ := hm
  have hpx := h.parity _ x rfl hx hsx
  have hpy := h.parity _ y rfl hy hsy
  have hfx := h.few x hx hsx
  have hfy := h.few y hy hsy
  have hcn := cnt_le (hasS S) N
  have hodd : (p + 1 + q) % 2 = 1 := by omega
  have hne : x ≠ y := fun e => by
    subst e; rw [hirr x hx] at hg; cases hg
  have hpq : 2 ≤ p + q := by
    by_cases e : p = 0 ∧ q = 0
    · obtain ⟨rfl, rfl⟩ := e
      exact absurd hat hne
    · omega
  have tree : ∀ v, v < N → 0 ≤ S v → 0 < D v → G v (P v) = true ∧ G (P v) v = true := fun v hv hs hd => by
    obtain ⟨p1, p2, p3, p4, p5, p6, p7⟩ := h.par v hv hs hd
    exact ⟨by rw [hsym v _ hv p1]; exact p6, p6⟩
  refine ⟨⟨by rw [ringL_len]; omega, by rw [ringL_len]; omega, fun i hi => ?_, fun i j hi hj => ?_, fun i hi => ?_⟩, hodd⟩
  · rw [ringL_len] at hi
    by_cases e : i ≤ p
    · rw [ringL_lo e]; exact (h.anc hx hsx i (by omega)).1
    · rw [ringL_hi hat (by omega) (by omega)]; exact (h.anc hy hsy _ (by omega)).1
  · rw [ringL_len] at hi
    intro e
    by_cases e1 : i ≤ p
    · rw [ringL_lo e1, ringL_lo (by omega)] at e
      have a1 := (h.anc hx hsx i (by omega)).2.2.1
      have a2 := (h.anc hx hsx j (by omega)).2.2.1
      rw [e] at a1; omega
    · rw [ringL_hi hat (by omega) (by omega)] at e
      have a1 := (h.anc hy hsy (p + q - i) (by omega)).2.2.1
      by_cases e2 : j ≤ p
      · rw [ringL_lo e2] at e
        have a2 := (h.anc hx hsx j (by omega)).2.2.1
        rw [e] at a1
        have hjp : j < p := by omega
        rcases hend with h1 | h1 | h1
        · omega
        · omega
        · apply h1
          have b1 := anc_add P x j (p - 1 - j)
          have b2 := anc_add P y (p + q - i) (p - 1 - j)
          rw [show j + (p - 1 - j) = p - 1 by omega] at b1
          rw [show p + q - i + (p - 1 - j) = q - 1 by omega] at b2
          rw [b1, b2, e]
      · rw [ringL_hi hat (by omega) (by omega)] at e
        have a2 := (h.anc hy hsy (p + q - j) (by omega)).2.2.1
        rw [e] at a1; omega
  · rw [ringL_len] at hi ⊢
    by_cases e : i < p
    · rw [Nat.mod_eq_of_lt (by omega), ringL_lo (by omega), ringL_lo (by omega)]
      obtain ⟨a1, a2, a3, -⟩ := h.anc hx hsx i (by omega)
      exact (tree _ a1 a2 (by omega)).1
    · rw [ringL_hi hat (by omega) (by omega)]
      by_cases e2 : i = p + q
      · subst e2
        rw [show p + q + 1 = p + 1 + q by omega, Nat.mod_self, ringL_lo (by omega), Nat.sub_self]
        show G y x = true
        rw [hsym y x hy hx]; exact hg
      · rw [Nat.mod_eq_of_lt (by omega), ringL_hi hat (by omega) (by omega)]
        obtain ⟨a1, a2, a3, -⟩ := h.anc hy hsy (p + q - (i + 1)) (by omega)
        have hs := tree _ a1 a2 (by omega)
        have e3 : p + q - i = p + q - (i + 1) + 1 := by omega
        rw [e3]
        exact hs.2
/-- A root hangs together with what hangs on it. -/
theorem SidT.hang (h : SidT N G S Fr P D R) : ∀ (n v : Nat), D v = n → v < N → 0 ≤ S v → R v < N ∧ 0 ≤ S (R v) ∧ S (R v) = 0 ∧ Rch N G (fun _ => false) (R v) v := by
  intro n
  induction n with
  | zero =>
    intro v hd hv hs
    obtain ⟨r1, r2, r3⟩ := h.root v hv hs hd
    rw [r3]; exact ⟨hv, hs, r2, .refl⟩
  | succ n ih =>
    intro v hd hv hs
    obtain ⟨p1, p2, p3, p4, p5, p6, p7⟩ := h.par v hv hs (by omega)
    obtain ⟨q1, q2, q3, q4⟩ := ih (P v) (by omega) p1 p3
    rw [p7]; exact ⟨q1, q2, q3, .step q4 p1 hv p6 rfl⟩
/-- A part's least node is a root. -/
theorem SidT.least (h : SidT N G S Fr P D R) (hsym : ∀ i j, i < N → j < N → G i j = G j i) {r : Nat} (hr : r < N) (hs : 0 ≤ S r) (hl : ldB (conB N G) r = true) : S r = 0 := by
  obtain ⟨h1, h2, h3, h4⟩ := h.hang _ r rfl hr hs
  have h5 := h.low r hr hs
  by_cases e : R r = r
  · rw [e] at h3; exact h3
  · have h6 := con_pre.ge hl (w := R r) (by omega)
    rw [con_eqv hsym hr] at h6
    have h7 : conB N G r (R r) = true := rchB_iff.2 (rch_sym hsym h1 h4)
    rw [h7] at h6; cases h6
/-- How far a node is tells its side. -/
theorem FarOk.side {r : Nat} {F : Nat → Int} (hF : FarOk N G r F) (hS : ∀ v, v < N → S v = 0 ∨ S v = 1) (hp : ∀ i j, i < N → j < N → G i j = true → S i ≠ S j) (hr : S r = 0) : ∀ (n v : Nat), v < N → F v = (n : Int) → S v = ((n % 2 : Nat) : Int) := by
  intro n
  induction n with
  | zero =>
    intro v hv hf
    rw [hF.zero v hv hf, hr]; rfl
  | succ n ih =>
    intro v hv hf
    obtain ⟨u, hu, hfu, hg⟩ := hF.par v hv (by omega)
    have h1 := ih u hu (by omega)
    have h2 := hp u v hu hv hg
    have h3 := hS v hv
    omega
theorem FarOk.reach {r : Nat} {F : Nat → Int} (hF : FarOk N G r F) {v : Nat} (h : Rch N G (fun _ => false) r v) : 0 ≤ F v := by
  induction h with
  | refl => rw [hF.at']; exact Int.le_refl _
  | step _ hb hc hg _ ih => exact (hF.fin _ _ hb hc hg ih).1
theorem tmod_two {x : Int} {n : Nat} (h : x = (n : Int)) : x.tmod 2 = ((n % 2 : Nat) : Int) := by
  subst h; rw [Int.tmod_eq_emod_of_nonneg (by omega)]; rfl
/-- With proper sides, whose least nodes are on side 0: they are those of how far. -/
theorem SideBy.eq {O : Nat → Int} {q : Nat} (hq : q < N) (h : SideBy N G O q) (hS : ∀ v, v < N → S v = 0 ∨ S v = 1) (hp : ∀ i j, i < N → j < N → G i j = true → S i ≠ S j) (hl : ∀ r, r < N → ldB (conB N G) r = true → S r = 0) : O q = S q := by
  obtain ⟨r, F, h1, h2, h3, h4, h5⟩ := h
  have h6 := h4.reach (rchB_iff.1 h3)
  obtain ⟨n, hn⟩ := Int.eq_ofNat_of_zero_le h6
  rw [h5, tmod_two hn, h4.side hS hp (hl r h1 h2) n q hq hn]
theorem SideBy.rng {O : Nat → Int} {q : Nat} (h : SideBy N G O q) : O q = 0 ∨ O q = 1 := by
  obtain ⟨r, F, h1, h2, h3, h4, h5⟩ := h
  have h6 := h4.reach (rchB_iff.1 h3)
  obtain ⟨n, hn⟩ := Int.eq_ofNat_of_zero_le h6
  rw [h5, tmod_two hn]; omega
/-- An odd ring bars proper sides. -/
theorem RingOk.bars {m : List Nat} {O : Nat → Int} (h : RingOk N G m) (hodd : m.length % 2 = 1) (hO : ∀ v, v < N → O v = 0 ∨ O v = 1) (hp : ∀ i j, i < N → j < N → G i j = true → O i ≠ O j) : False := by
  have h3 := h.ge
  have step : ∀ i, i < m.length → O (m.getD i 0) = if i % 2 = 0 then O (m.getD 0 0) else 1 - O (m.getD 0 0) := by
    intro i
    induction i with
    | zero => intro _; simp
    | succ i ih =>
      intro hi
      have h1 := ih (by omega)
      have h2 := h.on i (by omega)
      rw [Nat.mod_eq_of_lt hi] at h2
      have h4 := hp _ _ (h.lt i (by omega)) (h.lt _ hi) h2
      have h5 := hO _ (h.lt i (by omega))
      have h6 := hO _ (h.lt _ hi)
      have h7 := hO _ (h.lt 0 (by omega))
      by_cases e : i % 2 = 0
      · rw [if_pos e] at h1
        rw [if_neg (by omega)]; omega
      · rw [if_neg e] at h1
        rw [if_pos (by omega)]; omega
  have h1 := step (m.length - 1) (by omega)
  rw [if_pos (by omega)] at h1
  have h2 := h.on (m.length - 1) (by omega)
  rw [show m.length - 1 + 1 = m.length by omega, Nat.mod_self] at h2
  exact hp _ _ (h.lt _ (by omega)) (h.lt 0 (by omega)) h2 h1
/-- At the end: all have a side, and no two neighbours the same. -/
theorem SidI.proper {c : Nat} (h : SidI N G c [] S Fr P D R) (hc : N ≤ c) : (∀ v, v < N → S v = 0 ∨ S v = 1) ∧ ∀ i j, i < N → j < N → G i j = true → S i ≠ S j := by
  have h1 : ∀ v, v < N → S v = 0 ∨ S v = 1 := fun v hv => by
    have := h.all v (by omega)
    rcases h.t.rng v hv with e | e | e <;> omega
  refine ⟨h1, fun i j hi hj hg => ?_⟩
  have := (h.don i j hi hj (h.all i (by omega)) (by simp) hg).2.1
  have := h1 i hi
  omega
end

end Go.Proofs.YtnhhohhhpaejmaaDoor
