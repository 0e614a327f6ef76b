/- Asteroidal triples, and a node that is not between two others (Corneil, Olariu and Stewart): plain. No program in sight. LEKKERKERKER AND BOLAND: cliques in a row, where there is no hole and no asteroidal triple: plain. No program in sight. Greatest cliques in a row, by their numbers; what a start of such a row lets come next: plain. No program in sight. What a start of a row of cliques lets come next; the intervals of a row: plain. No program in sight. The intervals of a row of cliques meet just where there are edges: plain. No program in sight. LEKKERKERKER AND BOLAND, continued: the parts away from a node that is between no two. No program in sight. LEKKERKERKER AND BOLAND, continued: what is near the node; all joined. No program in sight. LEKKERKERKER AND BOLAND: all greatest cliques in a row. No program in sight. Where nodes can be taken off one by one, each simple, there is no hole; three nodes each of which can be gone round, the greatest first: plain. No program in sight. -/
import Derived.Test.YtnhhohhhpaejmaaPA
namespace Go.Proofs.Ytnhhohhhpaejmaa
open Go.RowKit

/-- Of finitely many one is greatest. -/
theorem max_exI {α : Type} {P : α → Prop} {f : α → Nat} : ∀ (B : Nat), (∀ a, P a → f a ≤ B) → (∃ a, P a) → ∃ a, P a ∧ ∀ b, P b → f b ≤ f a := by
  intro B
  induction B with
  | zero => intro hb ⟨a, ha⟩; exact ⟨a, ha, fun b hb' => by have := hb b hb'; omega⟩
  | succ B ih =>
    intro hb ⟨a, ha⟩
    by_cases h : ∃ b, P b ∧ f b = B + 1
    · obtain ⟨b, hb1, hb2⟩ := h
      exact ⟨b, hb1, fun c hc => by have := hb c hc; omega⟩
    · exact ih (fun c hc => by
        have h1 := hb c hc
        have h2 : f c ≠ B + 1 := fun e => h ⟨c, hc, e⟩
        omega) ⟨a, ha⟩
section
variable {N : Nat} {G : Nat → Nat → Bool}
/-- What is shut: all outside of U, a node z and those near it. -/
def shU (G : Nat → Nat → Bool) (U : Nat → Bool) (z q : Nat) : Bool := !U q || decide (q = z) || G z q
theorem shU_iff {U : Nat → Bool} {z q : Nat} : shU G U z q = false ↔ U q = true ∧ q ≠ z ∧ G z q = false := by
  unfold shU
  cases U q <;> cases G z q <;> simp
/-- Within U and away from z one comes from a to b. -/
def LK (N : Nat) (G : Nat → Nat → Bool) (U : Nat → Bool) (z a b : Nat) : Prop := a < N ∧ shU G U z a = false ∧ Rch N G (shU G U z) a b
theorem LK.left {U : Nat → Bool} {z a b : Nat} (h : LK N G U z a b) : a < N ∧ U a = true ∧ a ≠ z ∧ G z a = false := ⟨h.1, shU_iff.1 h.2.1⟩
theorem LK.right {U : Nat → Bool} {z a b : Nat} (h : LK N G U z a b) : b < N ∧ U b = true ∧ b ≠ z ∧ G z b = false := ⟨h.2.2.lt h.1, shU_iff.1 (h.2.2.free h.2.1)⟩
theorem LK.refl {U : Nat → Bool} {z a : Nat} (ha : a < N) (hU : U a = true) (hz : a ≠ z) (hg : G z a = false) : LK N G U z a a := ⟨ha, shU_iff.2 ⟨hU, hz, hg⟩, .refl⟩
theorem LK.step {U : Nat → Bool} {z a b c : Nat} (h : LK N G U z a b) (hc : c < N) (hg : G b c = true) (hU : U c = true) (hz : c ≠ z) (hzc : G z c = false) : LK N G U z a c :=
  ⟨h.1, h.2.1, .step h.2.2 h.right.1 hc hg (shU_iff.2 ⟨hU, hz, hzc⟩)⟩
theorem LK.trans {U : Nat → Bool} {z a b c : Nat} (h : LK N G U z a b) (k : LK N G U z b c) : LK N G U z a c := ⟨h.1, h.2.1, h.2.2.trans k.2.2⟩
theorem LK.sym (hs : ∀ a b, a < N → b < N → G a b = G b a) {U : Nat → Bool} {z a b : Nat} (h : LK N G U z a b) : LK N G U z b a := by
  have key : ∀ b, Rch N G (shU G U z) a b → Rch N G (shU G U z) b a := by
    intro b hb
    induction hb with
    | refl => exact .refl
    | @step b c hr h1 h2 h3 h4 ih => exact Rch.trans (.step .refl h2 h1 (by rw [hs _ _ h2 h1]; exact h3) (hr.free h.2.1)) ih
  exact ⟨h.right.1, h.2.2.free h.2.1, key b h.2.2⟩
/-- From one's way to another one's: whatever is come to is allowed there too. -/
theorem LK.move {U W : Nat → Bool} {z y a b : Nat} (h : LK N G U z a b) (hq : ∀ q, LK N G U z a q → W q = true ∧ q ≠ y ∧ G y q = false) : LK N G W y a b := by
  have key : ∀ b, Rch N G (shU G U z) a b → Rch N G (shU G W y) a b := by
    intro b hb
    induction hb with
    | refl => exact .refl
    | @step b c hr h1 h2 h3 h4 ih => exact .step ih h1 h2 h3 (shU_iff.2 (hq c ⟨h.1, h.2.1, .step hr h1 h2 h3 h4⟩))
  exact ⟨h.1, shU_iff.2 (hq a ⟨h.1, h.2.1, .refl⟩), key b h.2.2⟩
theorem LK.mono {U W : Nat → Bool} (hUW : ∀ q, U q = true → W q = true) {z a b : Nat} (h : LK N G U z a b) : LK N G W z a b := h.move fun q hq => ⟨hUW q hq.right.2.1, hq.right.2.2⟩
/-- It stays within P, where nothing near P, and allowed, is outside of P. -/
theorem LK.stay {U : Nat → Bool} {z a b : Nat} (h : LK N G U z a b) {P : Nat → Prop} (ha : P a) (hP : ∀ q r, q < N → r < N → P q → G q r = true → U r = true → r ≠ z → G z r = false → P r) : P b := by
  have key : ∀ b, Rch N G (shU G U z) a b → P b := by
    intro b hb
    induction hb with
    | refl => exact ha
    | @step b c hr h1 h2 h3 h4 ih =>
      obtain ⟨k1, k2, k3⟩ := shU_iff.1 h4
      exact hP b c h1 h2 ih h3 k1 k2 k3
  exact key b h.2.2
/-- Three nodes, each two of which are linked away from the third one. -/
def ATr (N : Nat) (G : Nat → Nat → Bool) (U : Nat → Bool) : Prop := ∃ a b c, LK N G U a b c ∧ LK N G U b a c ∧ LK N G U c a b
theorem ATr.mono {U W : Nat → Bool} (hUW : ∀ q, U q = true → W q = true) (h : ATr N G U) : ATr N G W := by
  obtain ⟨a, b, c, h1, h2, h3⟩ := h
  exact ⟨a, b, c, h1.mono hUW, h2.mono hUW, h3.mono hUW⟩
/-- A node that is between no two. -/
def Adm (N : Nat) (G : Nat → Nat → Bool) (U : Nat → Bool) (w : Nat) : Prop := w < N ∧ U w = true ∧ ∀ u v, ¬ (LK N G U v w u ∧ LK N G U u w v)

theorem adm_ex (hs : ∀ a b, a < N → b < N → G a b = G b a) (hirr : ∀ a, a < N → G a a = false) : ∀ (n : Nat) (U : Nat → Bool), cnt U N = n → (∃ x, x < N ∧ U x = true) → ¬ ATr N G U → ∃ w, Adm N G U w := by
  classical
  intro n
  induction n using Nat.strongRecOn with
  | ind n ih =>
    intro U hn hne hat
    by_cases hp : ∃ p : Nat × Nat, p.1 < N ∧ U p.1 = true ∧ LK N G U p.1 p.2 p.2
    · obtain ⟨⟨x, y⟩, ⟨hxN, hxU, hxy⟩, hmax⟩ := max_exI (P := fun p : Nat × Nat => p.1 < N ∧ U p.1 = true ∧ LK N G U p.1 p.2 p.2) (f := fun p => cnt (fun q => decide (LK N G U p.1 p.2 q)) N) N (fun a _ => cnt_le _ _) hp
      simp only at hxN hxU hxy
      -- C, S
      have hCU : ∀ q, LK N G U x y q → q < N ∧ U q = true ∧ q ≠ x ∧ G x q = false := fun q h => h.right
      have hnearC : ∀ s q, s < N → U s = true → LK N G U x y q → G s q = true → LK N G U x y s ∨ G x s = true := fun s q hsN hsU hq hg => by
        obtain ⟨hqN, hqU, hqx, hxq⟩ := hq.right
        by_cases e : s = x
        · subst e; rw [hxq] at hg; cases hg
        · cases e2 : G x s
          · exact .inl (hq.step hsN (by rw [hs _ _ hqN hsN]; exact hg) hsU e e2)
          · exact .inr rfl
      let S : Nat → Prop := fun s => s < N ∧ U s = true ∧ ¬ LK N G U x y s ∧ ∃ q, LK N G U x y q ∧ G s q = true
      have hSx : ∀ s, S s → G x s = true := fun s ⟨h1, h2, h3, q, h4, h5⟩ => (hnearC s q h1 h2 h4 h5).resolve_left h3
      have hcomp : ∀ z, z < N → U z = true → ¬ LK N G U x y z → ¬ S z → ∀ s, S s → G z s = true := fun z hzN hzU hzC hzS s hsS => by
        refine Classical.byContradiction fun hng => ?_
        have hzs : G z s = false := by simpa using hng
        obtain ⟨hsN, hsU, hsC, q, hq, hsq⟩ := hsS
        have hsz : s ≠ z := fun e => hzS (by rw [← e]; exact ⟨hsN, hsU, hsC, q, hq, hsq⟩)
        have hCz : ∀ c, LK N G U x y c → c ≠ z ∧ G z c = false := fun c hc => by
          refine ⟨fun e => hzC (e ▸ hc), ?_⟩
          cases e : G z c
          · rfl
          · exact absurd ⟨hzN, hzU, hzC, c, hc, e⟩ hzS
        have hs0 : LK N G U z s s := LK.refl hsN hsU hsz hzs
        have hqN := hq.right
        have hsq' : LK N G U z s q := hs0.step hqN.1 hsq hqN.2.1 (hCz q hq).1 (hCz q hq).2
        have hall : ∀ c, LK N G U x y c → LK N G U z s c := fun c hc => by
          have h1 : LK N G U x q c := (hq.sym hs).trans hc
          have h2 : LK N G U z q c := h1.move fun r hr => ⟨hr.right.2.1, hCz r (hq.trans hr)⟩
          exact hsq'.trans h2
        have h1 := hmax (z, s) ⟨hzN, hzU, hs0⟩
        simp only at h1
        have h2 := cnt_more (I := fun q => decide (LK N G U x y q)) (J := fun q => decide (LK N G U z s q)) (x := s) (n := N) (fun c _ hc => decide_eq_true (hall c (of_decide_eq_true hc))) hsN (decide_eq_false hsC) (decide_eq_true hs0)
        omega
      let X : Nat → Bool := fun z => decide (z < N ∧ U z = true ∧ ¬ LK N G U x y z ∧ ¬ S z)
      have hXU : ∀ q, X q = true → U q = true := fun q h => (of_decide_eq_true h).2.1
      have hyy : LK N G U x y y := hxy
      have hXlt : cnt X N < n := by
        rw [← hn]
        exact cnt_more (x := y) (fun k _ hk => hXU k hk) hyy.1 (decide_eq_false fun h => h.2.2.1 hyy) hyy.left.2.1
      have hxX : X x = true := decide_eq_true ⟨hxN, hxU, fun h => h.right.2.2.1 rfl, fun h => by have := hSx x h; rw [hirr x hxN] at this; cases this⟩
      obtain ⟨w, hwN, hwX, hw⟩ := ih _ hXlt X rfl ⟨x, hxN, hxX⟩ (fun h => hat (h.mono hXU))
      obtain ⟨-, hwU, hwC, hwS⟩ := of_decide_eq_true hwX
      have hwCompl := hcomp w hwN hwU hwC hwS
      -- a way from X that avoids S stays in X
      have hstay : ∀ z b, (∀ s, S s → G z s = true) → LK N G U z w b → LK N G X z w b := fun z b hz h => by
        have hin : ∀ q, LK N G U z w q → X q = true := fun q hq => hq.stay (P := fun q => X q = true) hwX fun p r hp hr hpX hg hrU hrz hzr => by
          obtain ⟨-, hpU, hpC, hpS⟩ := of_decide_eq_true hpX
          have hrS : ¬ S r := fun h => by rw [hz r h] at hzr; cases hzr
          refine decide_eq_true ⟨hr, hrU, fun hrC => hpS ⟨hp, hpU, hpC, r, hrC, hg⟩, hrS⟩
        exact h.move fun q hq => ⟨hin q hq, hq.right.2.2⟩
      have hcase : ∀ z, z < N → U z = true → G z w = false → (X z = true ∧ ∀ s, S s → G z s = true) ∨ LK N G U x y z := fun z hzN hzU hzw => by
        by_cases hC : LK N G U x y z
        · exact .inr hC
        · by_cases hS : S z
          · have := hwCompl z hS
            rw [hs _ _ hwN hzN, hzw] at this; cases this
          · exact .inl ⟨decide_eq_true ⟨hzN, hzU, hC, hS⟩, hcomp z hzN hzU hC hS⟩
      have hCw : ∀ c, LK N G U x y c → c ≠ w ∧ G w c = false := fun c hc => by
        refine ⟨fun e => hwC (e ▸ hc), ?_⟩
        cases e : G w c
        · rfl
        · exact absurd ⟨hwN, hwU, hwC, c, hc, e⟩ hwS
      refine ⟨w, hwN, hwU, fun u v ⟨h1, h2⟩ => ?_⟩
      have hu := h1.right
      have hv := h2.right
      have hvw : G v w = false := h1.left.2.2.2
      have huw : G u w = false := h2.left.2.2.2
      rcases hcase v hv.1 hv.2.1 hvw with ⟨hvX, hvS⟩ | hvC
      · have k1 := hstay v u hvS h1
        rcases hcase u hu.1 hu.2.1 huw with ⟨huX, huS⟩ | huC
        · exact hw u v ⟨k1, hstay u v huS h2⟩
        · exact (of_decide_eq_true k1.right.2.1).2.2.1 huC
      · rcases hcase u hu.1 hu.2.1 huw with ⟨huX, huS⟩ | huC
        · exact (of_decide_eq_true (hstay u v huS h2).right.2.1).2.2.1 hvC
        · have k : LK N G U x u v := (huC.sym hs).trans hvC
          have k2 : LK N G U w u v := k.move fun q hq => ⟨hq.right.2.1, hCw q (huC.trans hq)⟩
          exact hat ⟨w, u, v, k2, h2, h1⟩
    · obtain ⟨x, hxN, hxU⟩ := hne
      refine ⟨x, hxN, hxU, fun u v ⟨h1, h2⟩ => hp ⟨(u, x), ?_⟩⟩
      have hl := h2.left
      have hu := h1.right
      exact ⟨hu.1, hu.2.1, LK.refl hl.1 hl.2.1 hl.2.2.1 hl.2.2.2⟩
end
end Go.Proofs.Ytnhhohhhpaejmaa
namespace Go.Proofs.Ytnhhohhhpaejmaa
open Go.RowKit

section
variable {N : Nat} {G : Nat → Nat → Bool}
/-- What is shut beside a node v and two near it. -/
def shA (G : Nat → Nat → Bool) (U : Nat → Bool) (v a b q : Nat) : Bool := !U q || decide (q = v) || (G v q && !decide (q = a) && !decide (q = b))
theorem shA_iff {U : Nat → Bool} {v a b q : Nat} : shA G U v a b q = false ↔ U q = true ∧ q ≠ v ∧ (G v q = false ∨ q = a ∨ q = b) := by
  unfold shA
  by_cases h1 : q = a <;> by_cases h2 : q = b <;> cases U q <;> cases G v q <;> simp [h1, h2]
/-- No hole within U. -/
def CHd (N : Nat) (G : Nat → Nat → Bool) (U : Nat → Bool) : Prop := ∀ v a b, v < N → a < N → b < N → U v = true → U a = true → U b = true → G v a = true → G v b = true → a ≠ b → G a b = false → ¬ Rch N G (shA G U v a b) a b
theorem rch_openI {S T : Nat → Bool} (hST : ∀ q, S q = false → T q = false) {a b : Nat} (k : Rch N G S a b) : Rch N G T a b := by
  induction k with
  | refl => exact .refl
  | @step b c hr h1 h2 h3 h4 ih => exact .step ih h1 h2 h3 (hST c h4)
theorem CHd.mono {U W : Nat → Bool} (hUW : ∀ q, U q = true → W q = true) (h : CHd N G W) : CHd N G U := fun v a b hv ha hb uv ua ub g1 g2 hne hg hr =>
  h v a b hv ha hb (hUW v uv) (hUW a ua) (hUW b ub) g1 g2 hne hg (rch_openI (fun q hq => by
    rw [shA_iff] at hq ⊢
    exact ⟨hUW q hq.1, hq.2⟩) hr)
/-- No ring of four without a chord. -/
theorem CHd.four {U : Nat → Bool} (h : CHd N G U) {s r r' s' : Nat} (hs : s < N ∧ U s = true) (hr : r < N ∧ U r = true) (hr' : r' < N ∧ U r' = true) (hs' : s' < N ∧ U s' = true)
    (g1 : G s r = true) (g2 : G s s' = true) (g3 : G r r' = true) (g4 : G r' s' = true) (hne : r ≠ s') (h1 : G r s' = false) (h2 : G s r' = false) (h3 : r' ≠ s) (h4 : s' ≠ s) : False :=
  h s r s' hs.1 hr.1 hs'.1 hs.2 hr.2 hs'.2 g1 g2 hne h1 (.step (.step .refl hr.1 hr'.1 g3 (shA_iff.2 ⟨hr'.2, h3, .inl h2⟩)) hr'.1 hs'.1 g4 (shA_iff.2 ⟨hs'.2, h4, .inr (.inr rfl)⟩))
/-- Those near w that a part away from w touches are near each other. -/
theorem CHd.part {U : Nat → Bool} (h : CHd N G U) (hsym : ∀ a b, a < N → b < N → G a b = G b a) {w s s' c c' : Nat} (hw : w < N ∧ U w = true) (hs : s < N ∧ U s = true) (hs' : s' < N ∧ U s' = true) (g1 : G w s = true) (g2 : G w s' = true) (hne : s ≠ s') (hsw : s' ≠ w) (hk : LK N G U w c c') (k1 : G s c = true) (k2 : G s' c' = true) : G s s' = true := by
  cases e : G s s'
  · exfalso
    have hc := hk.left
    have hc' := hk.right
    have h1 : Rch N G (shA G U w s s') c c' := rch_openI (fun q hq => by
      rw [shU_iff] at hq
      rw [shA_iff]
      exact ⟨hq.1, hq.2.1, .inl hq.2.2⟩) hk.2.2
    have h0 : Rch N G (shA G U w s s') s c := .step .refl hs.1 hc.1 k1 (shA_iff.2 ⟨hc.2.1, hc.2.2.1, .inl hc.2.2.2⟩)
    exact h w s s' hw.1 hs.1 hs'.1 hw.2 hs.2 hs'.2 g1 g2 hne e (.step (h0.trans h1) hc'.1 hs'.1 (by rw [hsym _ _ hc'.1 hs'.1]; exact k2) (shA_iff.2 ⟨hs'.2, hsw, .inr (.inr rfl)⟩))
  · rfl

/-- A greatest clique of U. -/
structure IsMx (N : Nat) (G : Nat → Nat → Bool) (U K : Nat → Bool) : Prop where
  sub : ∀ q, K q = true → q < N ∧ U q = true
  cl : ∀ a b, K a = true → K b = true → a ≠ b → G a b = true
  mx : ∀ z, z < N → U z = true → (∀ a, K a = true → a ≠ z → G z a = true) → K z = true
theorem mx_ex {U : Nat → Bool} (hsym : ∀ a b, a < N → b < N → G a b = G b a) {u : Nat} (hu : u < N) (hU : U u = true) : ∃ K, IsMx N G U K ∧ K u = true := by
  obtain ⟨K, ⟨h1, h2, h3⟩, hm⟩ := max_exI (P := fun K : Nat → Bool => (∀ q, K q = true → q < N ∧ U q = true) ∧ (∀ a b, K a = true → K b = true → a ≠ b → G a b = true) ∧ K u = true) (f := fun K => cnt K N) N (fun _ _ => cnt_le _ _)
    ⟨fun q => decide (q = u), fun q hq => by
      have : q = u := by simpa using hq
      subst this; exact ⟨hu, hU⟩, fun a b ha hb hne => by
      have e1 : a = u := by simpa using ha
      have e2 : b = u := by simpa using hb
      exact absurd (e1.trans e2.symm) hne, by simp⟩
  refine ⟨K, ⟨h1, h2, fun z hz hzU hall => Classical.byContradiction fun hn => ?_⟩, h3⟩
  have hn' : K z = false := by simpa using hn
  have h4 := hm (fun q => K q || decide (q = z)) ⟨fun q hq => by
    simp only [Bool.or_eq_true, decide_eq_true_eq] at hq
    rcases hq with hq | rfl
    · exact h1 q hq
    · exact ⟨hz, hzU⟩, fun a b ha hb hne => by
    simp only [Bool.or_eq_true, decide_eq_true_eq] at ha hb
    rcases ha with ha | rfl <;> rcases hb with hb | rfl
    · exact h2 a b ha hb hne
    · rw [hsym _ _ (h1 a ha).1 hz]; exact hall a ha hne
    · exact hall b hb (fun e => hne e.symm)
    · exact absurd rfl hne, by simp [h3]⟩
  have h5 := cnt_more (I := K) (J := fun q => K q || decide (q = z)) (x := z) (n := N) (fun k _ hk => by simp [hk]) hz hn' (by simp)
  omega

def noS : Nat → Bool := fun _ => false
/-- In a row each node's sets stand side by side. -/
def ConS (P : List (Nat → Bool)) : Prop := ∀ i j k, i < j → j < k → k < P.length → ∀ v, (P.getD i noS) v = true → (P.getD k noS) v = true → (P.getD j noS) v = true
theorem getD_appL {P Q : List (Nat → Bool)} {i : Nat} (h : i < P.length) : (P ++ Q).getD i noS = P.getD i noS := by simp [List.getD, List.getElem?_append_left h]
theorem getD_appR {P Q : List (Nat → Bool)} {i : Nat} (h : P.length ≤ i) : (P ++ Q).getD i noS = Q.getD (i - P.length) noS := by simp [List.getD, List.getElem?_append_right h]
theorem getD_inS {P : List (Nat → Bool)} {i : Nat} (h : i < P.length) : P.getD i noS ∈ P := by rw [List.getD, List.getElem?_eq_getElem h]; exact List.getElem_mem _
theorem ConS.join {P Q : List (Nat → Bool)} (hP : ConS P) (hQ : ConS Q) (h : ∀ v, (∃ K ∈ P, K v = true) → (∃ K ∈ Q, K v = true) → (P.getD (P.length - 1) noS) v = true ∧ (Q.getD 0 noS) v = true) : ConS (P ++ Q) := by
  intro i j k hij hjk hk v h1 h3
  rw [List.length_append] at hk
  by_cases hkP : k < P.length
  · rw [getD_appL (by omega)] at h1 ⊢
    rw [getD_appL hkP] at h3
    exact hP i j k hij hjk hkP v h1 h3
  · rw [getD_appR (by omega)] at h3
    by_cases hiP : i < P.length
    · rw [getD_appL hiP] at h1
      obtain ⟨e1, e2⟩ := h v ⟨_, getD_inS hiP, h1⟩ ⟨_, getD_inS (by omega), h3⟩
      by_cases hjP : j < P.length
      · rw [getD_appL hjP]
        by_cases e : j = P.length - 1
        · rw [e]; exact e1
        · exact hP i j (P.length - 1) hij (by omega) (by omega) v h1 e1
      · rw [getD_appR (by omega)]
        by_cases e : j - P.length = 0
        · rw [e]; exact e2
        · exact hQ 0 (j - P.length) (k - P.length) (by omega) (by omega) (by omega) v e2 h3
    · rw [getD_appR (by omega)] at h1 ⊢
      exact hQ _ _ _ (by omega) (by omega) (by omega) v h1 h3
theorem ConS.rev {P : List (Nat → Bool)} (hP : ConS P) : ConS P.reverse := by
  intro i j k hij hjk hk v h1 h3
  rw [List.length_reverse] at hk
  have e : ∀ q, q < P.length → P.reverse.getD q noS = P.getD (P.length - 1 - q) noS := fun q hq => by
    rw [List.getD, List.getD, List.getElem?_reverse hq]
  rw [e _ (by omega)] at h1 h3 ⊢
  exact hP _ _ _ (by omega) (by omega) (by omega) v h3 h1
/-- All greatest cliques of U in a row. -/
structure CP (N : Nat) (G : Nat → Nat → Bool) (U : Nat → Bool) (P : List (Nat → Bool)) : Prop where
  mx : ∀ K ∈ P, IsMx N G U K
  cov : ∀ K, IsMx N G U K → K ∈ P
  con : ConS P
end
end Go.Proofs.Ytnhhohhhpaejmaa
namespace Go.Proofs.Ytnhhohhhpaejmaa
open Go Go.RowKit

/-- In a row of cliques each node's stand side by side. -/
def ConI (L : List (List Nat)) (p : List Nat) : Prop := ∀ a b c, [a, b, c].Sublist p → ∀ v, v ∈ L.getD a [] → v ∈ L.getD c [] → v ∈ L.getD b []
/-- All cliques in such a row. -/
structure FulI (L : List (List Nat)) (p : List Nat) : Prop where
  nd : p.Nodup
  lt : ∀ k ∈ p, k < L.length
  len : p.length = L.length
  con : ConI L p
theorem ConI.sub {L : List (List Nat)} {p q : List Nat} (h : ConI L q) (hs : p.Sublist q) : ConI L p := fun a b c h3 => h a b c (h3.trans hs)

theorem sub1_mem {α : Type} {x : α} {P : List α} (h : [x].Sublist P) : ∃ k, ∃ hk : k < P.length, P[k] = x := by
  have : x ∈ P := h.subset (List.mem_singleton.2 rfl)
  obtain ⟨k, hk, e⟩ := List.mem_iff_getElem.1 this
  exact ⟨k, hk, e⟩
theorem sub2_ind {α : Type} {x y : α} : ∀ {P : List α}, [x, y].Sublist P → ∃ j k, ∃ (hj : j < P.length) (hk : k < P.length), j < k ∧ P[j] = x ∧ P[k] = y
  | [], h => by cases h
  | a :: P, h => by
    rcases List.sublist_cons_iff.1 h with h | ⟨r, e, h⟩
    · obtain ⟨j, k, hj, hk, jk, e1, e2⟩ := sub2_ind h
      exact ⟨j + 1, k + 1, by simp; omega, by simp; omega, by omega, by simpa using e1, by simpa using e2⟩
    · obtain ⟨rfl, rfl⟩ := List.cons.inj e
      obtain ⟨k, hk, e2⟩ := sub1_mem h
      exact ⟨0, k + 1, by simp, by simp; omega, by omega, rfl, by simpa using e2⟩
theorem sub3_ind {α : Type} {x y z : α} : ∀ {P : List α}, [x, y, z].Sublist P → ∃ i j k, ∃ (hi : i < P.length) (hj : j < P.length) (hk : k < P.length), i < j ∧ j < k ∧ P[i] = x ∧ P[j] = y ∧ P[k] = z
  | [], h => by cases h
  | a :: P, h => by
    rcases List.sublist_cons_iff.1 h with h | ⟨r, e, h⟩
    · obtain ⟨i, j, k, hi, hj, hk, ij, jk, e0, e1, e2⟩ := sub3_ind h
      exact ⟨i + 1, j + 1, k + 1, by simp; omega, by simp; omega, by simp; omega, by omega, by omega, by simpa using e0, by simpa using e1, by simpa using e2⟩
    · obtain ⟨rfl, rfl⟩ := List.cons.inj e
      obtain ⟨j, k, hj, hk, jk, e1, e2⟩ := sub2_ind h
      exact ⟨0, j + 1, k + 1, by simp, by simp; omega, by simp; omega, by omega, by omega, rfl, by simpa using e1, by simpa using e2⟩

/-- Where each first stands. -/
def fstsI : List Nat → List Nat
  | [] => []
  | a :: l => a :: (fstsI l).filter fun q => decide (q ≠ a)
theorem fstsI_sub : ∀ l, (fstsI l).Sublist l
  | [] => List.Sublist.slnil
  | a :: l => (List.filter_sublist.trans (fstsI_sub l)).cons_cons a
theorem fstsI_mem {x : Nat} : ∀ {l}, x ∈ l → x ∈ fstsI l
  | a :: l, h => by
    by_cases e : x = a
    · rw [e]; exact List.mem_cons_self
    · rcases List.mem_cons.1 h with h | h
      · exact absurd h e
      · exact List.mem_cons_of_mem _ (List.mem_filter.2 ⟨fstsI_mem h, by simpa using e⟩)
theorem fstsI_nodup : ∀ l, (fstsI l).Nodup
  | [] => List.nodup_nil
  | a :: l => List.nodup_cons.2 ⟨fun h => by simp at h, (fstsI_nodup l).sublist List.filter_sublist⟩

theorem nodup_range_len : ∀ (n : Nat) {l : List Nat}, l.Nodup → (∀ v, v ∈ l ↔ v < n) → l.length = n := by
  intro n l hnd h
  have h1 : ∀ (n : Nat) (l : List Nat), l.Nodup → (∀ v ∈ l, v < n) → l.length ≤ n := by
    intro n
    induction n with
    | zero =>
      intro l _ h
      cases l with
      | nil => exact Nat.le_refl _
      | cons a l => exact absurd (h a List.mem_cons_self) (Nat.not_lt_zero _)
    | succ n ih =>
      intro l hnd h
      have h2 := ih (l.erase n) (hnd.erase n) fun v hv => by
        have := h v (List.mem_of_mem_erase hv)
        have hne : v ≠ n := fun e => by subst e; exact (List.Nodup.not_mem_erase hnd) hv
        omega
      have h3 : l.length ≤ (l.erase n).length + 1 := by
        rw [List.length_erase]; split <;> omega
      omega
  have h2 := h1 n l hnd fun v hv => (h v).1 hv
  have h3 : (List.range n).Sublist (List.range n) := List.Sublist.refl _
  have h4 : (List.range n).length ≤ l.length := List.Nodup.length_le_of_subset List.nodup_range fun v hv => (h v).2 (List.mem_range.1 hv)
  rw [List.length_range] at h4
  omega

section
variable {N : Nat} {G : Nat → Nat → Bool} {L : List (List Nat)}
/-- The nodes of a set. -/
def memsI (N : Nat) (K : Nat → Bool) : List Nat := (List.range N).filter K
theorem mem_memsI {K : Nat → Bool} {v : Nat} : v ∈ memsI N K ↔ v < N ∧ K v = true := by unfold memsI; rw [List.mem_filter, List.mem_range]
theorem mx_list (hsym : ∀ a b, a < N → b < N → G a b = G b a) {K : Nat → Bool} (h : IsMx N G (fun _ => true) K) : MaxCl N G (memsI N K) := by
  refine ⟨List.pairwise_lt_range.sublist List.filter_sublist, fun v hv => (mem_memsI.1 hv).1, fun u hu v hv hne => h.cl u v (mem_memsI.1 hu).2 (mem_memsI.1 hv).2 hne, fun u hu hn => ?_⟩
  refine Classical.byContradiction fun hall => hn (mem_memsI.2 ⟨hu, h.mx u hu rfl fun a ha hne => ?_⟩)
  cases e : G u a
  · exact absurd ⟨a, mem_memsI.2 ⟨(h.sub a ha).1, ha⟩, e⟩ hall
  · rfl
theorem list_mx (hirr : ∀ a, a < N → G a a = false) {K : List Nat} (h : MaxCl N G K) : IsMx N G (fun _ => true) (fun q => decide (q ∈ K)) := by
  refine ⟨fun q hq => ⟨h.lt q (by simpa using hq), rfl⟩, fun a b ha hb hne => h.clq a (by simpa using ha) b (by simpa using hb) hne, fun z hz _ hall => ?_⟩
  refine Classical.byContradiction fun hn => ?_
  have hn' : z ∉ K := by simpa using hn
  obtain ⟨x, hx, e⟩ := h.top z hz hn'
  rw [hall x (by simpa using hx) (fun e2 => hn' (e2 ▸ hx))] at e; cases e
theorem lst_nodup {L : List (List Nat)} (h : L.Pairwise LstLt) : L.Nodup := h.imp fun {a b} hab e => by subst e; exact LstLt.irr a hab

/-- A row of sets gives a row of numbers. -/
theorem fulI_ex (hsym : ∀ a b, a < N → b < N → G a b = G b a) (hirr : ∀ a, a < N → G a a = false) (hN : 0 < N) (hasc : L.Pairwise LstLt) (hiff : ∀ K, K ∈ L ↔ MaxCl N G K ∧ K ≠ []) {P : List (Nat → Bool)} (h : CP N G (fun _ => true) P) : ∃ p, FulI L p := by
  have inL : ∀ K ∈ P, memsI N K ∈ L := fun K hK => by
    have hm := mx_list hsym (h.mx K hK)
    refine (hiff _).2 ⟨hm, fun e => ?_⟩
    obtain ⟨x, hx, -⟩ := hm.top 0 hN (by rw [e]; simp)
    rw [e] at hx; cases hx
  have hidx : ∀ K ∈ P, L.getD (L.idxOf (memsI N K)) [] = memsI N K := fun K hK => by
    have := List.idxOf_lt_length_of_mem (inL K hK)
    rw [List.getD, List.getElem?_eq_getElem this, Option.getD_some, List.getElem_idxOf]
  have hcon : ConI L (P.map fun K => L.idxOf (memsI N K)) := by
    intro a b c hs v hva hvc
    obtain ⟨l', hl', e⟩ := List.sublist_map_iff.1 hs
    obtain ⟨x, y, z, rfl⟩ : ∃ x y z, l' = [x, y, z] := by
      match l', e with
      | [x, y, z], _ => exact ⟨x, y, z, rfl⟩
    simp only [List.map_cons, List.map_nil, List.cons.injEq, and_true] at e
    obtain ⟨rfl, rfl, rfl⟩ := e
    obtain ⟨i, j, k, hi, hj, hk, ij, jk, rfl, rfl, rfl⟩ := sub3_ind hl'
    rw [hidx _ (List.getElem_mem _), mem_memsI] at hva hvc ⊢
    refine ⟨hva.1, ?_⟩
    have := h.con i j k ij jk hk v
    simp only [List.getD, List.getElem?_eq_getElem hi, List.getElem?_eq_getElem hj, List.getElem?_eq_getElem hk, Option.getD_some] at this
    exact this hva.2 hvc.2
  refine ⟨fstsI (P.map fun K => L.idxOf (memsI N K)), fstsI_nodup _, fun k hk => ?_, nodup_range_len _ (fstsI_nodup _) fun v => ⟨fun hv => ?_, fun hv => ?_⟩, hcon.sub (fstsI_sub _)⟩
  · obtain ⟨K, hK, rfl⟩ := List.mem_map.1 ((fstsI_sub _).subset hk)
    exact List.idxOf_lt_length_of_mem (inL K hK)
  · obtain ⟨K, hK, rfl⟩ := List.mem_map.1 ((fstsI_sub _).subset hv)
    exact List.idxOf_lt_length_of_mem (inL K hK)
  · refine fstsI_mem (List.mem_map.2 ⟨fun q => decide (q ∈ L[v]), h.cov _ (list_mx hirr ((hiff _).1 (List.getElem_mem hv)).1), ?_⟩)
    have hm := ((hiff _).1 (List.getElem_mem hv)).1
    have e : memsI N (fun q => decide (q ∈ L[v])) = L[v] := asc_ext (List.pairwise_lt_range.sublist List.filter_sublist) hm.asc fun x => by
      rw [mem_memsI]
      exact ⟨fun hx => by simpa using hx.2, fun hx => ⟨hm.lt x hx, by simpa using hx⟩⟩
    rw [e]
    have h1 := List.idxOf_lt_length_of_mem (List.getElem_mem hv)
    have h2 := List.getElem_idxOf (x := L[v]) (xs := L) h1
    have h3 := lst_nodup hasc
    exact (List.getElem_inj h3).1 h2
end
end Go.Proofs.Ytnhhohhhpaejmaa
namespace Go.Proofs.Ytnhhohhhpaejmaa
open Go Go.RowKit

theorem nil_or_snoc (q : List Nat) : q = [] ∨ ∃ q' t, q = q' ++ [t] := by
  rcases List.eq_nil_or_concat q with h | ⟨q', t, h⟩
  · exact .inl h
  · exact .inr ⟨q', t, by rw [h]; simp⟩
section
variable {L : List (List Nat)}
/-- 0: not begun; 1: in the last clique; 2: over. -/
def stI (L : List (List Nat)) (q : List Nat) (v : Nat) : Int :=
  match q.getLast? with
  | none => 0
  | some k => if v ∈ L.getD k [] then 1 else if (q.any fun k => decide (v ∈ L.getD k [])) = true then 2 else 0
theorem stI_nil (v : Nat) : stI L [] v = 0 := rfl
theorem stI_snoc (q : List Nat) (k v : Nat) : stI L (q ++ [k]) v = if v ∈ L.getD k [] then 1 else if (q.any fun k => decide (v ∈ L.getD k [])) = true then 2 else 0 := by
  unfold stI
  rw [List.getLast?_concat]
  by_cases h : v ∈ L.getD k []
  · simp only [if_pos h]
  · simp only [if_neg h, List.any_append, List.any_cons, List.any_nil, decide_eq_false h, Bool.or_false]
theorem stI_any (q : List Nat) (v : Nat) : stI L q v ≠ 0 ↔ (q.any fun k => decide (v ∈ L.getD k [])) = true := by
  rcases nil_or_snoc q with rfl | ⟨q', k, rfl⟩
  · simp [stI_nil]
  · rw [stI_snoc, List.any_append, List.any_cons, List.any_nil]
    by_cases h : v ∈ L.getD k []
    · rw [if_pos h, decide_eq_true h]; simp
    · rw [if_neg h, decide_eq_false h]
      by_cases h2 : (q'.any fun k => decide (v ∈ L.getD k [])) = true
      · rw [if_pos h2, h2]; simp
      · rw [if_neg h2]
        rw [Bool.not_eq_true] at h2
        rw [h2]; simp
theorem stI_rng (q : List Nat) (v : Nat) : stI L q v = 0 ∨ stI L q v = 1 ∨ stI L q v = 2 := by
  rcases nil_or_snoc q with rfl | ⟨q', t, rfl⟩
  · exact .inl rfl
  · rw [stI_snoc]
    by_cases h : v ∈ L.getD t []
    · rw [if_pos h]; exact .inr (.inl rfl)
    · rw [if_neg h]
      by_cases h2 : (q'.any fun k => decide (v ∈ L.getD k [])) = true
      · rw [if_pos h2]; exact .inr (.inr rfl)
      · rw [if_neg h2]; exact .inl rfl
theorem stI_next (q : List Nat) (k v : Nat) : stI L (q ++ [k]) v = if v ∈ L.getD k [] then 1 else if stI L q v = 1 then 2 else stI L q v := by
  rw [stI_snoc]
  by_cases h : v ∈ L.getD k []
  · simp only [if_pos h]
  · simp only [if_neg h]
    have h1 := stI_any (L := L) q v
    by_cases e : (q.any fun k => decide (v ∈ L.getD k [])) = true
    · rw [if_pos e]
      have h2 := h1.2 e
      by_cases e1 : stI L q v = 1
      · rw [if_pos e1]
      · rw [if_neg e1]
        have h3 := stI_rng (L := L) q v
        omega
    · rw [if_neg e]
      have h2 : stI L q v = 0 := Classical.byContradiction fun h2 => e (h1.1 h2)
      rw [h2]; simp
/-- May a clique come next? -/
def OkI (L : List (List Nat)) (N : Nat) (q : List Nat) (k : Nat) : Prop :=
  (∀ v, v ∈ L.getD k [] → stI L q v < 2) ∧ ∀ v, v < N → stI L q v = 1 → v ∉ L.getD k [] → ∀ j, j < L.length → j ∉ q → v ∉ L.getD j []
/-- The start of a row. -/
structure StaI (L : List (List Nat)) (q : List Nat) : Prop where
  nd : q.Nodup
  lt : ∀ k ∈ q, k < L.length
  con : ConI L q
theorem StaI.nil : StaI L [] := ⟨List.nodup_nil, fun k h => (List.not_mem_nil h).elim, fun a b c h => by cases h⟩
theorem StaI.le {q : List Nat} (h : StaI L q) : q.length ≤ L.length := by
  have := List.Nodup.length_le_of_subset (l₂ := List.range L.length) h.nd fun k hk => List.mem_range.2 (h.lt k hk)
  rwa [List.length_range] at this
theorem StaI.full {q : List Nat} (h : StaI L q) (e : q.length = L.length) : FulI L q := ⟨h.nd, h.lt, e, h.con⟩
theorem sub_snoc3 {a b c k : Nat} {q : List Nat} (h : [a, b, c].Sublist (q ++ [k])) : [a, b, c].Sublist q ∨ (c = k ∧ [a, b].Sublist q) := by
  rcases List.sublist_append_iff.1 h with ⟨l1, l2, e, h1, h2⟩
  match l1, l2, e with
  | [], [x, y, z], e => exact absurd h2.length_le (by simp)
  | [x], [y, z], e => exact absurd h2.length_le (by simp)
  | [x, y], [z], e =>
    simp only [List.cons_append, List.nil_append, List.cons.injEq, and_true] at e
    obtain ⟨rfl, rfl, rfl⟩ := e
    refine .inr ⟨?_, h1⟩
    have := h2.subset (List.mem_singleton.2 rfl)
    exact List.mem_singleton.1 this
  | [x, y, z], [], e =>
    simp only [List.append_nil] at e
    exact .inl (e ▸ h1)
theorem StaI.snoc {q : List Nat} {k : Nat} (h : StaI L q) (hk : k < L.length) (hn : k ∉ q) (hok : ∀ v, v ∈ L.getD k [] → stI L q v < 2) : StaI L (q ++ [k]) := by
  refine ⟨?_, fun x hx => ?_, fun a b c hs v hva hvc => ?_⟩
  · rw [List.nodup_append]
    exact ⟨h.nd, by simp, fun p hp r hr e => by rw [List.mem_singleton] at hr; subst hr; subst e; exact hn hp⟩
  · rcases List.mem_append.1 hx with h1 | h1
    · exact h.lt x h1
    · rw [List.mem_singleton] at h1; subst h1; exact hk
  · rcases sub_snoc3 hs with h3 | ⟨rfl, h3⟩
    · exact h.con a b c h3 v hva hvc
    · have hlt := hok v hvc
      rcases nil_or_snoc q with rfl | ⟨q', t, rfl⟩
      · cases h3
      · have ht : v ∈ L.getD t [] := by
          rw [stI_snoc] at hlt
          by_cases ht : v ∈ L.getD t []
          · exact ht
          · rw [if_neg ht] at hlt
            have ha : a ∈ q' ++ [t] := h3.subset List.mem_cons_self
            rcases List.mem_append.1 ha with ha | ha
            · rw [if_pos (List.any_eq_true.2 ⟨a, ha, by simpa using hva⟩)] at hlt
              omega
            · rw [List.mem_singleton] at ha; subst ha; exact hva
        rcases List.sublist_append_iff.1 h3 with ⟨l1, l2, e, h1, h2⟩
        match l1, l2, e with
        | [], [x, y], e => exact absurd h2.length_le (by simp)
        | [x], [y], e =>
          simp only [List.cons_append, List.nil_append, List.cons.injEq, and_true] at e
          obtain ⟨rfl, rfl⟩ := e
          have := List.mem_singleton.1 (h2.subset (List.mem_singleton.2 rfl))
          subst this; exact ht
        | [x, y], [], e =>
          simp only [List.append_nil, List.cons.injEq, and_true] at e
          obtain ⟨rfl, rfl⟩ := e
          refine h.con a b t ?_ v hva ht
          exact h1.append (List.Sublist.refl [t])
/-- Where a row goes on with it, it may come next. -/
theorem FulI.ok {N : Nat} {q r : List Nat} {k : Nat} (h : FulI L (q ++ k :: r)) : OkI L N q k := by
  constructor
  · intro v hv
    rcases nil_or_snoc q with rfl | ⟨q', t, rfl⟩
    · rw [stI_nil]; omega
    · rw [stI_snoc]
      by_cases ht : v ∈ L.getD t []
      · rw [if_pos ht]; omega
      · rw [if_neg ht]
        by_cases e : (q'.any fun k => decide (v ∈ L.getD k [])) = true
        · exfalso
          obtain ⟨a, ha, hva⟩ := List.any_eq_true.1 e
          refine ht (h.con a t k ?_ v (by simpa using hva) hv)
          rw [List.append_assoc]
          exact (List.singleton_sublist.2 ha).append ((List.Sublist.refl [t]).append ((List.nil_sublist r).cons_cons k))
        · rw [if_neg e]; omega
  · intro v hvN h1 hn j hj hjq hvj
    rcases nil_or_snoc q with rfl | ⟨q', t, rfl⟩
    · rw [stI_nil] at h1; omega
    · rw [stI_snoc] at h1
      have ht : v ∈ L.getD t [] := by
        by_cases ht : v ∈ L.getD t []
        · exact ht
        · rw [if_neg ht] at h1; split at h1 <;> omega
      have hjin : j ∈ (q' ++ [t]) ++ k :: r := by
        refine Classical.byContradiction fun hnin => ?_
        have := List.Nodup.length_le_of_subset (l₁ := j :: ((q' ++ [t]) ++ k :: r)) (l₂ := List.range L.length) (List.nodup_cons.2 ⟨hnin, h.nd⟩) fun x hx => by
          rcases List.mem_cons.1 hx with rfl | hx
          · exact List.mem_range.2 hj
          · exact List.mem_range.2 (h.lt x hx)
        rw [List.length_range, List.length_cons, h.len] at this
        omega
      rcases List.mem_append.1 hjin with h2 | h2
      · exact hjq h2
      · rcases List.mem_cons.1 h2 with rfl | h2
        · exact hn hvj
        · refine hn (h.con t k j ?_ v ht hvj)
          rw [List.append_assoc]
          exact (List.nil_sublist q').append ((List.Sublist.refl [t]).append ((List.singleton_sublist.2 h2).cons_cons k))
/-- No row goes on so. -/
def NoI (L : List (List Nat)) (q : List Nat) : Prop := ∀ r, ¬ FulI L (q ++ r)
theorem NoI.all {q : List Nat} (hl : q.length ≠ L.length) (h : ∀ k, k < L.length → k ∉ q → NoI L (q ++ [k])) : NoI L q := fun r hr => by
  match r with
  | [] => rw [List.append_nil] at hr; exact hl hr.len
  | k :: r =>
    have hk := hr.lt k (by simp)
    have hnq : k ∉ q := fun hq => by
      have := (List.nodup_append.1 hr.nd).2.2 k hq k List.mem_cons_self
      exact this rfl
    exact h k hk hnq r (by rw [List.append_assoc]; exact hr)
theorem NoI.bad {N : Nat} {q : List Nat} {k : Nat} (h : ¬ OkI L N q k) : NoI L (q ++ [k]) := fun r hr => by
  rw [List.append_assoc] at hr
  exact h hr.ok
end
end Go.Proofs.Ytnhhohhhpaejmaa
namespace Go.Proofs.Ytnhhohhhpaejmaa
open Go Go.RowKit

section
variable {N : Nat} {G : Nat → Nat → Bool} {L : List (List Nat)}
/-- Is a node in a clique of a row? -/
def anyI (L : List (List Nat)) (q : List Nat) (v : Nat) : Bool := q.any fun k => decide (v ∈ L.getD k [])
theorem anyI_nil (v : Nat) : anyI L [] v = false := rfl
theorem anyI_snoc (q : List Nat) (k v : Nat) : anyI L (q ++ [k]) v = (anyI L q v || decide (v ∈ L.getD k [])) := by
  unfold anyI; rw [List.any_append, List.any_cons, List.any_nil, Bool.or_false]
/-- Where a node's first stands, from behind. -/
def fsR (L : List (List Nat)) : List Nat → Nat → Nat
  | [], _ => 0
  | k :: t, v => if anyI L t.reverse v = true then fsR L t v else if v ∈ L.getD k [] then t.length else 0
/-- Where a node's last stands, from behind. -/
def lsR (L : List (List Nat)) : List Nat → Nat → Nat
  | [], _ => 0
  | k :: t, v => if v ∈ L.getD k [] then t.length else lsR L t v
def fsI (L : List (List Nat)) (q : List Nat) (v : Nat) : Nat := fsR L q.reverse v
def lsI (L : List (List Nat)) (q : List Nat) (v : Nat) : Nat := lsR L q.reverse v
theorem fsI_snoc (q : List Nat) (k v : Nat) : fsI L (q ++ [k]) v = if anyI L q v = true then fsI L q v else if v ∈ L.getD k [] then q.length else 0 := by
  unfold fsI; rw [List.reverse_concat, fsR, List.reverse_reverse, List.length_reverse]
theorem lsI_snoc (q : List Nat) (k v : Nat) : lsI L (q ++ [k]) v = if v ∈ L.getD k [] then q.length else lsI L q v := by
  unfold lsI; rw [List.reverse_concat, lsR, List.length_reverse]
theorem snocI_ind {P : List Nat → Prop} (h0 : P []) (hs : ∀ q k, P q → P (q ++ [k])) (q : List Nat) : P q := by
  have key : ∀ t : List Nat, P t.reverse := by
    intro t
    induction t with
    | nil => exact h0
    | cons k t ih => rw [List.reverse_cons]; exact hs _ _ ih
  have := key q.reverse
  rwa [List.reverse_reverse] at this
theorem getD_l {q : List Nat} {k i : Nat} (h : i < q.length) : (q ++ [k]).getD i 0 = q.getD i 0 := by simp [List.getD, List.getElem?_append_left h]
theorem getD_e {q : List Nat} {k : Nat} : (q ++ [k]).getD q.length 0 = k := by simp [List.getD]
/-- A node is in the clique at a place. -/
def inI (L : List (List Nat)) (q : List Nat) (v i : Nat) : Prop := i < q.length ∧ v ∈ L.getD (q.getD i 0) []
theorem fsI_is (v : Nat) (q : List Nat) : anyI L q v = true → inI L q v (fsI L q v) ∧ ∀ i, inI L q v i → fsI L q v ≤ i := by
  induction q using snocI_ind with
  | h0 => intro h; cases h
  | hs q k ih =>
    intro h
    rw [fsI_snoc]
    by_cases e : anyI L q v = true
    · rw [if_pos e]
      obtain ⟨h1, h2⟩ := ih e
      refine ⟨⟨by rw [List.length_append]; have := h1.1; omega, by rw [getD_l h1.1]; exact h1.2⟩, fun i hi => ?_⟩
      by_cases hl : i < q.length
      · exact h2 i ⟨hl, by have := hi.2; rwa [getD_l hl] at this⟩
      · have := h1.1; omega
    · rw [if_neg e]
      have hk : v ∈ L.getD k [] := by
        rw [anyI_snoc] at h
        rw [Bool.not_eq_true] at e
        rw [e] at h
        simpa using h
      rw [if_pos hk]
      refine ⟨⟨by simp, by rw [getD_e]; exact hk⟩, fun i hi => ?_⟩
      by_cases hl : i < q.length
      · exfalso
        refine e (List.any_eq_true.2 ⟨q.getD i 0, ?_, ?_⟩)
        · rw [List.getD, List.getElem?_eq_getElem hl]; exact List.getElem_mem _
        · have := hi.2; rw [getD_l hl] at this; simpa using this
      · omega
theorem lsI_is (v : Nat) (q : List Nat) : anyI L q v = true → inI L q v (lsI L q v) ∧ ∀ i, inI L q v i → i ≤ lsI L q v := by
  induction q using snocI_ind with
  | h0 => intro h; cases h
  | hs q k ih =>
    intro h
    rw [lsI_snoc]
    by_cases hk : v ∈ L.getD k []
    · rw [if_pos hk]
      refine ⟨⟨by simp, by rw [getD_e]; exact hk⟩, fun i hi => ?_⟩
      have := hi.1
      rw [List.length_append, List.length_singleton] at this
      omega
    · rw [if_neg hk]
      have e : anyI L q v = true := by
        rw [anyI_snoc, decide_eq_false hk, Bool.or_false] at h
        exact h
      obtain ⟨h1, h2⟩ := ih e
      refine ⟨⟨by rw [List.length_append]; have := h1.1; omega, by rw [getD_l h1.1]; exact h1.2⟩, fun i hi => ?_⟩
      by_cases hl : i < q.length
      · exact h2 i ⟨hl, by have := hi.2; rwa [getD_l hl] at this⟩
      · have h3 := hi.1
        rw [List.length_append, List.length_singleton] at h3
        obtain rfl : i = q.length := by omega
        have h4 := hi.2
        rw [getD_e] at h4
        exact absurd h4 hk

theorem sub3_of {p : List Nat} {i j k : Nat} (hij : i < j) (hjk : j < k) (hk : k < p.length) : [p.getD i 0, p.getD j 0, p.getD k 0].Sublist p := by
  have e1 : p = p.take j ++ p.drop j := (List.take_append_drop j p).symm
  have h1 : [p.getD i 0].Sublist (p.take j) := List.singleton_sublist.2 (by
    rw [List.getD, List.getElem?_eq_getElem (by omega), Option.getD_some, List.mem_take_iff_getElem]
    exact ⟨i, by omega, rfl⟩)
  have h2 : [p.getD j 0, p.getD k 0].Sublist (p.drop j) := by
    rw [List.drop_eq_getElem_cons (show j < p.length by omega)]
    rw [List.getD, List.getElem?_eq_getElem (show j < p.length by omega), Option.getD_some]
    refine List.Sublist.cons_cons _ (List.singleton_sublist.2 ?_)
    rw [List.getD, List.getElem?_eq_getElem hk, Option.getD_some, List.mem_iff_getElem]
    exact ⟨k - (j + 1), by rw [List.length_drop]; omega, by rw [List.getElem_drop]; congr 1; omega⟩
  have h3 := h1.append h2
  rwa [← e1] at h3
theorem FulI.mid {p : List Nat} (h : FulI L p) {v i j k : Nat} (hi : inI L p v i) (hk : inI L p v k) (hij : i ≤ j) (hjk : j ≤ k) : inI L p v j := by
  rcases Nat.lt_or_ge i j with h1 | h1
  · rcases Nat.lt_or_ge j k with h2 | h2
    · have := hk.1
      exact ⟨by omega, h.con _ _ _ (sub3_of h1 h2 hk.1) v hi.2 hk.2⟩
    · obtain rfl : j = k := by omega
      exact hk
  · obtain rfl : i = j := by omega
    exact hi
theorem FulI.all {p : List Nat} (h : FulI L p) {k : Nat} (hk : k < L.length) : k ∈ p := by
  refine Classical.byContradiction fun hn => ?_
  have := List.Nodup.length_le_of_subset (l₁ := k :: p) (l₂ := List.range L.length) (List.nodup_cons.2 ⟨hn, h.nd⟩) fun x hx => by
    rcases List.mem_cons.1 hx with rfl | hx
    · exact List.mem_range.2 hk
    · exact List.mem_range.2 (h.lt x hx)
  rw [List.length_range, List.length_cons, h.len] at this
  omega
theorem FulI.at' {p : List Nat} (h : FulI L p) {K : List Nat} (hK : K ∈ L) : ∃ i, i < p.length ∧ L.getD (p.getD i 0) [] = K := by
  obtain ⟨k, hk, rfl⟩ := List.mem_iff_getElem.1 hK
  obtain ⟨i, hi, e⟩ := List.mem_iff_getElem.1 (h.all hk)
  refine ⟨i, hi, ?_⟩
  have e2 : p.getD i 0 = k := by rw [List.getD, List.getElem?_eq_getElem hi, Option.getD_some]; exact e
  rw [e2, List.getD, List.getElem?_eq_getElem hk]; rfl

theorem mx_two (hsym : ∀ a b, a < N → b < N → G a b = G b a) {u v : Nat} (hu : u < N) (hv : v < N) (hg : u = v ∨ G u v = true) : ∃ K, IsMx N G (fun _ => true) K ∧ K u = true ∧ K v = true := by
  obtain ⟨K, ⟨h1, h2, h3, h4⟩, hm⟩ := max_exI (P := fun K : Nat → Bool => (∀ q, K q = true → q < N) ∧ (∀ a b, K a = true → K b = true → a ≠ b → G a b = true) ∧ K u = true ∧ K v = true) (f := fun K => cnt K N) N (fun _ _ => cnt_le _ _)
    ⟨fun q => decide (q = u ∨ q = v), fun q hq => by
      have : q = u ∨ q = v := by simpa using hq
      rcases this with rfl | rfl
      · exact hu
      · exact hv, fun a b ha hb hne => by
      have e1 : a = u ∨ a = v := by simpa using ha
      have e2 : b = u ∨ b = v := by simpa using hb
      rcases e1 with rfl | rfl <;> rcases e2 with rfl | rfl
      · exact absurd rfl hne
      · rcases hg with e | e
        · exact absurd e hne
        · exact e
      · rcases hg with e | e
        · exact absurd e.symm hne
        · rw [hsym _ _ hv hu]; exact e
      · exact absurd rfl hne, by simp, by simp⟩
  refine ⟨K, ⟨fun q hq => ⟨h1 q hq, rfl⟩, h2, fun z hz _ hall => Classical.byContradiction fun hn => ?_⟩, h3, h4⟩
  have hn' : K z = false := by simpa using hn
  have h5 := hm (fun q => K q || decide (q = z)) ⟨fun q hq => by
    simp only [Bool.or_eq_true, decide_eq_true_eq] at hq
    rcases hq with hq | rfl
    · exact h1 q hq
    · exact hz, fun a b ha hb hne => by
    simp only [Bool.or_eq_true, decide_eq_true_eq] at ha hb
    rcases ha with ha | rfl <;> rcases hb with hb | rfl
    · exact h2 a b ha hb hne
    · rw [hsym _ _ (h1 a ha) hz]; exact hall a ha hne
    · exact hall b hb (fun e => hne e.symm)
    · exact absurd rfl hne, by simp [h3], by simp [h4]⟩
  have h6 := cnt_more (I := K) (J := fun q => K q || decide (q = z)) (x := z) (n := N) (fun k _ hk => by simp [hk]) hz hn' (by simp)
  omega
theorem FulI.two (hsym : ∀ a b, a < N → b < N → G a b = G b a) (hiff : ∀ K, K ∈ L ↔ MaxCl N G K ∧ K ≠ []) {p : List Nat} (h : FulI L p) {u v : Nat} (hu : u < N) (hv : v < N) (hg : u = v ∨ G u v = true) : ∃ i, inI L p u i ∧ inI L p v i := by
  obtain ⟨K, hK, k1, k2⟩ := mx_two hsym hu hv hg
  have hm := mx_list hsym hK
  have hin : u ∈ memsI N K := mem_memsI.2 ⟨hu, k1⟩
  obtain ⟨i, hi, e⟩ := h.at' ((hiff _).2 ⟨hm, List.ne_nil_of_mem hin⟩)
  exact ⟨i, ⟨hi, by rw [e]; exact hin⟩, ⟨hi, by rw [e]; exact mem_memsI.2 ⟨hv, k2⟩⟩⟩
theorem inI_any {p : List Nat} {v i : Nat} (h : inI L p v i) : anyI L p v = true := List.any_eq_true.2 ⟨p.getD i 0, by
  rw [List.getD, List.getElem?_eq_getElem h.1]; exact List.getElem_mem _, by simpa using h.2⟩
/-- The intervals meet just where there are edges. -/
theorem FulI.meet (hsym : ∀ a b, a < N → b < N → G a b = G b a) (hiff : ∀ K, K ∈ L ↔ MaxCl N G K ∧ K ≠ []) {p : List Nat} (h : FulI L p) {u v : Nat} (hu : u < N) (hv : v < N) :
    fsI L p v ≤ lsI L p v ∧ (u ≠ v → ((fsI L p u ≤ lsI L p v ∧ fsI L p v ≤ lsI L p u) ↔ G u v = true)) := by
  obtain ⟨iu, hiu, -⟩ := h.two hsym hiff hu hu (.inl rfl)
  obtain ⟨iv, hiv, -⟩ := h.two hsym hiff hv hv (.inl rfl)
  obtain ⟨fu1, fu2⟩ := fsI_is u p (inI_any hiu)
  obtain ⟨fv1, fv2⟩ := fsI_is v p (inI_any hiv)
  obtain ⟨lu1, lu2⟩ := lsI_is u p (inI_any hiu)
  obtain ⟨lv1, lv2⟩ := lsI_is v p (inI_any hiv)
  refine ⟨fv2 _ lv1, fun hne => ⟨fun ⟨h1, h2⟩ => ?_, fun hg => ?_⟩⟩
  · have huv : fsI L p u ≤ lsI L p u := fu2 _ lu1
    have hvv : fsI L p v ≤ lsI L p v := fv2 _ lv1
    have key : ∃ i, inI L p u i ∧ inI L p v i := by
      rcases Nat.le_total (fsI L p u) (fsI L p v) with k | k
      · exact ⟨fsI L p v, h.mid fu1 lu1 k h2, fv1⟩
      · exact ⟨fsI L p u, fu1, h.mid fv1 lv1 k h1⟩
    obtain ⟨i, k1, k2⟩ := key
    have hlt := h.lt (p.getD i 0) (by rw [List.getD, List.getElem?_eq_getElem k1.1]; exact List.getElem_mem _)
    have hK : L.getD (p.getD i 0) [] ∈ L := by rw [List.getD, List.getElem?_eq_getElem hlt]; exact List.getElem_mem _
    exact ((hiff _).1 hK).1.clq u k1.2 v k2.2 hne
  · obtain ⟨i, k1, k2⟩ := h.two hsym hiff hu hv (.inr hg)
    exact ⟨Nat.le_trans (fu2 _ k1) (lv2 _ k2), Nat.le_trans (fv2 _ k2) (lu2 _ k1)⟩
end
end Go.Proofs.Ytnhhohhhpaejmaa
namespace Go.Proofs.Ytnhhohhhpaejmaa
open Go.RowKit

/-- What is given in the induction. -/
structure LbH (N : Nat) (G : Nat → Nat → Bool) (U : Nat → Bool) (w : Nat) : Prop where
  sym : ∀ a b, a < N → b < N → G a b = G b a
  irr : ∀ a, a < N → G a a = false
  wN : w < N
  wU : U w = true
  ch : CHd N G U
  at' : ¬ ATr N G U
  adm : ∀ u v, ¬ (LK N G U v w u ∧ LK N G U u w v)
/-- Those near w that the part of c touches. -/
def PS (N : Nat) (G : Nat → Nat → Bool) (U : Nat → Bool) (w c s : Nat) : Prop := s < N ∧ U s = true ∧ G w s = true ∧ ∃ x, LK N G U w c x ∧ G s x = true
section
variable {N w : Nat} {G : Nat → Nat → Bool} {U : Nat → Bool}
theorem LbH.ne (h : LbH N G U w) {s : Nat} (hs : G w s = true) : s ≠ w := fun e => by rw [e, h.irr w h.wN] at hs; cases hs
theorem LbH.cl (h : LbH N G U w) {c s s' : Nat} (hs : PS N G U w c s) (hs' : PS N G U w c s') (hne : s ≠ s') : G s s' = true := by
  obtain ⟨a1, a2, a3, x, a4, a5⟩ := hs
  obtain ⟨b1, b2, b3, y, b4, b5⟩ := hs'
  exact h.ch.part h.sym ⟨h.wN, h.wU⟩ ⟨a1, a2⟩ ⟨b1, b2⟩ a3 b3 hne (h.ne b3) ((a4.sym h.sym).trans b4) a5 b5
/-- From w by s into the part of c, away from z. -/
theorem LbH.via (h : LbH N G U w) {c s z u : Nat} (hs : PS N G U w c s) (hu : LK N G U w c u) (hz : z < N) (hzw : w ≠ z) (gzw : G z w = false) (hzs : s ≠ z) (gzs : G z s = false) (hzc : ∀ x, LK N G U w c x → x ≠ z ∧ G z x = false) : LK N G U z w u := by
  obtain ⟨a1, a2, a3, x, a4, a5⟩ := hs
  have h1 : LK N G U z w s := (LK.refl h.wN h.wU hzw gzw).step a1 a3 a2 hzs gzs
  have hx := a4.right
  have h2 := h1.step hx.1 a5 hx.2.1 (hzc x a4).1 (hzc x a4).2
  have h3 : LK N G U w x u := (a4.sym h.sym).trans hu
  exact h2.trans (h3.move fun q hq => ⟨hq.right.2.1, hzc q (a4.trans hq)⟩)
theorem LbH.nest (h : LbH N G U w) {c s s' x y : Nat} (hs : PS N G U w c s) (hs' : PS N G U w c s') (hx : LK N G U w c x) (hy : LK N G U w c y) (g1 : G s x = true) (g2 : G s' x = false) (g3 : G s' y = true) (g4 : G s y = false) : False := by
  obtain ⟨a1, a2, a3, -⟩ := id hs
  obtain ⟨b1, b2, b3, -⟩ := id hs'
  have hxr := hx.right
  have hyr := hy.right
  have hss : s ≠ s' := fun e => by rw [e, g2] at g1; cases g1
  have hxy : x ≠ y := fun e => by rw [e, g4] at g1; cases g1
  have hxs' : x ≠ s' := fun e => by rw [← e, hxr.2.2.2] at b3; cases b3
  have hys : y ≠ s := fun e => by rw [← e, hyr.2.2.2] at a3; cases a3
  have hxs : x ≠ s := fun e => by rw [← e, hxr.2.2.2] at a3; cases a3
  have hys' : y ≠ s' := fun e => by rw [← e, hyr.2.2.2] at b3; cases b3
  cases e : G x y
  · have gxw : G x w = false := by rw [h.sym _ _ hxr.1 h.wN]; exact hxr.2.2.2
    have gyw : G y w = false := by rw [h.sym _ _ hyr.1 h.wN]; exact hyr.2.2.2
    have gys : G y s = false := by rw [h.sym _ _ hyr.1 a1]; exact g4
    have gxs' : G x s' = false := by rw [h.sym _ _ hxr.1 b1]; exact g2
    have gyx : G y x = false := by rw [h.sym _ _ hyr.1 hxr.1]; exact e
    exact h.adm x y ⟨((LK.refl h.wN h.wU (fun e => hyr.2.2.1 e.symm) gyw).step a1 a3 a2 (fun e => hys e.symm) gys).step hxr.1 g1 hxr.2.1 hxy gyx,
      ((LK.refl h.wN h.wU (fun e => hxr.2.2.1 e.symm) gxw).step b1 b3 b2 (fun e => hxs' e.symm) gxs').step hyr.1 g3 hyr.2.1 (fun e => hxy e.symm) e⟩
  · exact h.ch.four ⟨a1, a2⟩ ⟨hxr.1, hxr.2.1⟩ ⟨hyr.1, hyr.2.1⟩ ⟨b1, b2⟩ g1 (h.cl hs hs' hss) e (by rw [h.sym _ _ hyr.1 b1]; exact g3) hxs' (by rw [h.sym _ _ hxr.1 b1]; exact g2) g4 hys (fun e => hss e.symm)
/-- One of them that touches least. -/
theorem LbH.least (h : LbH N G U w) {c : Nat} (hne : ∃ s, PS N G U w c s) : ∃ s0, PS N G U w c s0 ∧ ∀ s, PS N G U w c s → ∀ x, LK N G U w c x → G s0 x = true → G s x = true := by
  classical
  obtain ⟨s0, hs0, hm⟩ := max_exI (P := PS N G U w c) (f := fun s => N - cnt (fun x => decide (LK N G U w c x) && G s x) N) N (fun _ _ => Nat.sub_le _ _) hne
  refine ⟨s0, hs0, fun s hs x hx g => Classical.byContradiction fun hn => ?_⟩
  have hn' : G s x = false := by simpa using hn
  have hno : ∀ y, LK N G U w c y → G s y = true → G s0 y = true := fun y hy gy => by
    cases e : G s0 y
    · exact absurd (h.nest hs0 hs hx hy g hn' gy e) id
    · rfl
  have h1 := hm s hs
  have h2 := cnt_more (I := fun x => decide (LK N G U w c x) && G s x) (J := fun x => decide (LK N G U w c x) && G s0 x) (x := x) (n := N) (fun y _ hy => by
    simp only [Bool.and_eq_true, decide_eq_true_eq] at hy ⊢
    exact ⟨hy.1, hno y hy.1 hy.2⟩) hx.right.1 (by simp [hn']) (by simp [hx, g])
  have h3 := cnt_le (fun x => decide (LK N G U w c x) && G s0 x) N
  omega

open Classical in
/-- The part of c and what it touches. -/
noncomputable def partW (N : Nat) (G : Nat → Nat → Bool) (U : Nat → Bool) (w c : Nat) : Nat → Bool := fun q => decide (LK N G U w c q ∨ PS N G U w c q)
theorem partW_iff {c q : Nat} : partW N G U w c q = true ↔ LK N G U w c q ∨ PS N G U w c q := by unfold partW; simp
theorem partW_sub {c q : Nat} (h : partW N G U w c q = true) : U q = true := (partW_iff.1 h).elim (fun k => k.right.2.1) (fun k => k.2.1)
theorem partW_lt {c : Nat} (h : LbH N G U w) : cnt (partW N G U w c) N < cnt U N := by
  refine cnt_more (x := w) (fun k _ hk => partW_sub hk) h.wN ?_ h.wU
  cases e : partW N G U w c w
  · rfl
  · rcases partW_iff.1 e with k | k
    · exact absurd rfl k.right.2.2.1
    · exact absurd rfl (h.ne k.2.2.1)
/-- The induction's word for smaller sets. -/
def IhA (N : Nat) (G : Nat → Nat → Bool) (n : Nat) : Prop := ∀ U w, cnt U N < n → LbH N G U w → ∃ P, CP N G U P ∧ 0 < P.length ∧ (P.getD 0 noS) w = true
theorem mx_all {U K : Nat → Bool} (hK : IsMx N G U K) {s : Nat} (hs : s < N) (hU : U s = true) (h : ∀ a, K a = true → a ≠ s → G s a = true) : K s = true := hK.mx s hs hU h
theorem LbH.path (h : LbH N G U w) (ih : IhA N G (cnt U N)) {c : Nat} (hc : LK N G U w c c) :
    ∃ P, CP N G (partW N G U w c) P ∧ 0 < P.length ∧ (∀ s, PS N G U w c s → (P.getD 0 noS) s = true) ∧ ∃ x, LK N G U w c x ∧ ∀ s, PS N G U w c s → G s x = true := by
  have hmono : ∀ {z a b}, LK N G (partW N G U w c) z a b → LK N G U z a b := fun k => k.mono fun q => partW_sub
  have hat : ¬ ATr N G (partW N G U w c) := fun k => h.at' (k.mono fun q => partW_sub)
  have hch : CHd N G (partW N G U w c) := h.ch.mono fun q => partW_sub
  have hlt := partW_lt (c := c) h
  by_cases hne : ∃ s, PS N G U w c s
  · obtain ⟨s0, hs0, hmin⟩ := h.least hne
    obtain ⟨a1, a2, a3, x, hx, gx⟩ := id hs0
    have hlb : LbH N G (partW N G U w c) s0 := ⟨h.sym, h.irr, a1, partW_iff.2 (.inr hs0), hch, hat, fun u v ⟨h1, h2⟩ => by
      have hin : ∀ z, LK N G (partW N G U w c) z s0 s0 → z < N → partW N G U w c z = true → LK N G U w c z := fun z hz hzN hzW => by
        rcases partW_iff.1 hzW with k | k
        · exact k
        · by_cases e : z = s0
          · exact absurd e.symm hz.left.2.2.1
          · have := h.cl k hs0 e
            rw [hz.left.2.2.2] at this; cases this
      have hv := hin v (LK.refl h1.left.1 h1.left.2.1 h1.left.2.2.1 h1.left.2.2.2) h2.right.1 h2.right.2.1
      have hu := hin u (LK.refl h2.left.1 h2.left.2.1 h2.left.2.2.1 h2.left.2.2.2) h1.right.1 h1.right.2.1
      have go : ∀ z, LK N G U w c z → ∀ t, LK N G (partW N G U w c) z s0 t → LK N G U z w t := fun z hz t ht => by
        have hzr := hz.right
        have h3 := ht.left
        have gzw : G z w = false := by rw [h.sym _ _ hzr.1 h.wN]; exact hzr.2.2.2
        exact ((LK.refl h.wN h.wU (fun e => hzr.2.2.1 e.symm) gzw).step a1 a3 a2 h3.2.2.1 h3.2.2.2).trans (hmono ht)
      exact h.adm u v ⟨go v hv u h1, go u hu v h2⟩⟩
    obtain ⟨P, hP, hl, h0⟩ := ih _ s0 hlt hlb
    refine ⟨P, hP, hl, fun s hs => ?_, x, hx, fun s hs => hmin s hs x hx gx⟩
    have hK := hP.mx _ (getD_inS hl)
    refine hK.mx s hs.1 (partW_iff.2 (.inr hs)) fun a ha hne => ?_
    rcases partW_iff.1 (hK.sub a ha).2 with k | k
    · refine hmin s hs a k ?_
      have hsa : a ≠ s0 := fun e => by rw [e] at k; have := k.right.2.2.2; rw [a3] at this; cases this
      exact hK.cl s0 a h0 ha (fun e => hsa e.symm)
    · exact h.cl hs k (fun e => hne e.symm)
  · have hcW : partW N G U w c c = true := partW_iff.2 (.inl hc)
    obtain ⟨w', hw⟩ := adm_ex h.sym h.irr _ (partW N G U w c) rfl ⟨c, hc.1, hcW⟩ hat
    obtain ⟨P, hP, hl, -⟩ := ih _ w' hlt ⟨h.sym, h.irr, hw.1, hw.2.1, hch, hat, hw.2.2⟩
    exact ⟨P, hP, hl, fun s hs => absurd ⟨s, hs⟩ hne, c, hc, fun s hs => absurd ⟨s, hs⟩ hne⟩
/-- A greatest clique of a part is one of the whole. -/
theorem LbH.up (h : LbH N G U w) {c x : Nat} (hx : LK N G U w c x) (hall : ∀ s, PS N G U w c s → G s x = true) {K : Nat → Bool} (hK : IsMx N G (partW N G U w c) K) : IsMx N G U K ∧ ∃ m, K m = true ∧ LK N G U w c m := by
  have hm : ∃ m, K m = true ∧ LK N G U w c m := Classical.byContradiction fun hn => by
    have hxr := hx.right
    have : K x = true := hK.mx x hxr.1 (partW_iff.2 (.inl hx)) fun a ha hne => by
      rcases partW_iff.1 (hK.sub a ha).2 with k | k
      · exact absurd ⟨a, ha, k⟩ hn
      · rw [h.sym _ _ hxr.1 k.1]; exact hall a k
    exact hn ⟨x, this, hx⟩
  obtain ⟨m, hm1, hm2⟩ := hm
  have hmr := hm2.right
  refine ⟨⟨fun q hq => ⟨(hK.sub q hq).1, partW_sub (hK.sub q hq).2⟩, hK.cl, fun z hz hzU hz2 => ?_⟩, m, hm1, hm2⟩
  by_cases e : z = m
  · rw [e]; exact hm1
  · have g := hz2 m hm1 (fun e' => e e'.symm)
    refine hK.mx z hz (partW_iff.2 ?_) hz2
    by_cases e1 : G w z = true
    · exact .inr ⟨hz, hzU, e1, m, hm2, g⟩
    · have e1' : G w z = false := by simpa using e1
      by_cases e2 : z = w
      · rw [e2, hmr.2.2.2] at g; cases g
      · exact .inl (hm2.step hz (by rw [h.sym _ _ hmr.1 hz]; exact g) hzU e2 e1')
/-- A greatest clique of the whole that meets a part is one of the part. -/
theorem LbH.down (h : LbH N G U w) {c m : Nat} {K : Nat → Bool} (hK : IsMx N G U K) (hm1 : K m = true) (hm2 : LK N G U w c m) : IsMx N G (partW N G U w c) K := by
  have hmr := hm2.right
  refine ⟨fun q hq => ⟨(hK.sub q hq).1, partW_iff.2 ?_⟩, hK.cl, fun z hz hzW hz2 => hK.mx z hz (partW_sub hzW) hz2⟩
  have hqs := hK.sub q hq
  by_cases e : q = m
  · rw [e]; exact .inl hm2
  · have g := hK.cl q m hq hm1 e
    by_cases e1 : G w q = true
    · exact .inr ⟨hqs.1, hqs.2, e1, m, hm2, g⟩
    · have e1' : G w q = false := by simpa using e1
      by_cases e2 : q = w
      · rw [e2, hmr.2.2.2] at g; cases g
      · exact .inl (hm2.step hqs.1 (by rw [h.sym _ _ hmr.1 hqs.1]; exact g) hqs.2 e2 e1')
end
end Go.Proofs.Ytnhhohhhpaejmaa
namespace Go.Proofs.Ytnhhohhhpaejmaa
open Go.RowKit

section
variable {N w : Nat} {G : Nat → Nat → Bool} {U : Nat → Bool}
def nbR (G : Nat → Nat → Bool) (U : Nat → Bool) (w q : Nat) : Bool := U q && G w q
theorem nbR_iff {q : Nat} : nbR G U w q = true ↔ U q = true ∧ G w q = true := by unfold nbR; simp
def addW (w : Nat) (K : Nat → Bool) : Nat → Bool := fun q => K q || decide (q = w)
theorem addW_iff {K : Nat → Bool} {q : Nat} : addW w K q = true ↔ K q = true ∨ q = w := by unfold addW; simp
theorem getD_mapW {P : List (Nat → Bool)} {i : Nat} (h : i < P.length) : (P.map (addW w)).getD i noS = addW w (P.getD i noS) := by
  simp [List.getD, List.getElem?_map, List.getElem?_eq_getElem h]
theorem LbH.first (h : LbH N G U w) (ih : IhA N G (cnt U N)) {c : Nat} (hc : LK N G U w c c) (hne : ∃ s, PS N G U w c s) : ∃ P, CP N G (nbR G U w) P ∧ 0 < P.length ∧ ∀ s, PS N G U w c s → (P.getD 0 noS) s = true := by
  have hRU : ∀ q, nbR G U w q = true → U q = true := fun q hq => (nbR_iff.1 hq).1
  have hlt : cnt (nbR G U w) N < cnt U N := cnt_more (x := w) (fun k _ hk => hRU k hk) h.wN (by unfold nbR; rw [h.irr w h.wN]; simp) h.wU
  obtain ⟨-, -, -, -, x, hx, hxall⟩ := h.path ih hc
  have hxr := hx.right
  obtain ⟨s0, hs0, hm⟩ := max_exI (P := PS N G U w c) (f := fun s => N - cnt (fun q => nbR G U w q && (decide (q = s) || G s q)) N) N (fun _ _ => Nat.sub_le _ _) hne
  have hS0 := id hs0
  obtain ⟨a1, a2, a3, -⟩ := hS0
  have gxw : G x w = false := by rw [h.sym _ _ hxr.1 h.wN]; exact hxr.2.2.2
  have hwx : w ≠ x := fun e => hxr.2.2.1 e.symm
  -- one near w that the part does not touch
  have hfar : ∀ r s, nbR G U w r = true → r < N → PS N G U w c s → r ≠ s → G s r = false → G x r = false ∧ G r x = false ∧ r ≠ x := fun r s hr hrN hs hne hg => by
    have hrR := nbR_iff.1 hr
    have h1 : G r x = false := by
      cases e : G r x
      · rfl
      · have := h.cl hs ⟨hrN, hrR.1, hrR.2, x, hx, e⟩ (fun e' => hne e'.symm)
        rw [hg] at this; cases this
    exact ⟨by rw [h.sym _ _ hxr.1 hrN]; exact h1, h1, fun e => by have h2 := hrR.2; rw [e, hxr.2.2.2] at h2; cases h2⟩
  have hat3 : ∀ u v, u < N → v < N → U u = true → U v = true → G w u = true → G w v = true → G x u = false → G x v = false → u ≠ x → v ≠ x → LK N G U u x v → LK N G U v x u → False := fun u v hu hv uU vU g1 g2 k1 k2 n1 n2 l1 l2 =>
    h.at' ⟨x, u, v, ((LK.refl hu uU n1 k1).step h.wN (by rw [h.sym _ _ hu h.wN]; exact g1) h.wU hwx gxw).step hv g2 vU n2 k2, l1, l2⟩
  have hlb : LbH N G (nbR G U w) s0 := ⟨h.sym, h.irr, a1, nbR_iff.2 ⟨a2, a3⟩, h.ch.mono hRU, fun k => h.at' (k.mono hRU), fun u v ⟨h1, h2⟩ => by
    have u1 := h1.right
    have v1 := h2.right
    have k1 := h1.left
    have k2 := h2.left
    have uR := nbR_iff.1 u1.2.1
    have vR := nbR_iff.1 v1.2.1
    obtain ⟨p1, p2, p3⟩ := hfar u s0 u1.2.1 u1.1 hs0 (fun e => k2.2.2.1 e.symm) (by rw [h.sym _ _ a1 u1.1]; exact k2.2.2.2)
    obtain ⟨q1, q2, q3⟩ := hfar v s0 v1.2.1 v1.1 hs0 (fun e => k1.2.2.1 e.symm) (by rw [h.sym _ _ a1 v1.1]; exact k1.2.2.2)
    have gxs : G x s0 = true := by rw [h.sym _ _ hxr.1 a1]; exact hxall s0 hs0
    exact hat3 u v u1.1 v1.1 uR.1 vR.1 uR.2 vR.2 p1 q1 p3 q3
      (((LK.refl hxr.1 hxr.2.1 (fun e => p3 e.symm) p2).step a1 gxs a2 k2.2.2.1 k2.2.2.2).trans (h2.mono hRU))
      (((LK.refl hxr.1 hxr.2.1 (fun e => q3 e.symm) q2).step a1 gxs a2 k1.2.2.1 k1.2.2.2).trans (h1.mono hRU))⟩
  obtain ⟨P, hP, hl, h0⟩ := ih _ s0 hlt hlb
  refine ⟨P, hP, hl, fun s hs => ?_⟩
  have hK := hP.mx _ (getD_inS hl)
  by_cases hss : s = s0
  · rw [hss]; exact h0
  have gss : G s0 s = true := h.cl hs0 hs (fun e => hss e.symm)
  have gss' : G s s0 = true := h.cl hs hs0 hss
  obtain ⟨b1, b2, b3, -⟩ := id hs
  refine hK.mx s b1 (nbR_iff.2 ⟨b2, b3⟩) fun a ha hne => Classical.byContradiction fun hng => ?_
  have gsa : G s a = false := by simpa using hng
  have haR := hK.sub a ha
  have haU := nbR_iff.1 haR.2
  have has0 : a ≠ s0 := fun e => by rw [e, gss'] at gsa; cases gsa
  have gs0a : G s0 a = true := hK.cl s0 a h0 ha (fun e => has0 e.symm)
  obtain ⟨r, hrN, hrR, hr1, hr2⟩ : ∃ r, r < N ∧ nbR G U w r = true ∧ (r = s ∨ G s r = true) ∧ ¬ (r = s0 ∨ G s0 r = true) := Classical.byContradiction fun hn => by
    have h1 := hm s hs
    have h2 := cnt_more (I := fun q => nbR G U w q && (decide (q = s) || G s q)) (J := fun q => nbR G U w q && (decide (q = s0) || G s0 q)) (x := a) (n := N) (fun q hq hqI => by
      simp only [Bool.and_eq_true, Bool.or_eq_true, decide_eq_true_eq] at hqI ⊢
      exact ⟨hqI.1, Classical.byContradiction fun k => hn ⟨q, hq, hqI.1, hqI.2, k⟩⟩) haR.1 (by simp [gsa, hne]) (by simp [haR.2, gs0a])
    have h3 := cnt_le (fun q => nbR G U w q && (decide (q = s0) || G s0 q)) N
    omega
  have hrU := nbR_iff.1 hrR
  have hrs0 : r ≠ s0 := fun e => hr2 (.inl e)
  have gs0r : G s0 r = false := by
    cases e : G s0 r
    · rfl
    · exact absurd (.inr e) hr2
  have hrs : r ≠ s := fun e => by rw [e, gss] at gs0r; cases gs0r
  have gsr : G s r = true := hr1.resolve_left hrs
  have har : a ≠ r := fun e => by rw [e, gsr] at gsa; cases gsa
  have gar : G a r = false := by
    cases e : G a r
    · rfl
    · exact absurd (h.ch.four ⟨a1, a2⟩ ⟨haR.1, haU.1⟩ ⟨hrN, hrU.1⟩ ⟨b1, b2⟩ gs0a gss e (by rw [h.sym _ _ hrN b1]; exact gsr) hne (by rw [h.sym _ _ haR.1 b1]; exact gsa) gs0r hrs0 hss) id
  obtain ⟨p1, p2, p3⟩ := hfar a s haR.2 haR.1 hs hne gsa
  obtain ⟨q1, q2, q3⟩ := hfar r s0 hrR hrN hs0 hrs0 gs0r
  have gxs : G x s = true := by rw [h.sym _ _ hxr.1 b1]; exact hxall s hs
  have gxs0 : G x s0 = true := by rw [h.sym _ _ hxr.1 a1]; exact hxall s0 hs0
  have gra : G r a = false := by rw [h.sym _ _ hrN haR.1]; exact gar
  exact hat3 a r haR.1 hrN haU.1 hrU.1 haU.2 hrU.2 p1 q1 p3 q3
    (((LK.refl hxr.1 hxr.2.1 (fun e => p3 e.symm) p2).step b1 gxs b2 (fun e => hne e.symm) (by rw [h.sym _ _ haR.1 b1]; exact gsa)).step hrN gsr hrU.1 (fun e => har e.symm) gar)
    (((LK.refl hxr.1 hxr.2.1 (fun e => q3 e.symm) q2).step a1 gxs0 a2 (fun e => hrs0 e.symm) (by rw [h.sym _ _ hrN a1]; exact gs0r)).step haR.1 gs0a haU.1 har gra)
/-- Any row of what is near w. -/
theorem LbH.any (h : LbH N G U w) (ih : IhA N G (cnt U N)) : ∃ P, CP N G (nbR G U w) P ∧ 0 < P.length := by
  have hRU : ∀ q, nbR G U w q = true → U q = true := fun q hq => (nbR_iff.1 hq).1
  have hlt : cnt (nbR G U w) N < cnt U N := cnt_more (x := w) (fun k _ hk => hRU k hk) h.wN (by unfold nbR; rw [h.irr w h.wN]; simp) h.wU
  by_cases hne : ∃ r, r < N ∧ nbR G U w r = true
  · obtain ⟨w', hw⟩ := adm_ex h.sym h.irr _ (nbR G U w) rfl hne (fun k => h.at' (k.mono hRU))
    obtain ⟨P, hP, hl, -⟩ := ih _ w' hlt ⟨h.sym, h.irr, hw.1, hw.2.1, h.ch.mono hRU, fun k => h.at' (k.mono hRU), hw.2.2⟩
    exact ⟨P, hP, hl⟩
  · refine ⟨[noS], ⟨fun K hK => ?_, fun K hK => ?_, fun i j k h1 h2 h3 => by simp at h3; omega⟩, by simp⟩
    · rw [List.mem_singleton] at hK
      subst hK
      exact ⟨fun q hq => (by cases hq), fun a b ha => (by cases ha), fun z hz hzR => absurd ⟨z, hz, hzR⟩ hne⟩
    · rw [List.mem_singleton]
      funext q
      cases e : K q
      · rfl
      · exact absurd ⟨q, hK.sub q e⟩ hne
/-- All greatest cliques that hold w, in a row that ends with one that holds T. -/
structure NbP (N : Nat) (G : Nat → Nat → Bool) (U : Nat → Bool) (w : Nat) (T : Nat → Prop) (P : List (Nat → Bool)) : Prop where
  mx : ∀ K ∈ P, IsMx N G U K ∧ K w = true
  cov : ∀ K, IsMx N G U K → K w = true → K ∈ P
  con : ConS P
  len : 0 < P.length
  last : ∀ s, T s → (P.getD (P.length - 1) noS) s = true
theorem LbH.near (h : LbH N G U w) {T : Nat → Prop} {PR : List (Nat → Bool)} (hP : CP N G (nbR G U w) PR) (hl : 0 < PR.length) (hT : ∀ s, T s → (PR.getD 0 noS) s = true) : NbP N G U w T (PR.map (addW w)).reverse := by
  have hcon : ConS (PR.map (addW w)) := by
    intro i j k hij hjk hk v h1 h3
    rw [List.length_map] at hk
    rw [getD_mapW (by omega)] at h1 h3 ⊢
    rw [addW_iff] at h1 h3 ⊢
    by_cases e : v = w
    · exact .inr e
    · exact .inl (hP.con i j k hij hjk hk v (h1.resolve_right e) (h3.resolve_right e))
  refine ⟨fun K hK => ?_, fun K hK hw => ?_, hcon.rev, by simpa using hl, fun s hs => ?_⟩
  · obtain ⟨L, hL, rfl⟩ := List.mem_map.1 (List.mem_reverse.1 hK)
    have hm := hP.mx L hL
    refine ⟨⟨fun q hq => ?_, fun a b ha hb hne => ?_, fun z hz hzU hall => ?_⟩, addW_iff.2 (.inr rfl)⟩
    · rcases addW_iff.1 hq with k | k
      · exact ⟨(hm.sub q k).1, (nbR_iff.1 (hm.sub q k).2).1⟩
      · rw [k]; exact ⟨h.wN, h.wU⟩
    · rcases addW_iff.1 ha with k | k <;> rcases addW_iff.1 hb with k' | k'
      · exact hm.cl a b k k' hne
      · rw [k', h.sym _ _ (hm.sub a k).1 h.wN]; exact (nbR_iff.1 (hm.sub a k).2).2
      · rw [k]; exact (nbR_iff.1 (hm.sub b k').2).2
      · exact absurd (k.trans k'.symm) hne
    · by_cases e : z = w
      · exact addW_iff.2 (.inr e)
      · refine addW_iff.2 (.inl (hm.mx z hz (nbR_iff.2 ⟨hzU, ?_⟩) fun a ha hne => hall a (addW_iff.2 (.inl ha)) hne))
        rw [h.sym _ _ h.wN hz]
        exact hall w (addW_iff.2 (.inr rfl)) (fun e' => e e'.symm)
  · rw [List.mem_reverse, List.mem_map]
    refine ⟨fun q => K q && !decide (q = w), hP.cov _ ⟨fun q hq => ?_, fun a b ha hb hne => ?_, fun z hz hzR hall => ?_⟩, ?_⟩
    · simp only [Bool.and_eq_true, Bool.not_eq_true', decide_eq_false_iff_not] at hq
      exact ⟨(hK.sub q hq.1).1, nbR_iff.2 ⟨(hK.sub q hq.1).2, hK.cl w q hw hq.1 (fun e => hq.2 e.symm)⟩⟩
    · simp only [Bool.and_eq_true, Bool.not_eq_true', decide_eq_false_iff_not] at ha hb
      exact hK.cl a b ha.1 hb.1 hne
    · have hzR' := nbR_iff.1 hzR
      have hzw := h.ne hzR'.2
      simp only [Bool.and_eq_true, Bool.not_eq_true', decide_eq_false_iff_not]
      refine ⟨hK.mx z hz hzR'.1 fun a ha hne => ?_, hzw⟩
      by_cases e : a = w
      · rw [e, h.sym _ _ hz h.wN]; exact hzR'.2
      · exact hall a (by simp [ha, e]) hne
    · funext q
      by_cases e : q = w
      · subst e; simp [addW, hw]
      · simp [addW, e]
  · rw [List.length_reverse]
    have hlm : (PR.map (addW w)).length = PR.length := List.length_map _
    have e : (PR.map (addW w)).reverse.getD ((PR.map (addW w)).length - 1) noS = addW w (PR.getD 0 noS) := by
      rw [List.getD, List.getElem?_reverse (by omega), hlm, show PR.length - 1 - (PR.length - 1) = 0 by omega]
      exact getD_mapW hl
    rw [e]
    exact addW_iff.2 (.inl (hT s hs))
end
end Go.Proofs.Ytnhhohhhpaejmaa
namespace Go.Proofs.Ytnhhohhhpaejmaa
open Go.RowKit

section
variable {N w : Nat} {G : Nat → Nat → Bool} {U : Nat → Bool}
/-- Two parts away from w do not touch. -/
theorem LbH.apart (h : LbH N G U w) {c d x y : Nat} (hx : LK N G U w c x) (hy : LK N G U w d y) (hcd : ¬ LK N G U w c d) : x ≠ y ∧ G x y = false ∧ G y x = false := by
  have hne : x ≠ y := fun e => hcd (hx.trans (e ▸ hy.sym h.sym))
  have hg : G x y = false := by
    cases e : G x y
    · rfl
    · have hyr := hy.right
      exact absurd ((hx.step hyr.1 e hyr.2.1 hyr.2.2.1 hyr.2.2.2).trans (hy.sym h.sym)) hcd
  exact ⟨hne, hg, by rw [h.sym _ _ hy.right.1 hx.right.1]; exact hg⟩
theorem LbH.viaC (h : LbH N G U w) {c d s u z : Nat} (hs : PS N G U w c s) (hu : LK N G U w c u) (hz : LK N G U w d z) (hcd : ¬ LK N G U w c d) (g : G s z = false) : LK N G U z w u := by
  have hzr := hz.right
  have hsz : s ≠ z := fun e => by have := hs.2.2.1; rw [e, hzr.2.2.2] at this; cases this
  exact h.via hs hu hzr.1 (fun e => hzr.2.2.1 e.symm) (by rw [h.sym _ _ hzr.1 h.wN]; exact hzr.2.2.2) hsz (by rw [h.sym _ _ hzr.1 hs.1]; exact g) fun x hx => ⟨(h.apart hx hz hcd).1, (h.apart hx hz hcd).2.2⟩
theorem LbH.ncomm (h : LbH N G U w) {c d : Nat} (hcd : ¬ LK N G U w c d) : ¬ LK N G U w d c := fun k => hcd (k.sym h.sym)
/-- Two parts: each of which has a node that one near w, that the other part touches, is not near. -/
theorem LbH.cross (h : LbH N G U w) {c d s s' u v : Nat} (hcd : ¬ LK N G U w c d) (hu : LK N G U w c u) (hv : LK N G U w d v) (hs : PS N G U w d s) (gs : G s u = false) (hs' : PS N G U w c s') (gs' : G s' v = false) : False :=
  h.adm u v ⟨h.viaC hs' hu hv hcd gs', h.viaC hs hv hu (h.ncomm hcd) gs⟩
theorem ps_not {c s v : Nat} (hs : s < N ∧ U s = true ∧ G w s = true) (hv : LK N G U w c v) (hn : ¬ PS N G U w c s) : G s v = false := by
  cases e : G s v
  · rfl
  · exact absurd ⟨hs.1, hs.2.1, hs.2.2, v, hv, e⟩ hn
open Classical in
/-- The last part: others touch what it touches, and are near all of that. -/
theorem LbH.lastc (h : LbH N G U w) (hne : ∃ c, LK N G U w c c) : ∃ d, LK N G U w d d ∧ ∀ c, LK N G U w c c → ¬ LK N G U w c d → (∀ s, PS N G U w d s → PS N G U w c s) ∧ ∀ s, PS N G U w d s → ∀ u, LK N G U w c u → G s u = true := by
  let I : Nat → Prop := fun c => ∃ s u, PS N G U w c s ∧ LK N G U w c u ∧ G s u = false
  let f : Nat → Nat := fun c => (N - cnt (fun s => decide (PS N G U w c s)) N) * 2 + (if I c then 1 else 0)
  obtain ⟨d, hd, hm⟩ := max_exI (P := fun c => LK N G U w c c) (f := f) (2 * N + 1) (fun c _ => by
    have : (if I c then 1 else 0) ≤ 1 := by split <;> omega
    show (N - _) * 2 + (if I c then 1 else 0) ≤ _
    omega) hne
  refine ⟨d, hd, fun c hc hcd => ?_⟩
  have hfc : f c ≤ f d := hm c hc
  have hci : (if I c then 1 else 0) ≤ 1 := by split <;> omega
  have hdi : (if I d then 1 else 0) ≤ 1 := by split <;> omega
  have hcl := cnt_le (fun s => decide (PS N G U w c s)) N
  have hdl := cnt_le (fun s => decide (PS N G U w d s)) N
  have hfc' : (N - cnt (fun s => decide (PS N G U w c s)) N) * 2 + (if I c then 1 else 0) ≤ (N - cnt (fun s => decide (PS N G U w d s)) N) * 2 + (if I d then 1 else 0) := hfc
  have hsub : ∀ s, PS N G U w d s → PS N G U w c s := fun s hs => Classical.byContradiction fun hn => by
    have h1 : ∀ s', PS N G U w c s' → PS N G U w d s' := fun s' hs' => Classical.byContradiction fun hn' =>
      h.cross hcd hc hd hs (ps_not ⟨hs.1, hs.2.1, hs.2.2.1⟩ hc hn) hs' (ps_not ⟨hs'.1, hs'.2.1, hs'.2.2.1⟩ hd hn')
    have h2 := cnt_more (I := fun s => decide (PS N G U w c s)) (J := fun s => decide (PS N G U w d s)) (x := s) (n := N) (fun k _ hk => decide_eq_true (h1 k (of_decide_eq_true hk))) hs.1 (decide_eq_false hn) (decide_eq_true hs)
    omega
  refine ⟨hsub, fun s hs u hu => Classical.byContradiction fun hng => ?_⟩
  have gsu : G s u = false := by simpa using hng
  by_cases hex : ∃ s', PS N G U w c s' ∧ ¬ PS N G U w d s'
  · obtain ⟨s', k1, k2⟩ := hex
    exact h.cross hcd hu hd hs gsu k1 (ps_not ⟨k1.1, k1.2.1, k1.2.2.1⟩ hd k2)
  · have heq : cnt (fun s => decide (PS N G U w c s)) N ≤ cnt (fun s => decide (PS N G U w d s)) N := cnt_mono fun k _ hk => decide_eq_true (Classical.byContradiction fun hn => hex ⟨k, of_decide_eq_true hk, hn⟩)
    have heq2 : cnt (fun s => decide (PS N G U w d s)) N ≤ cnt (fun s => decide (PS N G U w c s)) N := cnt_mono fun k _ hk => decide_eq_true (hsub k (of_decide_eq_true hk))
    have hIc : I c := ⟨s, u, hsub s hs, hu, gsu⟩
    rw [if_pos hIc] at hfc'
    have hId : I d := Classical.byContradiction fun hn => by rw [if_neg hn] at hfc'; omega
    obtain ⟨s', v, k1, k2, k3⟩ := hId
    exact h.cross hcd hu k2 hs gsu (hsub s' k1) k3

open Classical in
noncomputable def restU (N : Nat) (G : Nat → Nat → Bool) (U : Nat → Bool) (w d : Nat) : Nat → Bool := fun q => U q && !decide (LK N G U w d q)
theorem restU_iff {d q : Nat} : restU N G U w d q = true ↔ U q = true ∧ ¬ LK N G U w d q := by unfold restU; simp
theorem rowCliques : ∀ (n : Nat) (U : Nat → Bool) (w : Nat), cnt U N = n → LbH N G U w → ∃ P, CP N G U P ∧ 0 < P.length ∧ (P.getD 0 noS) w = true := by
  intro n
  induction n using Nat.strongRecOn with
  | ind n ih0 =>
    intro U w hn h
    have ih : IhA N G (cnt U N) := fun U' w' hlt hl => ih0 _ (by rw [← hn]; exact hlt) U' w' rfl hl
    by_cases hne : ∃ c, LK N G U w c c
    · obtain ⟨d, hd, hlast⟩ := h.lastc hne
      obtain ⟨Q, hQ, hQl, hQ0, x, hx, hxall⟩ := h.path ih hd
      have hup := fun K hK => h.up hx hxall (hQ.mx K hK)
      by_cases hoth : ∃ c, LK N G U w c c ∧ ¬ LK N G U w c d
      · -- other parts: by induction without this one
        obtain ⟨c1, hc1, hc1d⟩ := hoth
        have hsub : ∀ q, restU N G U w d q = true → U q = true := fun q hq => (restU_iff.1 hq).1
        have hwd : ¬ LK N G U w d w := fun k => k.right.2.2.1 rfl
        have hlt : cnt (restU N G U w d) N < cnt U N := cnt_more (x := d) (fun k _ hk => hsub k hk) hd.1 (by
          cases e : restU N G U w d d
          · rfl
          · exact absurd hd (restU_iff.1 e).2) hd.left.2.1
        have hl' : LbH N G (restU N G U w d) w := ⟨h.sym, h.irr, h.wN, restU_iff.2 ⟨h.wU, hwd⟩, h.ch.mono hsub, fun k => h.at' (k.mono hsub), fun u v ⟨k1, k2⟩ => h.adm u v ⟨k1.mono hsub, k2.mono hsub⟩⟩
        obtain ⟨P, hP, hPl, hP0⟩ := ih _ w hlt hl'
        -- what is near the part, and outside of it
        have htouch : ∀ q m, q < N → U q = true → ¬ LK N G U w d q → LK N G U w d m → G q m = true → PS N G U w d q := fun q m hq hU hn' hm hg => by
          have hmr := hm.right
          by_cases e1 : G w q = true
          · exact ⟨hq, hU, e1, m, hm, hg⟩
          · have e1' : G w q = false := by simpa using e1
            by_cases e2 : q = w
            · rw [e2, hmr.2.2.2] at hg; cases hg
            · exact absurd (hm.step hq (by rw [h.sym _ _ hmr.1 hq]; exact hg) hU e2 e1') hn'
        have hPup : ∀ K ∈ P, IsMx N G U K := fun K hK => by
          have hm := hP.mx K hK
          refine ⟨fun q hq => ⟨(hm.sub q hq).1, hsub q (hm.sub q hq).2⟩, hm.cl, fun z hz hzU hall => ?_⟩
          by_cases hzd : LK N G U w d z
          · exfalso
            have hKS : ∀ a, K a = true → G w a = true := fun a ha => by
              have haR := restU_iff.1 (hm.sub a ha).2
              have hne' : a ≠ z := fun e => haR.2 (e ▸ hzd)
              have g := hall a ha hne'
              exact (htouch a z (hm.sub a ha).1 haR.1 haR.2 hzd (by rw [h.sym _ _ (hm.sub a ha).1 hz]; exact g)).2.2.1
            have hKw : K w = true := hm.mx w h.wN (restU_iff.2 ⟨h.wU, hwd⟩) fun a ha _ => hKS a ha
            have := hall w hKw (fun e => hwd (e ▸ hzd))
            have hzr := hzd.right
            rw [h.sym _ _ hz h.wN, hzr.2.2.2] at this; cases this
          · exact hm.mx z hz (restU_iff.2 ⟨hzU, hzd⟩) hall
        -- the last one of P does not hold w
        have hc1r := hc1.right
        have hc1R : restU N G U w d c1 = true := restU_iff.2 ⟨hc1r.2.1, fun k => hc1d (k.sym h.sym)⟩
        obtain ⟨K1, hK1, hK1c⟩ := mx_ex (U := restU N G U w d) h.sym hc1r.1 hc1R
        have hK1w : K1 w ≠ true := fun k => by
          have := hK1.cl w c1 k hK1c (fun e => hc1r.2.2.1 e.symm)
          rw [hc1r.2.2.2] at this; cases this
        obtain ⟨i1, hi1, ei1⟩ := List.getElem_of_mem (hP.cov K1 hK1)
        have ei1' : P.getD i1 noS = K1 := by rw [List.getD, List.getElem?_eq_getElem hi1]; exact ei1
        have hLw : (P.getD (P.length - 1) noS) w ≠ true := fun k => by
          by_cases e : i1 = P.length - 1
          · rw [← e, ei1'] at k; exact hK1w k
          · by_cases e0 : i1 = 0
            · rw [e0] at ei1'; rw [ei1'] at hP0; exact hK1w hP0
            · have := hP.con 0 i1 (P.length - 1) (by omega) (by omega) (by omega) w hP0 k
              rw [ei1'] at this; exact hK1w this
        have hLm := hP.mx _ (getD_inS (show P.length - 1 < P.length by omega))
        have hLS : ∀ s, PS N G U w d s → (P.getD (P.length - 1) noS) s = true := fun s hs => by
          have hsd : ¬ LK N G U w d s := fun k => by have := k.right.2.2.2; rw [hs.2.2.1] at this; cases this
          obtain ⟨m, hm1, hm2⟩ : ∃ m, (P.getD (P.length - 1) noS) m = true ∧ ¬ (m = w ∨ G w m = true) := Classical.byContradiction fun hn' => hLw (hLm.mx w h.wN (restU_iff.2 ⟨h.wU, hwd⟩) fun a ha hne' => by
            rcases Classical.byContradiction (fun k => hn' ⟨a, ha, k⟩) with k | k
            · exact absurd k hne'
            · exact k)
          have hmR := restU_iff.1 (hLm.sub m hm1).2
          have hmN := (hLm.sub m hm1).1
          have gwm : G w m = false := by
            cases e : G w m
            · rfl
            · exact absurd (.inr e) hm2
          have hmm : LK N G U w m m := LK.refl hmN hmR.1 (fun e => hm2 (.inl e)) gwm
          have hmd : ¬ LK N G U w m d := fun k => hmR.2 (k.sym h.sym)
          obtain ⟨hsubm, hcompm⟩ := hlast m hmm hmd
          refine hLm.mx s hs.1 (restU_iff.2 ⟨hs.2.1, hsd⟩) fun a ha hne' => ?_
          have haR := restU_iff.1 (hLm.sub a ha).2
          have haN := (hLm.sub a ha).1
          by_cases ea : a = m
          · rw [ea]; exact hcompm s hs m hmm
          · have gam := hLm.cl a m ha hm1 ea
            by_cases e1 : G w a = true
            · have haS : PS N G U w m a := ⟨haN, haR.1, e1, m, hmm, gam⟩
              exact h.cl (hsubm s hs) haS (fun e => hne' e.symm)
            · have e1' : G w a = false := by simpa using e1
              by_cases e2 : a = w
              · rw [e2, gwm] at gam; cases gam
              · exact hcompm s hs a (hmm.step haN (by rw [h.sym _ _ hmN haN]; exact gam) haR.1 e2 e1')
        refine ⟨P ++ Q, ⟨fun K hK => ?_, fun K hK => ?_, hP.con.join hQ.con fun v ⟨K, hK, hv⟩ ⟨L, hL, hv'⟩ => ?_⟩, by rw [List.length_append]; omega, by rw [getD_appL hPl]; exact hP0⟩
        · rcases List.mem_append.1 hK with k | k
          · exact hPup K k
          · exact (hup K k).1
        · by_cases hmt : ∃ m, K m = true ∧ LK N G U w d m
          · obtain ⟨m, hm1, hm2⟩ := hmt
            exact List.mem_append_right _ (hQ.cov K (h.down hK hm1 hm2))
          · refine List.mem_append_left _ (hP.cov K ⟨fun q hq => ⟨(hK.sub q hq).1, restU_iff.2 ⟨(hK.sub q hq).2, fun k => hmt ⟨q, hq, k⟩⟩⟩, hK.cl, fun z hz hzR hall => hK.mx z hz (hsub z hzR) hall⟩)
        · have hvR := restU_iff.1 ((hP.mx K hK).sub v hv).2
          have hvS : PS N G U w d v := (partW_iff.1 ((hQ.mx L hL).sub v hv').2).resolve_left hvR.2
          exact ⟨hLS v hvS, hQ0 v hvS⟩
      · -- one part alone
        have hone : ∀ m, LK N G U w m m → LK N G U w d m := fun m hm => Classical.byContradiction fun k => hoth ⟨m, hm, fun k' => k (k'.sym h.sym)⟩
        have hT : ∃ PR, CP N G (nbR G U w) PR ∧ 0 < PR.length ∧ ∀ s, PS N G U w d s → (PR.getD 0 noS) s = true := by
          by_cases hs : ∃ s, PS N G U w d s
          · exact h.first ih hd hs
          · obtain ⟨PR, h1, h2⟩ := h.any ih
            exact ⟨PR, h1, h2, fun s k => absurd ⟨s, k⟩ hs⟩
        obtain ⟨PR, hPR, hPRl, hPR0⟩ := hT
        have hn0 := h.near hPR hPRl hPR0
        generalize (PR.map (addW w)).reverse = P0 at hn0
        refine ⟨P0 ++ Q, ⟨fun K hK => ?_, fun K hK => ?_, hn0.con.join hQ.con fun v ⟨K, hK, hv⟩ ⟨L, hL, hv'⟩ => ?_⟩, by rw [List.length_append]; omega, by rw [getD_appL hn0.len]; exact (hn0.mx _ (getD_inS hn0.len)).2⟩
        · rcases List.mem_append.1 hK with k | k
          · exact (hn0.mx K k).1
          · exact (hup K k).1
        · by_cases hKw : K w = true
          · exact List.mem_append_left _ (hn0.cov K hK hKw)
          · obtain ⟨m, hm1, hm2⟩ : ∃ m, K m = true ∧ ¬ (m = w ∨ G w m = true) := Classical.byContradiction fun hn' => hKw (hK.mx w h.wN h.wU fun a ha hne' => by
              rcases Classical.byContradiction (fun k => hn' ⟨a, ha, k⟩) with k | k
              · exact absurd k hne'
              · exact k)
            have gwm : G w m = false := by
              cases e : G w m
              · rfl
              · exact absurd (.inr e) hm2
            have hms := hK.sub m hm1
            exact List.mem_append_right _ (hQ.cov K (h.down hK hm1 (hone m (LK.refl hms.1 hms.2 (fun e => hm2 (.inl e)) gwm))))
        · have hk := hn0.mx K hK
          have hvs := hk.1.sub v hv
          have hvS : PS N G U w d v := by
            rcases partW_iff.1 ((hQ.mx L hL).sub v hv').2 with k | k
            · exfalso
              have hr := k.right
              have := hk.1.cl w v hk.2 hv (fun e => hr.2.2.1 e.symm)
              rw [hr.2.2.2] at this; cases this
            · exact k
          exact ⟨hn0.last v hvS, hQ0 v hvS⟩
    · -- nothing away from w
      obtain ⟨PR, hPR, hPRl⟩ := h.any ih
      have hn0 := h.near (T := fun _ => False) hPR hPRl (fun s k => k.elim)
      refine ⟨_, ⟨fun K hK => (hn0.mx K hK).1, fun K hK => hn0.cov K hK ?_, hn0.con⟩, hn0.len, (hn0.mx _ (getD_inS hn0.len)).2⟩
      refine hK.mx w h.wN h.wU fun a ha hne' => ?_
      cases e : G w a
      · have has := hK.sub a ha
        exact absurd ⟨a, LK.refl has.1 has.2 hne' e⟩ hne
      · rfl
/-- The whole graph. -/
theorem lb_row (hsym : ∀ a b, a < N → b < N → G a b = G b a) (hirr : ∀ a, a < N → G a a = false) (hN : 0 < N) (hch : CHd N G (fun _ => true)) (hat : ¬ ATr N G (fun _ => true)) : ∃ P, CP N G (fun _ => true) P := by
  obtain ⟨w, hw⟩ := adm_ex hsym hirr _ (fun _ => true) rfl ⟨0, hN, rfl⟩ hat
  obtain ⟨P, hP, -⟩ := rowCliques _ (fun _ => true) w rfl ⟨hsym, hirr, hw.1, hw.2.1, hch, hat, hw.2.2⟩
  exact ⟨P, hP⟩
end
end Go.Proofs.Ytnhhohhhpaejmaa
namespace Go.Proofs.Ytnhhohhhpaejmaa
open Go Go.RowKit

section
variable {N : Nat} {G : Nat → Nat → Bool}
theorem rch_headI {S : Nat → Bool} {a b : Nat} (k : Rch N G S a b) : a = b ∨ ∃ c, c < N ∧ G a c = true ∧ S c = false := by
  induction k with
  | refl => exact .inl rfl
  | @step b c hr h1 h2 h3 h4 ih =>
    rcases ih with rfl | ih
    · exact .inr ⟨c, h2, h3, h4⟩
    · exact .inr ih
/-- Taking back a simple node makes no hole. -/
theorem chd_back (hsym : ∀ a b, a < N → b < N → G a b = G b a) (hirr : ∀ a, a < N → G a a = false) {U U' X : Nat → Bool} {w : Nat} (hw : w < N)
    (hU : ∀ q, q < N → (U q = true ↔ X q = false)) (hU' : ∀ q, q < N → (U' q = true ↔ X q = false ∧ q ≠ w)) (hs : SimpAt N G X w) (h : CHd N G U') : CHd N G U := by
  intro v a b hv ha hb uv ua ub g1 g2 hne hg hr
  have gab : ∀ p q, p < N → q < N → U p = true → U q = true → p ≠ q → G w p = true → G w q = true → G p q = true := fun p q hp hq up uq hpq k1 k2 =>
    hs p q hp hq hpq ((hU p hp).1 up) ((hU q hq).1 uq) k1 k2
  have hav : a ≠ v := fun e => by rw [e, hirr _ hv] at g1; cases g1
  have hbv : b ≠ v := fun e => by rw [e, hirr _ hv] at g2; cases g2
  by_cases ew : w = v
  · subst ew
    rw [gab a b ha hb ua ub hne g1 g2] at hg; cases hg
  by_cases ea : w = a
  · subst ea
    rcases rch_headI hr with e | ⟨c, hc, k1, k2⟩
    · exact hne e
    · rw [shA_iff] at k2
      rcases k2.2.2 with k3 | k3 | k3
      · rw [gab v c hv hc uv k2.1 (fun e => k2.2.1 e.symm) (by rw [hsym _ _ ha hv]; exact g1) k1] at k3; cases k3
      · subst k3; rw [hirr _ ha] at k1; cases k1
      · subst k3; rw [hg] at k1; cases k1
  by_cases eb : w = b
  · subst eb
    cases hr with
    | refl => exact hne rfl
    | @step p _ hr h1 h2 h3 h4 =>
      have ap : a = p ∨ shA G U v a w p = false := by
        cases hr with
        | refl => exact .inl rfl
        | step _ _ _ _ k => exact .inr k
      rcases ap with rfl | k2
      · rw [hg] at h3; cases h3
      · rw [shA_iff] at k2
        rcases k2.2.2 with k3 | k3 | k3
        · rw [gab v p hv h1 uv k2.1 (fun e => k2.2.1 e.symm) (by rw [hsym _ _ hb hv]; exact g2) (by rw [hsym _ _ hb h1]; exact h3)] at k3; cases k3
        · subst k3; rw [hg] at h3; cases h3
        · subst k3; rw [hirr _ hb] at h3; cases h3
  have hS : ∀ q, q < N → q ≠ w → shA G U v a b q = false → shA G U' v a b q = false := fun q hq hqw k => by
    rw [shA_iff] at k ⊢
    exact ⟨(hU' q hq).2 ⟨(hU q hq).1 k.1, hqw⟩, k.2⟩
  have key : ∀ c, Rch N G (shA G U v a b) a c → (c = a ∨ U c = true) ∧ (c ≠ w → Rch N G (shA G U' v a b) a c) ∧ (c = w → ∃ p, p < N ∧ p ≠ w ∧ U p = true ∧ G p w = true ∧ Rch N G (shA G U' v a b) a p) := by
    intro c hc
    induction hc with
    | refl => exact ⟨.inl rfl, fun _ => .refl, fun e => absurd e.symm ea⟩
    | @step c d hr h1 h2 h3 h4 ih =>
      have ud : U d = true := (shA_iff.1 h4).1
      have uc : U c = true := by
        rcases ih.1 with e | e
        · rw [e]; exact ua
        · exact e
      refine ⟨.inr ud, fun hd => ?_, fun hd => ?_⟩
      · by_cases ec : c = w
        · obtain ⟨p, p1, p2, p3, p4, p5⟩ := ih.2.2 ec
          by_cases epd : p = d
          · rw [← epd]; exact p5
          · rw [ec] at h3
            exact .step p5 p1 h2 (gab p d p1 h2 p3 ud epd (by rw [hsym _ _ hw p1]; exact p4) h3) (hS d h2 hd h4)
        · exact .step (ih.2.1 ec) h1 h2 h3 (hS d h2 hd h4)
      · subst hd
        have ec : c ≠ d := fun e => by rw [e, hirr _ h2] at h3; cases h3
        exact ⟨c, h1, ec, uc, h3, ih.2.1 ec⟩
  exact h v a b hv ha hb ((hU' v hv).2 ⟨(hU v hv).1 uv, fun e => ew e.symm⟩) ((hU' a ha).2 ⟨(hU a ha).1 ua, fun e => ea e.symm⟩) ((hU' b hb).2 ⟨(hU b hb).1 ub, fun e => eb e.symm⟩) g1 g2 hne hg
    ((key b hr).2.1 (fun e => eb e.symm))

theorem perf_all {L : List Nat} (h : PerfI N G L) (hl : L.length = N) {v : Nat} (hv : v < N) : v ∈ L := by
  refine Classical.byContradiction fun hn => ?_
  have := nodup_lt N (v :: L) (List.nodup_cons.2 ⟨hn, h.nodup⟩) fun x hx => by
    rcases List.mem_cons.1 hx with rfl | hx
    · exact hv
    · exact h.lt x hx
  rw [List.length_cons] at this
  omega
theorem perf_chd (hsym : ∀ a b, a < N → b < N → G a b = G b a) (hirr : ∀ a, a < N → G a a = false) {L : List Nat} (h : PerfI N G L) (hl : L.length = N) : CHd N G (fun _ => true) := by
  have key : ∀ d i, d + i = N → CHd N G (fun u => !decide (u ∈ L.take i)) := by
    intro d
    induction d with
    | zero =>
      intro i hi
      have e : L.take i = L := List.take_of_length_le (by omega)
      intro v a b hv ha hb uv
      rw [e] at uv
      simp [perf_all h hl hv] at uv
    | succ d ih =>
      intro i hi
      have hiL : i < L.length := by omega
      have e : L.getD i 0 = L[i] := by rw [List.getD, List.getElem?_eq_getElem hiL]; rfl
      refine chd_back hsym hirr (U' := fun u => !decide (u ∈ L.take (i + 1))) (X := fun u => decide (u ∈ L.take i)) (w := L.getD i 0) (by rw [e]; exact h.lt _ (List.getElem_mem _)) (fun q hq => by simp) (fun q hq => ?_) (h.simp i hiL) (ih (i + 1) (by omega))
      have e2 : q ∈ L.take (i + 1) ↔ q ∈ L.take i ∨ q = L[i] := by rw [List.take_succ_eq_append_getElem hiL, List.mem_append, List.mem_singleton]
      rw [e]
      simp only [Bool.not_eq_true', decide_eq_false_iff_not, e2, not_or, ne_eq]
  have := key N 0 (by omega)
  intro v a b hv ha hb uv ua ub g1 g2 hne hg hr
  refine this v a b hv ha hb (by simp) (by simp) (by simp) g1 g2 hne hg ?_
  exact rch_openI (fun q hq => by
    rw [shA_iff] at hq ⊢
    exact ⟨by simp, hq.2⟩) hr

/-- Three such nodes, the greatest first. -/
theorem atr_sorted (hs : ∀ a b, a < N → b < N → G a b = G b a) (h : ATr N G (fun _ => true)) : ∃ a b c, a < N ∧ b < a ∧ c < b ∧ LK N G (fun _ => true) c a b ∧ LK N G (fun _ => true) a b c ∧ LK N G (fun _ => true) b a c := by
  obtain ⟨a, b, c, h1, h2, h3⟩ := h
  have ha := h3.left.1
  have hb := h1.left.1
  have hc := h1.right.1
  have ab : a ≠ b := fun e => h1.left.2.2.1 e.symm
  have ac : a ≠ c := fun e => h1.right.2.2.1 e.symm
  have bc : b ≠ c := fun e => h2.right.2.2.1 e.symm
  rcases Nat.lt_or_gt_of_ne ab with k1 | k1 <;> rcases Nat.lt_or_gt_of_ne ac with k2 | k2 <;> rcases Nat.lt_or_gt_of_ne bc with k3 | k3
  · exact ⟨c, b, a, hc, k3, k1, h1.sym hs, h3.sym hs, h2.sym hs⟩
  · exact ⟨b, c, a, hb, k3, k2, h1, h2.sym hs, h3.sym hs⟩
  · omega
  · exact ⟨b, a, c, hb, k1, k2, h3.sym hs, h2, h1⟩
  · exact ⟨c, a, b, hc, k2, k1, h2.sym hs, h3, h1.sym hs⟩
  · omega
  · exact ⟨a, c, b, ha, k2, k3, h2, h1.sym hs, h3⟩
  · exact ⟨a, b, c, ha, k1, k3, h3, h1, h2⟩
end
end Go.Proofs.Ytnhhohhhpaejmaa
