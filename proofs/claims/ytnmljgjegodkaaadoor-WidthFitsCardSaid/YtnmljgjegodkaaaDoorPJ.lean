/- The bags of an order lie over the graph. Plain: no program in sight. What width.Fits asks is what Over asks: the law. No walk in sight. -/
import Derived.Test.YtnmljgjegodkaaaDoorPD
import Derived.Test.YtnmljgjegodkaaaDoorOver
import Derived.Test.YtnmljgjegodkaaaDoorPH
namespace Go.Proofs.YtnmljgjegodkaaaDoor
open Go.RowKit

theorem parts_top {M t : Nat} {G : Nat → Nat → Bool} {S : Nat → Bool} (hG : ∀ i j, G i j = G j i) (ht : t < M) (hst : S t = false)
    (h : ∀ i, i < M → S i = false → i ≠ t → ∃ p, i < p ∧ p ≤ t ∧ S p = false ∧ G i p = true) : partsF M G S = 1 := by
  have sy : ∀ {a b}, S a = false → Rch M G S a b → Rch M G S b a := fun {a b} ha h => by
    induction h with
    | refl => exact .refl
    | @step b c h1 h2 h3 h4 h5 ih => exact (Rch.step .refl h3 h2 (by rw [hG]; exact h4) (h1.free ha)).trans ih
  have key : ∀ n i, M - i ≤ n → i < M → S i = false → Rch M G S i t := by
    intro n
    induction n with
    | zero => intro i h1 h2; omega
    | succ n ih =>
      intro i h1 h2 h3
      by_cases e : i = t
      · subst e; exact .refl
      · obtain ⟨p, h4, h5, h6, h7⟩ := h i h2 h3 e
        exact (Rch.step .refl h2 (by omega) h7 h6).trans (ih p (by omega) (by omega) h6)
  exact (parts_oneW hG ⟨t, ht, hst⟩).2 fun a b ha hb hsa hsb => (key _ a (Nat.le_refl _) ha hsa).trans (sy hsb (key _ b (Nat.le_refl _) hb hsb))
theorem links_mem {u : List Int} {i : Nat} (h : u.getD i 0 ≠ -1) : ∀ {k : Nat}, i < k → ((i : Int), u.getD i 0) ∈ linksL u k
  | 0, hi => absurd hi (Nat.not_lt_zero _)
  | k + 1, hi => by
    rw [linksL, List.mem_append]
    by_cases e : i = k
    · subst e; rw [if_neg h]; exact .inr (List.mem_singleton.2 rfl)
    · exact .inl (links_mem h (by omega))
theorem adj_of_mem {l : List (Int × Int)} {i j : Nat} (h : ((i : Int), (j : Int)) ∈ l) : adj l i j = true := by
  unfold adj hasE
  exact List.any_eq_true.2 ⟨_, h, decide_eq_true (.inl ⟨rfl, rfl⟩)⟩
theorem roots_zero {u : List Int} : ∀ {k : Nat}, (∀ i, i < k → u.getD i 0 ≠ -1) → rootsN u k = 0
  | 0, _ => rfl
  | k + 1, h => by rw [rootsN, if_neg (h k (by omega)), roots_zero fun i hi => h i (by omega)]
section
variable {N : Nat} {G : Nat → Nat → Bool} {L ps : List Nat}
noncomputable abbrev bagsL (N : Nat) (G : Nat → Nat → Bool) (L : List Nat) : List (List Nat) := (List.range N).map (bagL N G L)
theorem bagsL_at {i : Nat} (hi : i < N) : (bagsL N G L).getD i [] = bagL N G L i := by
  rw [List.getD, List.getElem?_map, List.getElem?_range hi]; rfl
theorem hasB_iff {i v : Nat} (hi : i < N) : hasB (bagsL N G L) v i = true ↔ v < N ∧ (v = L.getD i 0 ∨ restL N G L i v = true) := by
  unfold hasB
  rw [bagsL_at hi, List.contains_iff_mem]
  unfold bagL
  rw [List.mem_filter, List.mem_range, Bool.or_eq_true, decide_eq_true_eq]
theorem ParOk.gt (hO : Ord N L) {i p : Nat} (hi : i < N) (h : ParOk N G L i p) : i < p := by
  rcases h with ⟨-, e⟩ | ⟨h1, h2, -⟩
  · omega
  · exact rest_later hO hi h1 h2
theorem up_at {i : Nat} (hl : ps.length = N) (hi : i < N) : (ps.map (upI N)).getD i 0 = upI N (ps.getD i 0) := by
  have h1 : i < ps.length := by omega
  simp [List.getD, h1]
theorem least_over {l : List (Int × Int)} (hG : Gr N (adj l)) (hok : ∀ j, j < l.length → EndsOk (N : Int) (l.getD j (0, 0)) ∧ (l.getD j (0, 0)).1 ≠ (l.getD j (0, 0)).2) (hO : Ord N L) (hl : ps.length = N)
    (hp : ∀ i, i < N → ParOk N (adj l) L i (ps.getD i 0) ∧ ps.getD i 0 ≤ N) : OverT N l (bagsL N (adj l) L) (ps.map (upI N)) := by
  have hbl : (bagsL N (adj l) L).length = N := by simp
  have hul : (ps.map (upI N)).length = N := by simp [hl]
  have hgt : ∀ i, i < N → i < ps.getD i 0 := fun i hi => (hp i hi).1.gt hO hi
  have hup : ∀ i, i < N → ps.getD i 0 < N → (ps.map (upI N)).getD i 0 = ((ps.getD i 0 : Nat) : Int) := fun i hi h => by
    rw [up_at hl hi, upI, if_neg (by omega)]
  have hlast : ∀ i, i < N → ps.getD i 0 = N → i + 1 = N := fun i hi e => by
    rcases (hp i hi).1 with ⟨-, e2⟩ | ⟨h1, -, -⟩
    · omega
    · omega
  have hadj : ∀ i, i < N → ps.getD i 0 < N → adj (linksL (ps.map (upI N)) N) i (ps.getD i 0) = true := fun i hi h => by
    refine adj_of_mem ?_
    have := links_mem (u := ps.map (upI N)) (i := i) (by rw [hup i hi h]; omega) hi
    rwa [hup i hi h] at this
  refine ⟨fun i hi => ?_, fun h0 => ?_, fun h0 => ?_, fun j hj => ?_, fun v hv => ?_⟩
  · rw [hul] at hi
    by_cases e : ps.getD i 0 = N
    · left; rw [up_at hl hi, upI, if_pos e]
    · right
      have h1 := (hp i hi).2
      rw [hup i hi (by omega), hul]
      have := hgt i hi
      exact ⟨by omega, by omega, by omega⟩
  · rw [hbl] at h0
    rw [hul]
    obtain ⟨n, rfl⟩ : ∃ n, N = n + 1 := ⟨N - 1, by omega⟩
    rw [rootsN, roots_zero fun i hi => ?_, if_pos ?_]
    · have h1 := hgt n (by omega)
      have h2 := (hp n (by omega)).2
      rw [up_at hl (by omega), upI, if_pos (by omega)]
    · have h2 := (hp i (by omega)).2
      have h3 : ps.getD i 0 ≠ n + 1 := fun e => by have := hlast i (by omega) e; omega
      rw [hup i (by omega) (by omega)]
      omega
  · rw [hbl] at h0
    rw [hul, hbl]
    refine parts_top (t := N - 1) (adj_sy _) (by omega) rfl fun i hi _ hit => ?_
    have h2 := (hp i hi).2
    have h3 : ps.getD i 0 ≠ N := fun e => by have := hlast i hi e; omega
    exact ⟨_, hgt i hi, by omega, rfl, hadj i hi (by omega)⟩
  · obtain ⟨⟨x0, y0, x1, y1⟩, hne⟩ := hok j hj
    obtain ⟨x, hx⟩ := Int.eq_ofNat_of_zero_le x0
    obtain ⟨y, hy⟩ := Int.eq_ofNat_of_zero_le y0
    have hxy : adj l x y = true := adj_of_mem (by
      have e : l.getD j (0, 0) = ((x : Int), (y : Int)) := Prod.ext hx hy
      rw [← e, List.getD, List.getElem?_eq_getElem hj]
      exact List.getElem_mem hj)
    rw [hx, hy]
    simp only [Int.toNat_natCast]
    obtain ⟨a, ha, ea⟩ := hO.all (v := x) (by omega)
    obtain ⟨b, hb, eb⟩ := hO.all (v := y) (by omega)
    rw [hbl]
    rcases Nat.lt_trichotomy a b with e | e | e
    · exact ⟨a, ha, (hasB_iff ha).2 ⟨by omega, .inl ea.symm⟩, (hasB_iff ha).2 ⟨by omega, .inr (by rw [← eb]; exact rest_edge hO ha hb e (by rw [ea, eb]; exact hxy))⟩⟩
    · subst e
      rw [ea] at eb
      exact absurd (show (l.getD j (0, 0)).1 = (l.getD j (0, 0)).2 by rw [hx, hy, eb]) hne
    · exact ⟨b, hb, (hasB_iff hb).2 ⟨by omega, .inr (by rw [← ea]; exact rest_edge hO hb ha e (by rw [ea, eb, adj_sy]; exact hxy))⟩, (hasB_iff hb).2 ⟨by omega, .inl eb.symm⟩⟩
  · obtain ⟨t, ht, et⟩ := hO.all hv
    rw [hbl, hul]
    have hsh : ∀ i, i < N → (shutB (bagsL N (adj l) L) v i = false ↔ (v = L.getD i 0 ∨ restL N (adj l) L i v = true)) := fun i hi => by
      unfold shutB
      rw [hbl, decide_eq_true hi, Bool.true_and, Bool.not_eq_false', hasB_iff hi]
      exact ⟨fun h => h.2, fun h => ⟨hv, h⟩⟩
    refine ⟨⟨t, ht, (hasB_iff ht).2 ⟨hv, .inl et.symm⟩⟩, parts_top (t := t) (adj_sy _) ht ((hsh t ht).2 (.inl et.symm)) fun i hi hs hit => ?_⟩
    rcases (hsh i hi).1 hs with e | hr
    · exact absurd (hO.inj hi ht (e.symm.trans et.symm)) hit
    · rw [← et] at hr
      rcases (hp i hi).1 with ⟨h1, -⟩ | ⟨h1, h2, h3⟩
      · have := h1 (L.getD t 0) (hO.at ht).1
        rw [hr] at this; cases this
      · have hle := h3 t ht hr
        refine ⟨_, hgt i hi, hle, (hsh _ h1).2 ?_, hadj i hi h1⟩
        rcases Nat.eq_or_lt_of_le hle with e | e
        · exact .inl (by rw [e, et])
        · exact .inr (by rw [← et]; exact rest_next hG hO hi h1 ht h2 hr e)
end
end Go.Proofs.YtnmljgjegodkaaaDoor
namespace Go.Proofs.YtnmljgjegodkaaaDoor
open Go.RowKit

/-- Climbing up. -/
def itU (u : List Int) (k : Int) : Nat → Int
  | 0 => k
  | s + 1 => u.getD (itU u k s).toNat 0
def InU (u : List Int) (k : Int) : Prop := 0 ≤ k ∧ k < (u.length : Int)
/-- One comes out. -/
def ClimbOk (u : List Int) (i : Nat) : Prop := ∃ s, s ≤ u.length + 1 ∧ itU u i s = -1 ∧ ∀ r, r < s → InU u (itU u i r)
theorem climb_no {u : List Int} {i s : Nat} (hr : ∀ r, r < s → InU u (itU u i r)) (hs : itU u i s ≠ -1) (h : ¬ InU u (itU u i s) ∨ u.length < s) : ¬ ClimbOk u i := by
  rintro ⟨t, h1, h2, h3⟩
  rcases Nat.lt_trichotomy t s with e | e | e
  · have := (hr t e).1
    omega
  · subst e; exact hs h2
  · rcases h with h | h
    · exact h (h3 s e)
    · omega
theorem itU_shift (u : List Int) (k : Int) : ∀ s, itU u k (s + 1) = itU u (u.getD k.toNat 0) s
  | 0 => rfl
  | s + 1 => by rw [itU, itU_shift u k s, itU]
/-- In s steps one is out. -/
inductive Clm (u : List Int) : Nat → Nat → Prop
  | top {i : Nat} : i < u.length → u.getD i 0 = -1 → Clm u i 1
  | up {i p s : Nat} : i < u.length → u.getD i 0 = (p : Int) → Clm u p s → Clm u i (s + 1)
theorem Clm.pos {u : List Int} {i s : Nat} (h : Clm u i s) : 1 ≤ s := by cases h <;> omega
theorem Clm.lt {u : List Int} {i s : Nat} (h : Clm u i s) : i < u.length := by cases h <;> assumption
theorem Clm.fn {u : List Int} {i s : Nat} (h : Clm u i s) : ∀ {t}, Clm u i t → s = t := by
  induction h with
  | top h1 h2 =>
    intro t k
    cases k with
    | top => rfl
    | up h3 h4 _ => omega
  | up h1 h2 _ ih =>
    intro t k
    cases k with
    | top h3 h4 => omega
    | @up _ q _ h3 h4 h5 =>
      have e : q = _ := Int.ofNat_inj.1 (h4.symm.trans h2)
      subst e
      rw [ih h5]
theorem clm_of {u : List Int} : ∀ {s : Nat} {i : Nat}, itU u i s = -1 → (∀ r, r < s → InU u (itU u i r)) → Clm u i s
  | 0, i, h, _ => by simp only [itU] at h; omega
  | s + 1, i, h, hr => by
    have h0 : InU u (i : Int) := hr 0 (by omega)
    have hi : i < u.length := by have := h0.2; omega
    rw [itU_shift, Int.toNat_natCast] at h
    by_cases e : u.getD i 0 = -1
    · cases s with
      | zero => exact .top hi e
      | succ s =>
        have := hr 1 (by omega)
        rw [itU_shift, Int.toNat_natCast, e] at this
        have := this.1
        simp only [itU] at this
        omega
    · cases s with
      | zero => simp only [itU] at h; exact absurd h e
      | succ s =>
        have h1 := hr 1 (by omega)
        rw [itU_shift, Int.toNat_natCast] at h1
        obtain ⟨p, hp⟩ := Int.eq_ofNat_of_zero_le (show 0 ≤ u.getD i 0 from h1.1)
        rw [hp] at h
        exact .up hi hp (clm_of h fun r hr2 => by
          have := hr (r + 1) (by omega)
          rwa [itU_shift, Int.toNat_natCast, hp] at this)
theorem Clm.it {u : List Int} {i s : Nat} (h : Clm u i s) : itU u i s = -1 ∧ ∀ r, r < s → InU u (itU u i r) := by
  induction h with
  | @top i h1 h2 =>
    refine ⟨by rw [itU_shift, Int.toNat_natCast, h2]; rfl, fun r hr => ?_⟩
    obtain rfl : r = 0 := by omega
    exact ⟨by simp only [itU]; omega, by simp only [itU]; omega⟩
  | @up i p s h1 h2 _ ih =>
    refine ⟨by rw [itU_shift, Int.toNat_natCast, h2]; exact ih.1, fun r hr => ?_⟩
    cases r with
    | zero => exact ⟨by simp only [itU]; omega, by simp only [itU]; omega⟩
    | succ r => rw [itU_shift, Int.toNat_natCast, h2]; exact ih.2 r (by omega)
theorem nodup_ltU : ∀ (n : Nat) (l : List Nat), l.Nodup → (∀ v ∈ l, v < n) → l.length ≤ n
  | 0, l, _, h => by
    cases l with
    | nil => simp
    | cons a t => exact absurd (h a (by simp)) (Nat.not_lt_zero _)
  | n + 1, l, hd, h => by
    have h1 := nodup_ltU n (l.filter fun v => decide (v ≠ n)) (hd.sublist List.filter_sublist) fun v hv => by
      rw [List.mem_filter, decide_eq_true_eq] at hv
      have := h v hv.1
      omega
    have h2 : l.length ≤ (l.filter fun v => decide (v ≠ n)).length + 1 := by
      clear h1 h
      induction l with
      | nil => simp
      | cons a t ih =>
        rw [List.nodup_cons] at hd
        by_cases e : a = n
        · subst e
          have : (t.filter fun v => decide (v ≠ a)) = t := List.filter_eq_self.2 fun v hv => by
            simp only [ne_eq, decide_not, Bool.not_eq_true', decide_eq_false_iff_not]
            intro e2; subst e2; exact hd.1 hv
          rw [List.filter_cons, if_neg (by simp), this, List.length_cons]
          omega
        · rw [List.filter_cons, if_pos (by simp [e])]
          have := ih hd.2
          simp only [List.length_cons]
          omega
    omega
theorem Clm.le {u : List Int} {i s : Nat} (h : Clm u i s) : s ≤ u.length := by
  have key : ∃ c : List Nat, c.length = s ∧ c.Nodup ∧ ∀ x ∈ c, x < u.length ∧ ∃ t, t ≤ s ∧ Clm u x t := by
    induction h with
    | @top i h1 h2 => exact ⟨[i], rfl, by simp, fun x hx => by rw [List.mem_singleton] at hx; subst hx; exact ⟨h1, 1, by omega, .top h1 h2⟩⟩
    | @up i p s h1 h2 h3 ih =>
      obtain ⟨c, e1, e2, e3⟩ := ih
      refine ⟨i :: c, by rw [List.length_cons, e1], List.nodup_cons.2 ⟨fun hm => ?_, e2⟩, fun x hx => ?_⟩
      · obtain ⟨-, t, h4, h5⟩ := e3 i hm
        have := (Clm.up h1 h2 h3).fn h5
        omega
      · rcases List.mem_cons.1 hx with rfl | hx
        · exact ⟨h1, s + 1, by omega, .up h1 h2 h3⟩
        · obtain ⟨a, t, h4, h5⟩ := e3 x hx
          exact ⟨a, t, by omega, h5⟩
  obtain ⟨c, e1, e2, e3⟩ := key
  rw [← e1]
  exact nodup_ltU _ c e2 fun v hv => (e3 v hv).1
theorem climb_iff {u : List Int} {i : Nat} : ClimbOk u i ↔ ∃ s, Clm u i s :=
  ⟨fun ⟨s, _, h2, h3⟩ => ⟨s, clm_of h2 h3⟩, fun ⟨s, h⟩ => ⟨s, by have := h.le; omega, h.it.1, h.it.2⟩⟩
theorem clm_up {u : List Int} {i s : Nat} (h : Clm u i s) : UpAt u i := by
  cases h with
  | top h1 h2 => exact .inl h2
  | @up _ p s h1 h2 h3 =>
    refine .inr ⟨by omega, by have := h3.lt; omega, fun e => ?_⟩
    obtain rfl : p = i := by omega
    have := (Clm.up h1 h2 h3).fn h3
    omega
theorem links_of {u : List Int} {p : Int × Int} : ∀ {k : Nat}, p ∈ linksL u k → ∃ i, i < k ∧ p = ((i : Int), u.getD i 0)
  | 0, h => by cases h
  | k + 1, h => by
    rw [linksL, List.mem_append] at h
    rcases h with h | h
    · obtain ⟨i, h1, h2⟩ := links_of h
      exact ⟨i, by omega, h2⟩
    · split at h
      · cases h
      · exact ⟨k, by omega, List.mem_singleton.1 h⟩
theorem adj_links {u : List Int} {M i j : Nat} (h : adj (linksL u M) i j = true) : (i < M ∧ u.getD i 0 = (j : Int)) ∨ (j < M ∧ u.getD j 0 = (i : Int)) := by
  unfold adj hasE at h
  obtain ⟨p, h1, h2⟩ := List.any_eq_true.1 h
  obtain ⟨k, h3, rfl⟩ := links_of h1
  rcases of_decide_eq_true h2 with ⟨a, b⟩ | ⟨a, b⟩
  · obtain rfl : k = i := by simp only at a; omega
    exact .inl ⟨h3, b⟩
  · obtain rfl : k = j := by simp only at a; omega
    exact .inr ⟨h3, b⟩
theorem links_adj {u : List Int} {M i p : Nat} (hi : i < M) (h : u.getD i 0 = (p : Int)) : adj (linksL u M) i p = true := by
  have := links_mem (u := u) (i := i) (by omega) hi
  rw [h] at this
  exact adj_of_mem this
/-- Above it there is none that is open. -/
def topB (u : List Int) (S : Nat → Bool) (i : Nat) : Bool := !S i && (decide (u.getD i 0 < 0) || S (u.getD i 0).toNat)
inductive Lad (u : List Int) (S : Nat → Bool) : Nat → Nat → Prop
  | top {i : Nat} : topB u S i = true → Lad u S i i
  | up {i p t : Nat} : S i = false → u.getD i 0 = (p : Int) → S p = false → Lad u S p t → Lad u S i t
section
variable {u : List Int} {S : Nat → Bool}
theorem topB_open {i : Nat} (h : topB u S i = true) : S i = false := by
  unfold topB at h
  rw [Bool.and_eq_true, Bool.not_eq_true'] at h
  exact h.1
theorem topB_not {i p : Nat} (h1 : u.getD i 0 = (p : Int)) (h2 : S p = false) : ¬ topB u S i = true := by
  unfold topB
  rw [h1, Int.toNat_natCast, h2, decide_eq_false (by omega), Bool.or_false, Bool.and_false]
  exact Bool.false_ne_true
theorem Lad.fn {i t : Nat} (h : Lad u S i t) : ∀ {t'}, Lad u S i t' → t = t' := by
  induction h with
  | top h1 =>
    intro t' k
    cases k with
    | top => rfl
    | up h2 h3 h4 h5 => exact absurd h1 (topB_not h3 h4)
  | up h1 h2 h3 _ ih =>
    intro t' k
    cases k with
    | top h4 => exact absurd h4 (topB_not h2 h3)
    | @up _ q _ h4 h5 h6 h7 =>
      have e : q = _ := Int.ofNat_inj.1 (h5.symm.trans h2)
      subst e
      exact ih h7
theorem Clm.lad {i s : Nat} (h : Clm u i s) : S i = false → ∃ t, t < u.length ∧ topB u S t = true ∧ Lad u S i t := by
  induction h with
  | @top i h1 h2 =>
    intro hs
    have ht : topB u S i = true := by unfold topB; rw [hs, h2]; rfl
    exact ⟨i, h1, ht, .top ht⟩
  | @up i p s h1 h2 h3 ih =>
    intro hs
    cases hp : S p with
    | true =>
      have ht : topB u S i = true := by unfold topB; rw [hs, h2, Int.toNat_natCast, hp, Bool.or_true]; rfl
      exact ⟨i, h1, ht, .top ht⟩
    | false =>
      obtain ⟨t, a, b, c⟩ := ih hp
      exact ⟨t, a, b, .up hs h2 hp c⟩
theorem Lad.rch (hc : ∀ i, i < u.length → ∃ s, Clm u i s) {i t : Nat} (h : Lad u S i t) : i < u.length → Rch u.length (adj (linksL u u.length)) S i t := by
  induction h with
  | top => exact fun _ => .refl
  | @up i p t h1 h2 h3 _ ih =>
    intro hi
    obtain ⟨s, hs⟩ := hc i hi
    have hp : p < u.length := by
      rcases clm_up hs with e | ⟨_, e, _⟩ <;> omega
    exact (Rch.step .refl hi hp (links_adj hi h2) h3).trans (ih hp)
theorem rch_lad {a b t : Nat} (h : Rch u.length (adj (linksL u u.length)) S a b) (ha : S a = false) (hl : Lad u S a t) : Lad u S b t := by
  induction h with
  | refl => exact hl
  | @step b c h1 h2 h3 h4 h5 ih =>
    have hb := h1.free ha
    rcases adj_links h4 with ⟨_, e⟩ | ⟨_, e⟩
    · cases ih with
      | top k => exact absurd k (topB_not e h5)
      | @up _ q _ k1 k2 k3 k4 =>
        obtain rfl : q = c := Int.ofNat_inj.1 (k2.symm.trans e)
        exact k4
    · exact .up h5 e hb ih
theorem tops_iff (hc : ∀ i, i < u.length → ∃ s, Clm u i s) : cnt (topB u S) u.length = 1 ↔ (∃ i, i < u.length ∧ S i = false) ∧ partsF u.length (adj (linksL u u.length)) S = 1 := by
  have sy : ∀ {a b}, S a = false → Rch u.length (adj (linksL u u.length)) S a b → Rch u.length (adj (linksL u u.length)) S b a := fun {a b} ha h => by
    induction h with
    | refl => exact .refl
    | @step b c h1 h2 h3 h4 h5 ih => exact (Rch.step .refl h3 h2 (by rw [adj_sy]; exact h4) (h1.free ha)).trans ih
  constructor
  · intro h
    obtain ⟨t, ht, htt⟩ := cnt_posW.1 (show cnt (topB u S) u.length ≠ 0 by omega)
    have hun : ∀ t', t' < u.length → topB u S t' = true → t' = t := fun t' h1 h2 => by
      rcases Nat.lt_trichotomy t' t with e | e | e
      · have := cnt_twoW e ht h2 htt; omega
      · exact e
      · have := cnt_twoW e h1 htt h2; omega
    have hall : ∀ i, i < u.length → S i = false → Rch u.length (adj (linksL u u.length)) S i t := fun i hi hs => by
      obtain ⟨s, hcl⟩ := hc i hi
      obtain ⟨t', a, b, c⟩ := hcl.lad hs
      obtain rfl := hun t' a b
      exact c.rch hc hi
    have hex : ∃ i, i < u.length ∧ S i = false := ⟨t, ht, topB_open htt⟩
    exact ⟨hex, (parts_oneW (adj_sy _) hex).2 fun a b ha hb hsa hsb => (hall a ha hsa).trans (sy hsb (hall b hb hsb))⟩
  · rintro ⟨hex, h⟩
    have hr := (parts_oneW (adj_sy _) hex).1 h
    obtain ⟨i, hi, hs⟩ := hex
    obtain ⟨s, hcl⟩ := hc i hi
    obtain ⟨t, a, b, c⟩ := hcl.lad hs
    refine cnt_oneW a b fun t' ht' hb' => ?_
    exact (Lad.top hb').fn (rch_lad (hr t t' a ht' (topB_open b) (topB_open hb')) (topB_open b) (Lad.top b))
theorem roots_cnt : ∀ k, rootsN u k = cnt (fun i => decide (u.getD i 0 = -1)) k
  | 0 => rfl
  | k + 1 => by rw [rootsN, cnt, roots_cnt k]; by_cases e : u.getD k 0 = -1 <;> simp [e]
theorem cnt_eqU {f g : Nat → Bool} : ∀ {k : Nat}, (∀ i, i < k → f i = g i) → cnt f k = cnt g k
  | 0, _ => rfl
  | k + 1, h => by rw [cnt, cnt, cnt_eqU fun i hi => h i (by omega), h k (by omega)]
theorem tree_iff : ((∀ i, i < u.length → ClimbOk u i) ∧ rootsN u u.length = min 1 u.length) ↔
    (∀ i, i < u.length → UpAt u i) ∧ (0 < u.length → rootsN u u.length = 1) ∧ (0 < u.length → partsF u.length (adj (linksL u u.length)) (fun _ => false) = 1) := by
  constructor
  · rintro ⟨h1, h2⟩
    have hc : ∀ i, i < u.length → ∃ s, Clm u i s := fun i hi => climb_iff.1 (h1 i hi)
    refine ⟨fun i hi => (hc i hi).elim fun s h => clm_up h, fun h0 => by omega, fun h0 => ((tops_iff (S := fun _ => false) hc).1 ?_).2⟩
    have h3 : rootsN u u.length = 1 := by omega
    rw [← h3, roots_cnt]
    refine cnt_eqU fun i hi => ?_
    obtain ⟨s, hs⟩ := hc i hi
    unfold topB
    rcases clm_up hs with e | ⟨e1, e2, e3⟩
    · rw [e]; rfl
    · rw [decide_eq_false (by omega), decide_eq_false (by omega)]; rfl
  · rintro ⟨h1, h2, h3⟩
    rcases Nat.eq_zero_or_pos u.length with e | h0
    · exact ⟨fun i hi => absurd hi (by omega), by rw [e]; rfl⟩
    refine ⟨fun i hi => climb_iff.2 ?_, by have := h2 h0; omega⟩
    have h4 := h2 h0
    rw [roots_cnt] at h4
    obtain ⟨r, hr, hrt⟩ := cnt_posW.1 (show cnt (fun i => decide (u.getD i 0 = -1)) u.length ≠ 0 by omega)
    have hrt := of_decide_eq_true hrt
    have hrch := (parts_oneW (adj_sy _) ⟨r, hr, rfl⟩).1 (h3 h0) r i hr hi rfl rfl
    induction hrch with
    | refl => exact ⟨1, .top hr hrt⟩
    | @step b c k1 k2 k3 k4 k5 ih =>
      obtain ⟨s, hs⟩ := ih k2
      rcases adj_links k4 with ⟨_, e⟩ | ⟨_, e⟩
      · cases hs with
        | top g1 g2 => omega
        | @up _ q s g1 g2 g3 =>
          obtain rfl : q = c := Int.ofNat_inj.1 (g2.symm.trans e)
          exact ⟨s, g3⟩
      · exact ⟨s + 1, .up k3 e hs⟩
end
/-- Bags with v above which there is none with it. -/
def topH (bs : List (List Nat)) (u : List Int) (v i : Nat) : Bool := hasB bs v i && (decide (u.getD i 0 < 0) || !hasB bs v (u.getD i 0).toNat)
/-- What Fits asks. -/
structure FitT (N : Nat) (l : List (Int × Int)) (bs : List (List Nat)) (u : List Int) : Prop where
  climb : ∀ i, i < u.length → ClimbOk u i
  root : rootsN u u.length = min 1 u.length
  edge : ∀ j, j < l.length → ∃ i, i < bs.length ∧ hasB bs (l.getD j (0, 0)).1.toNat i = true ∧ hasB bs (l.getD j (0, 0)).2.toNat i = true
  node : ∀ v, v < N → cnt (topH bs u v) bs.length = 1
theorem fits_over {N : Nat} {l : List (Int × Int)} {bs : List (List Nat)} {u : List Int} (hul : u.length = bs.length) : FitT N l bs u ↔ OverT N l bs u := by
  have key : (∀ i, i < u.length → ClimbOk u i) → ∀ v, (cnt (topH bs u v) bs.length = 1 ↔ (∃ i, i < bs.length ∧ hasB bs v i = true) ∧ partsF bs.length (adj (linksL u u.length)) (shutB bs v) = 1) := fun h v => by
    have hc : ∀ i, i < u.length → ∃ s, Clm u i s := fun i hi => climb_iff.1 (h i hi)
    have h1 := tops_iff (S := shutB bs v) hc
    have h2 : cnt (topB u (shutB bs v)) u.length = cnt (topH bs u v) bs.length := by
      rw [hul]
      refine cnt_eqU fun i hi => ?_
      unfold topB topH shutB
      obtain ⟨s, hs⟩ := hc i (by omega)
      rw [decide_eq_true hi, Bool.true_and, Bool.not_not]
      rcases clm_up hs with e | ⟨e1, e2, e3⟩
      · rw [e]; rfl
      · rw [decide_eq_true (show (u.getD i 0).toNat < bs.length by omega), Bool.true_and]
    rw [h2, hul] at h1
    rw [h1, hul]
    refine and_congr ⟨?_, ?_⟩ Iff.rfl
    · rintro ⟨i, a, b⟩
      unfold shutB at b
      rw [decide_eq_true a, Bool.true_and, Bool.not_eq_false'] at b
      exact ⟨i, a, b⟩
    · rintro ⟨i, a, b⟩
      exact ⟨i, a, by unfold shutB; rw [b, Bool.not_true, Bool.and_false]⟩
  constructor
  · intro h
    obtain ⟨a, b, c⟩ := tree_iff.1 ⟨h.climb, h.root⟩
    exact ⟨a, fun h0 => b (by omega), fun h0 => by rw [← hul]; exact c (by omega), h.edge, fun v hv => (key h.climb v).1 (h.node v hv)⟩
  · intro h
    obtain ⟨a, b⟩ := tree_iff.2 ⟨h.up, fun h0 => h.root (by omega), fun h0 => by have := h.one (by omega); rw [← hul] at this; exact this⟩
    exact ⟨a, b, h.edge, fun v hv => (key a v).2 (h.node v hv)⟩
end Go.Proofs.YtnmljgjegodkaaaDoor
