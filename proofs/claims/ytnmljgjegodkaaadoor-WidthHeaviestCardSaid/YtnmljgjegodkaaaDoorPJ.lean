/- The bags of an order lie over the graph. Plain: no program in sight. What width.Fits asks is what Over asks: the law. No walk in sight. Trees of bags: what hangs where. Plain: no program in sight. The heaviest loose set over a tree of bags: the law. Plain: no program in sight. The nodes chosen down a tree of bags: they are loose and weigh the most. Plain: no program in sight. -/
import Derived.Test.YtnmljgjegodkaaaDoorPD
import Derived.Test.YtnmljgjegodkaaaDoorOver
import Derived.Test.YtnmljgjegodkaaaDoorPH
import Derived.Test.YtnmljgjegodkaaaDoorPB
namespace Go.Proofs.YtnmljgjegodkaaaDoor
open Go.RowKit

theorem parts_top {M t : Nat} {G : Nat → Nat → Bool} {S : Nat → Bool} (hG : ∀ i j, G i j = G j i) (ht : t < M) (hst : S t = false)
    (h : ∀ i, i < M → S i = false → i ≠ t → ∃ p, i < p ∧ p ≤ t ∧ S p = false ∧ G i p = true) : partsF M G S = 1 := by
  have sy : ∀ {a b}, S a = false → Rch M G S a b → Rch M G S b a := fun {a b} ha h => by
    induction h with
    | refl => exact .refl
    | @step b c h1 h2 h3 h4 h5 ih => exact (Rch.step .refl h3 h2 (by rw [hG]; exact h4) (h1.free ha)).trans ih
  have key : ∀ n i, M - i ≤ n → i < M → S i = false → Rch M G S i t := by
    intro n
    induction n with
    | zero => intro i h1 h2; omega
    | succ n ih =>
      intro i h1 h2 h3
      by_cases e : i = t
      · subst e; exact .refl
      · obtain ⟨p, h4, h5, h6, h7⟩ := h i h2 h3 e
        exact (Rch.step .refl h2 (by omega) h7 h6).trans (ih p (by omega) (by omega) h6)
  exact (parts_oneW hG ⟨t, ht, hst⟩).2 fun a b ha hb hsa hsb => (key _ a (Nat.le_refl _) ha hsa).trans (sy hsb (key _ b (Nat.le_refl _) hb hsb))
theorem links_mem {u : List Int} {i : Nat} (h : u.getD i 0 ≠ -1) : ∀ {k : Nat}, i < k → ((i : Int), u.getD i 0) ∈ linksL u k
  | 0, hi => absurd hi (Nat.not_lt_zero _)
  | k + 1, hi => by
    rw [linksL, List.mem_append]
    by_cases e : i = k
    · subst e; rw [if_neg h]; exact .inr (List.mem_singleton.2 rfl)
    · exact .inl (links_mem h (by omega))
theorem adj_of_mem {l : List (Int × Int)} {i j : Nat} (h : ((i : Int), (j : Int)) ∈ l) : adj l i j = true := by
  unfold adj hasE
  exact List.any_eq_true.2 ⟨_, h, decide_eq_true (.inl ⟨rfl, rfl⟩)⟩
theorem roots_zero {u : List Int} : ∀ {k : Nat}, (∀ i, i < k → u.getD i 0 ≠ -1) → rootsN u k = 0
  | 0, _ => rfl
  | k + 1, h => by rw [rootsN, if_neg (h k (by omega)), roots_zero fun i hi => h i (by omega)]
section
variable {N : Nat} {G : Nat → Nat → Bool} {L ps : List Nat}
noncomputable abbrev bagsL (N : Nat) (G : Nat → Nat → Bool) (L : List Nat) : List (List Nat) := (List.range N).map (bagL N G L)
theorem bagsL_at {i : Nat} (hi : i < N) : (bagsL N G L).getD i [] = bagL N G L i := by
  rw [List.getD, List.getElem?_map, List.getElem?_range hi]; rfl
theorem hasB_iff {i v : Nat} (hi : i < N) : hasB (bagsL N G L) v i = true ↔ v < N ∧ (v = L.getD i 0 ∨ restL N G L i v = true) := by
  unfold hasB
  rw [bagsL_at hi, List.contains_iff_mem]
  unfold bagL
  rw [List.mem_filter, List.mem_range, Bool.or_eq_true, decide_eq_true_eq]
theorem ParOk.gt (hO : Ord N L) {i p : Nat} (hi : i < N) (h : ParOk N G L i p) : i < p := by
  rcases h with ⟨-, e⟩ | ⟨h1, h2, -⟩
  · omega
  · exact rest_later hO hi h1 h2
theorem up_at {i : Nat} (hl : ps.length = N) (hi : i < N) : (ps.map (upI N)).getD i 0 = upI N (ps.getD i 0) := by
  have h1 : i < ps.length := by omega
  simp [List.getD, h1]
theorem least_over {l : List (Int × Int)} (hG : Gr N (adj l)) (hok : ∀ j, j < l.length → EndsOk (N : Int) (l.getD j (0, 0)) ∧ (l.getD j (0, 0)).1 ≠ (l.getD j (0, 0)).2) (hO : Ord N L) (hl : ps.length = N)
    (hp : ∀ i, i < N → ParOk N (adj l) L i (ps.getD i 0) ∧ ps.getD i 0 ≤ N) : OverT N l (bagsL N (adj l) L) (ps.map (upI N)) := by
  have hbl : (bagsL N (adj l) L).length = N := by simp
  have hul : (ps.map (upI N)).length = N := by simp [hl]
  have hgt : ∀ i, i < N → i < ps.getD i 0 := fun i hi => (hp i hi).1.gt hO hi
  have hup : ∀ i, i < N → ps.getD i 0 < N → (ps.map (upI N)).getD i 0 = ((ps.getD i 0 : Nat) : Int) := fun i hi h => by
    rw [up_at hl hi, upI, if_neg (by omega)]
  have hlast : ∀ i, i < N → ps.getD i 0 = N → i + 1 = N := fun i hi e => by
    rcases (hp i hi).1 with ⟨-, e2⟩ | ⟨h1, -, -⟩
    · omega
    · omega
  have hadj : ∀ i, i < N → ps.getD i 0 < N → adj (linksL (ps.map (upI N)) N) i (ps.getD i 0) = true := fun i hi h => by
    refine adj_of_mem ?_
    have := links_mem (u := ps.map (upI N)) (i := i) (by rw [hup i hi h]; omega) hi
    rwa [hup i hi h] at this
  refine ⟨fun i hi => ?_, fun h0 => ?_, fun h0 => ?_, fun j hj => ?_, fun v hv => ?_⟩
  · rw [hul] at hi
    by_cases e : ps.getD i 0 = N
    · left; rw [up_at hl hi, upI, if_pos e]
    · right
      have h1 := (hp i hi).2
      rw [hup i hi (by omega), hul]
      have := hgt i hi
      exact ⟨by omega, by omega, by omega⟩
  · rw [hbl] at h0
    rw [hul]
    obtain ⟨n, rfl⟩ : ∃ n, N = n + 1 := ⟨N - 1, by omega⟩
    rw [rootsN, roots_zero fun i hi => ?_, if_pos ?_]
    · have h1 := hgt n (by omega)
      have h2 := (hp n (by omega)).2
      rw [up_at hl (by omega), upI, if_pos (by omega)]
    · have h2 := (hp i (by omega)).2
      have h3 : ps.getD i 0 ≠ n + 1 := fun e => by have := hlast i (by omega) e; omega
      rw [hup i (by omega) (by omega)]
      omega
  · rw [hbl] at h0
    rw [hul, hbl]
    refine parts_top (t := N - 1) (adj_sy _) (by omega) rfl fun i hi _ hit => ?_
    have h2 := (hp i hi).2
    have h3 : ps.getD i 0 ≠ N := fun e => by have := hlast i hi e; omega
    exact ⟨_, hgt i hi, by omega, rfl, hadj i hi (by omega)⟩
  · obtain ⟨⟨x0, y0, x1, y1⟩, hne⟩ := hok j hj
    obtain ⟨x, hx⟩ := Int.eq_ofNat_of_zero_le x0
    obtain ⟨y, hy⟩ := Int.eq_ofNat_of_zero_le y0
    have hxy : adj l x y = true := adj_of_mem (by
      have e : l.getD j (0, 0) = ((x : Int), (y : Int)) := Prod.ext hx hy
      rw [← e, List.getD, List.getElem?_eq_getElem hj]
      exact List.getElem_mem hj)
    rw [hx, hy]
    simp only [Int.toNat_natCast]
    obtain ⟨a, ha, ea⟩ := hO.all (v := x) (by omega)
    obtain ⟨b, hb, eb⟩ := hO.all (v := y) (by omega)
    rw [hbl]
    rcases Nat.lt_trichotomy a b with e | e | e
    · exact ⟨a, ha, (hasB_iff ha).2 ⟨by omega, .inl ea.symm⟩, (hasB_iff ha).2 ⟨by omega, .inr (by rw [← eb]; exact rest_edge hO ha hb e (by rw [ea, eb]; exact hxy))⟩⟩
    · subst e
      rw [ea] at eb
      exact absurd (show (l.getD j (0, 0)).1 = (l.getD j (0, 0)).2 by rw [hx, hy, eb]) hne
    · exact ⟨b, hb, (hasB_iff hb).2 ⟨by omega, .inr (by rw [← ea]; exact rest_edge hO hb ha e (by rw [ea, eb, adj_sy]; exact hxy))⟩, (hasB_iff hb).2 ⟨by omega, .inl eb.symm⟩⟩
  · obtain ⟨t, ht, et⟩ := hO.all hv
    rw [hbl, hul]
    have hsh : ∀ i, i < N → (shutB (bagsL N (adj l) L) v i = false ↔ (v = L.getD i 0 ∨ restL N (adj l) L i v = true)) := fun i hi => by
      unfold shutB
      rw [hbl, decide_eq_true hi, Bool.true_and, Bool.not_eq_false', hasB_iff hi]
      exact ⟨fun h => h.2, fun h => ⟨hv, h⟩⟩
    refine ⟨⟨t, ht, (hasB_iff ht).2 ⟨hv, .inl et.symm⟩⟩, parts_top (t := t) (adj_sy _) ht ((hsh t ht).2 (.inl et.symm)) fun i hi hs hit => ?_⟩
    rcases (hsh i hi).1 hs with e | hr
    · exact absurd (hO.inj hi ht (e.symm.trans et.symm)) hit
    · rw [← et] at hr
      rcases (hp i hi).1 with ⟨h1, -⟩ | ⟨h1, h2, h3⟩
      · have := h1 (L.getD t 0) (hO.at ht).1
        rw [hr] at this; cases this
      · have hle := h3 t ht hr
        refine ⟨_, hgt i hi, hle, (hsh _ h1).2 ?_, hadj i hi h1⟩
        rcases Nat.eq_or_lt_of_le hle with e | e
        · exact .inl (by rw [e, et])
        · exact .inr (by rw [← et]; exact rest_next hG hO hi h1 ht h2 hr e)
end
end Go.Proofs.YtnmljgjegodkaaaDoor
namespace Go.Proofs.YtnmljgjegodkaaaDoor
open Go.RowKit

/-- Climbing up. -/
def itU (u : List Int) (k : Int) : Nat → Int
  | 0 => k
  | s + 1 => u.getD (itU u k s).toNat 0
def InU (u : List Int) (k : Int) : Prop := 0 ≤ k ∧ k < (u.length : Int)
/-- One comes out. -/
def ClimbOk (u : List Int) (i : Nat) : Prop := ∃ s, s ≤ u.length + 1 ∧ itU u i s = -1 ∧ ∀ r, r < s → InU u (itU u i r)
theorem climb_no {u : List Int} {i s : Nat} (hr : ∀ r, r < s → InU u (itU u i r)) (hs : itU u i s ≠ -1) (h : ¬ InU u (itU u i s) ∨ u.length < s) : ¬ ClimbOk u i := by
  rintro ⟨t, h1, h2, h3⟩
  rcases Nat.lt_trichotomy t s with e | e | e
  · have := (hr t e).1
    omega
  · subst e; exact hs h2
  · rcases h with h | h
    · exact h (h3 s e)
    · omega
theorem itU_shift (u : List Int) (k : Int) : ∀ s, itU u k (s + 1) = itU u (u.getD k.toNat 0) s
  | 0 => rfl
  | s + 1 => by rw [itU, itU_shift u k s, itU]
/-- In s steps one is out. -/
inductive Clm (u : List Int) : Nat → Nat → Prop
  | top {i : Nat} : i < u.length → u.getD i 0 = -1 → Clm u i 1
  | up {i p s : Nat} : i < u.length → u.getD i 0 = (p : Int) → Clm u p s → Clm u i (s + 1)
theorem Clm.pos {u : List Int} {i s : Nat} (h : Clm u i s) : 1 ≤ s := by cases h <;> omega
theorem Clm.lt {u : List Int} {i s : Nat} (h : Clm u i s) : i < u.length := by cases h <;> assumption
theorem Clm.fn {u : List Int} {i s : Nat} (h : Clm u i s) : ∀ {t}, Clm u i t → s = t := by
  induction h with
  | top h1 h2 =>
    intro t k
    cases k with
    | top => rfl
    | up h3 h4 _ => omega
  | up h1 h2 _ ih =>
    intro t k
    cases k with
    | top h3 h4 => omega
    | @up _ q _ h3 h4 h5 =>
      have e : q = _ := Int.ofNat_inj.1 (h4.symm.trans h2)
      subst e
      rw [ih h5]
theorem clm_of {u : List Int} : ∀ {s : Nat} {i : Nat}, itU u i s = -1 → (∀ r, r < s → InU u (itU u i r)) → Clm u i s
  | 0, i, h, _ => by simp only [itU] at h; omega
  | s + 1, i, h, hr => by
    have h0 : InU u (i : Int) := hr 0 (by omega)
    have hi : i < u.length := by have := h0.2; omega
    rw [itU_shift, Int.toNat_natCast] at h
    by_cases e : u.getD i 0 = -1
    · cases s with
      | zero => exact .top hi e
      | succ s =>
        have := hr 1 (by omega)
        rw [itU_shift, Int.toNat_natCast, e] at this
        have := this.1
        simp only [itU] at this
        omega
    · cases s with
      | zero => simp only [itU] at h; exact absurd h e
      | succ s =>
        have h1 := hr 1 (by omega)
        rw [itU_shift, Int.toNat_natCast] at h1
        obtain ⟨p, hp⟩ := Int.eq_ofNat_of_zero_le (show 0 ≤ u.getD i 0 from h1.1)
        rw [hp] at h
        exact .up hi hp (clm_of h fun r hr2 => by
          have := hr (r + 1) (by omega)
          rwa [itU_shift, Int.toNat_natCast, hp] at this)
theorem Clm.it {u : List Int} {i s : Nat} (h : Clm u i s) : itU u i s = -1 ∧ ∀ r, r < s → InU u (itU u i r) := by
  induction h with
  | @top i h1 h2 =>
    refine ⟨by rw [itU_shift, Int.toNat_natCast, h2]; rfl, fun r hr => ?_⟩
    obtain rfl : r = 0 := by omega
    exact ⟨by simp only [itU]; omega, by simp only [itU]; omega⟩
  | @up i p s h1 h2 _ ih =>
    refine ⟨by rw [itU_shift, Int.toNat_natCast, h2]; exact ih.1, fun r hr => ?_⟩
    cases r with
    | zero => exact ⟨by simp only [itU]; omega, by simp only [itU]; omega⟩
    | succ r => rw [itU_shift, Int.toNat_natCast, h2]; exact ih.2 r (by omega)
theorem nodup_ltU : ∀ (n : Nat) (l : List Nat), l.Nodup → (∀ v ∈ l, v < n) → l.length ≤ n
  | 0, l, _, h => by
    cases l with
    | nil => simp
    | cons a t => exact absurd (h a (by simp)) (Nat.not_lt_zero _)
  | n + 1, l, hd, h => by
    have h1 := nodup_ltU n (l.filter fun v => decide (v ≠ n)) (hd.sublist List.filter_sublist) fun v hv => by
      rw [List.mem_filter, decide_eq_true_eq] at hv
      have := h v hv.1
      omega
    have h2 : l.length ≤ (l.filter fun v => decide (v ≠ n)).length + 1 := by
      clear h1 h
      induction l with
      | nil => simp
      | cons a t ih =>
        rw [List.nodup_cons] at hd
        by_cases e : a = n
        · subst e
          have : (t.filter fun v => decide (v ≠ a)) = t := List.filter_eq_self.2 fun v hv => by
            simp only [ne_eq, decide_not, Bool.not_eq_true', decide_eq_false_iff_not]
            intro e2; subst e2; exact hd.1 hv
          rw [List.filter_cons, if_neg (by simp), this, List.length_cons]
          omega
        · rw [List.filter_cons, if_pos (by simp [e])]
          have := ih hd.2
          simp only [List.length_cons]
          omega
    omega
theorem Clm.le {u : List Int} {i s : Nat} (h : Clm u i s) : s ≤ u.length := by
  have key : ∃ c : List Nat, c.length = s ∧ c.Nodup ∧ ∀ x ∈ c, x < u.length ∧ ∃ t, t ≤ s ∧ Clm u x t := by
    induction h with
    | @top i h1 h2 => exact ⟨[i], rfl, by simp, fun x hx => by rw [List.mem_singleton] at hx; subst hx; exact ⟨h1, 1, by omega, .top h1 h2⟩⟩
    | @up i p s h1 h2 h3 ih =>
      obtain ⟨c, e1, e2, e3⟩ := ih
      refine ⟨i :: c, by rw [List.length_cons, e1], List.nodup_cons.2 ⟨fun hm => ?_, e2⟩, fun x hx => ?_⟩
      · obtain ⟨-, t, h4, h5⟩ := e3 i hm
        have := (Clm.up h1 h2 h3).fn h5
        omega
      · rcases List.mem_cons.1 hx with rfl | hx
        · exact ⟨h1, s + 1, by omega, .up h1 h2 h3⟩
        · obtain ⟨a, t, h4, h5⟩ := e3 x hx
          exact ⟨a, t, by omega, h5⟩
  obtain ⟨c, e1, e2, e3⟩ := key
  rw [← e1]
  exact nodup_ltU _ c e2 fun v hv => (e3 v hv).1
theorem climb_iff {u : List Int} {i : Nat} : ClimbOk u i ↔ ∃ s, Clm u i s :=
  ⟨fun ⟨s, _, h2, h3⟩ => ⟨s, clm_of h2 h3⟩, fun ⟨s, h⟩ => ⟨s, by have := h.le; omega, h.it.1, h.it.2⟩⟩
theorem clm_up {u : List Int} {i s : Nat} (h : Clm u i s) : UpAt u i := by
  cases h with
  | top h1 h2 => exact .inl h2
  | @up _ p s h1 h2 h3 =>
    refine .inr ⟨by omega, by have := h3.lt; omega, fun e => ?_⟩
    obtain rfl : p = i := by omega
    have := (Clm.up h1 h2 h3).fn h3
    omega
theorem links_of {u : List Int} {p : Int × Int} : ∀ {k : Nat}, p ∈ linksL u k → ∃ i, i < k ∧ p = ((i : Int), u.getD i 0)
  | 0, h => by cases h
  | k + 1, h => by
    rw [linksL, List.mem_append] at h
    rcases h with h | h
    · obtain ⟨i, h1, h2⟩ := links_of h
      exact ⟨i, by omega, h2⟩
    · split at h
      · cases h
      · exact ⟨k, by omega, List.mem_singleton.1 h⟩
theorem adj_links {u : List Int} {M i j : Nat} (h : adj (linksL u M) i j = true) : (i < M ∧ u.getD i 0 = (j : Int)) ∨ (j < M ∧ u.getD j 0 = (i : Int)) := by
  unfold adj hasE at h
  obtain ⟨p, h1, h2⟩ := List.any_eq_true.1 h
  obtain ⟨k, h3, rfl⟩ := links_of h1
  rcases of_decide_eq_true h2 with ⟨a, b⟩ | ⟨a, b⟩
  · obtain rfl : k = i := by simp only at a; omega
    exact .inl ⟨h3, b⟩
  · obtain rfl : k = j := by simp only at a; omega
    exact .inr ⟨h3, b⟩
theorem links_adj {u : List Int} {M i p : Nat} (hi : i < M) (h : u.getD i 0 = (p : Int)) : adj (linksL u M) i p = true := by
  have := links_mem (u := u) (i := i) (by omega) hi
  rw [h] at this
  exact adj_of_mem this
/-- Above it there is none that is open. -/
def topB (u : List Int) (S : Nat → Bool) (i : Nat) : Bool := !S i && (decide (u.getD i 0 < 0) || S (u.getD i 0).toNat)
inductive Lad (u : List Int) (S : Nat → Bool) : Nat → Nat → Prop
  | top {i : Nat} : topB u S i = true → Lad u S i i
  | up {i p t : Nat} : S i = false → u.getD i 0 = (p : Int) → S p = false → Lad u S p t → Lad u S i t
section
variable {u : List Int} {S : Nat → Bool}
theorem topB_open {i : Nat} (h : topB u S i = true) : S i = false := by
  unfold topB at h
  rw [Bool.and_eq_true, Bool.not_eq_true'] at h
  exact h.1
theorem topB_not {i p : Nat} (h1 : u.getD i 0 = (p : Int)) (h2 : S p = false) : ¬ topB u S i = true := by
  unfold topB
  rw [h1, Int.toNat_natCast, h2, decide_eq_false (by omega), Bool.or_false, Bool.and_false]
  exact Bool.false_ne_true
theorem Lad.fn {i t : Nat} (h : Lad u S i t) : ∀ {t'}, Lad u S i t' → t = t' := by
  induction h with
  | top h1 =>
    intro t' k
    cases k with
    | top => rfl
    | up h2 h3 h4 h5 => exact absurd h1 (topB_not h3 h4)
  | up h1 h2 h3 _ ih =>
    intro t' k
    cases k with
    | top h4 => exact absurd h4 (topB_not h2 h3)
    | @up _ q _ h4 h5 h6 h7 =>
      have e : q = _ := Int.ofNat_inj.1 (h5.symm.trans h2)
      subst e
      exact ih h7
theorem Clm.lad {i s : Nat} (h : Clm u i s) : S i = false → ∃ t, t < u.length ∧ topB u S t = true ∧ Lad u S i t := by
  induction h with
  | @top i h1 h2 =>
    intro hs
    have ht : topB u S i = true := by unfold topB; rw [hs, h2]; rfl
    exact ⟨i, h1, ht, .top ht⟩
  | @up i p s h1 h2 h3 ih =>
    intro hs
    cases hp : S p with
    | true =>
      have ht : topB u S i = true := by unfold topB; rw [hs, h2, Int.toNat_natCast, hp, Bool.or_true]; rfl
      exact ⟨i, h1, ht, .top ht⟩
    | false =>
      obtain ⟨t, a, b, c⟩ := ih hp
      exact ⟨t, a, b, .up hs h2 hp c⟩
theorem Lad.rch (hc : ∀ i, i < u.length → ∃ s, Clm u i s) {i t : Nat} (h : Lad u S i t) : i < u.length → Rch u.length (adj (linksL u u.length)) S i t := by
  induction h with
  | top => exact fun _ => .refl
  | @up i p t h1 h2 h3 _ ih =>
    intro hi
    obtain ⟨s, hs⟩ := hc i hi
    have hp : p < u.length := by
      rcases clm_up hs with e | ⟨_, e, _⟩ <;> omega
    exact (Rch.step .refl hi hp (links_adj hi h2) h3).trans (ih hp)
theorem rch_lad {a b t : Nat} (h : Rch u.length (adj (linksL u u.length)) S a b) (ha : S a = false) (hl : Lad u S a t) : Lad u S b t := by
  induction h with
  | refl => exact hl
  | @step b c h1 h2 h3 h4 h5 ih =>
    have hb := h1.free ha
    rcases adj_links h4 with ⟨_, e⟩ | ⟨_, e⟩
    · cases ih with
      | top k => exact absurd k (topB_not e h5)
      | @up _ q _ k1 k2 k3 k4 =>
        obtain rfl : q = c := Int.ofNat_inj.1 (k2.symm.trans e)
        exact k4
    · exact .up h5 e hb ih
theorem tops_iff (hc : ∀ i, i < u.length → ∃ s, Clm u i s) : cnt (topB u S) u.length = 1 ↔ (∃ i, i < u.length ∧ S i = false) ∧ partsF u.length (adj (linksL u u.length)) S = 1 := by
  have sy : ∀ {a b}, S a = false → Rch u.length (adj (linksL u u.length)) S a b → Rch u.length (adj (linksL u u.length)) S b a := fun {a b} ha h => by
    induction h with
    | refl => exact .refl
    | @step b c h1 h2 h3 h4 h5 ih => exact (Rch.step .refl h3 h2 (by rw [adj_sy]; exact h4) (h1.free ha)).trans ih
  constructor
  · intro h
    obtain ⟨t, ht, htt⟩ := cnt_posW.1 (show cnt (topB u S) u.length ≠ 0 by omega)
    have hun : ∀ t', t' < u.length → topB u S t' = true → t' = t := fun t' h1 h2 => by
      rcases Nat.lt_trichotomy t' t with e | e | e
      · have := cnt_twoW e ht h2 htt; omega
      · exact e
      · have := cnt_twoW e h1 htt h2; omega
    have hall : ∀ i, i < u.length → S i = false → Rch u.length (adj (linksL u u.length)) S i t := fun i hi hs => by
      obtain ⟨s, hcl⟩ := hc i hi
      obtain ⟨t', a, b, c⟩ := hcl.lad hs
      obtain rfl := hun t' a b
      exact c.rch hc hi
    have hex : ∃ i, i < u.length ∧ S i = false := ⟨t, ht, topB_open htt⟩
    exact ⟨hex, (parts_oneW (adj_sy _) hex).2 fun a b ha hb hsa hsb => (hall a ha hsa).trans (sy hsb (hall b hb hsb))⟩
  · rintro ⟨hex, h⟩
    have hr := (parts_oneW (adj_sy _) hex).1 h
    obtain ⟨i, hi, hs⟩ := hex
    obtain ⟨s, hcl⟩ := hc i hi
    obtain ⟨t, a, b, c⟩ := hcl.lad hs
    refine cnt_oneW a b fun t' ht' hb' => ?_
    exact (Lad.top hb').fn (rch_lad (hr t t' a ht' (topB_open b) (topB_open hb')) (topB_open b) (Lad.top b))
theorem roots_cnt : ∀ k, rootsN u k = cnt (fun i => decide (u.getD i 0 = -1)) k
  | 0 => rfl
  | k + 1 => by rw [rootsN, cnt, roots_cnt k]; by_cases e : u.getD k 0 = -1 <;> simp [e]
theorem cnt_eqU {f g : Nat → Bool} : ∀ {k : Nat}, (∀ i, i < k → f i = g i) → cnt f k = cnt g k
  | 0, _ => rfl
  | k + 1, h => by rw [cnt, cnt, cnt_eqU fun i hi => h i (by omega), h k (by omega)]
theorem tree_iff : ((∀ i, i < u.length → ClimbOk u i) ∧ rootsN u u.length = min 1 u.length) ↔
    (∀ i, i < u.length → UpAt u i) ∧ (0 < u.length → rootsN u u.length = 1) ∧ (0 < u.length → partsF u.length (adj (linksL u u.length)) (fun _ => false) = 1) := by
  constructor
  · rintro ⟨h1, h2⟩
    have hc : ∀ i, i < u.length → ∃ s, Clm u i s := fun i hi => climb_iff.1 (h1 i hi)
    refine ⟨fun i hi => (hc i hi).elim fun s h => clm_up h, fun h0 => by omega, fun h0 => ((tops_iff (S := fun _ => false) hc).1 ?_).2⟩
    have h3 : rootsN u u.length = 1 := by omega
    rw [← h3, roots_cnt]
    refine cnt_eqU fun i hi => ?_
    obtain ⟨s, hs⟩ := hc i hi
    unfold topB
    rcases clm_up hs with e | ⟨e1, e2, e3⟩
    · rw [e]; rfl
    · rw [decide_eq_false (by omega), decide_eq_false (by omega)]; rfl
  · rintro ⟨h1, h2, h3⟩
    rcases Nat.eq_zero_or_pos u.length with e | h0
    · exact ⟨fun i hi => absurd hi (by omega), by rw [e]; rfl⟩
    refine ⟨fun i hi => climb_iff.2 ?_, by have := h2 h0; omega⟩
    have h4 := h2 h0
    rw [roots_cnt] at h4
    obtain ⟨r, hr, hrt⟩ := cnt_posW.1 (show cnt (fun i => decide (u.getD i 0 = -1)) u.length ≠ 0 by omega)
    have hrt := of_decide_eq_true hrt
    have hrch := (parts_oneW (adj_sy _) ⟨r, hr, rfl⟩).1 (h3 h0) r i hr hi rfl rfl
    induction hrch with
    | refl => exact ⟨1, .top hr hrt⟩
    | @step b c k1 k2 k3 k4 k5 ih =>
      obtain ⟨s, hs⟩ := ih k2
      rcases adj_links k4 with ⟨_, e⟩ | ⟨_, e⟩
      · cases hs with
        | top g1 g2 => omega
        | @up _ q s g1 g2 g3 =>
          obtain rfl : q = c := Int.ofNat_inj.1 (g2.symm.trans e)
          exact ⟨s, g3⟩
      · exact ⟨s + 1, .up k3 e hs⟩
end
/-- Bags with v above which there is none with it. -/
def topH (bs : List (List Nat)) (u : List Int) (v i : Nat) : Bool := hasB bs v i && (decide (u.getD i 0 < 0) || !hasB bs v (u.getD i 0).toNat)
/-- What Fits asks. -/
structure FitT (N : Nat) (l : List (Int × Int)) (bs : List (List Nat)) (u : List Int) : Prop where
  climb : ∀ i, i < u.length → ClimbOk u i
  root : rootsN u u.length = min 1 u.length
  edge : ∀ j, j < l.length → ∃ i, i < bs.length ∧ hasB bs (l.getD j (0, 0)).1.toNat i = true ∧ hasB bs (l.getD j (0, 0)).2.toNat i = true
  node : ∀ v, v < N → cnt (topH bs u v) bs.length = 1
theorem fits_over {N : Nat} {l : List (Int × Int)} {bs : List (List Nat)} {u : List Int} (hul : u.length = bs.length) : FitT N l bs u ↔ OverT N l bs u := by
  have key : (∀ i, i < u.length → ClimbOk u i) → ∀ v, (cnt (topH bs u v) bs.length = 1 ↔ (∃ i, i < bs.length ∧ hasB bs v i = true) ∧ partsF bs.length (adj (linksL u u.length)) (shutB bs v) = 1) := fun h v => by
    have hc : ∀ i, i < u.length → ∃ s, Clm u i s := fun i hi => climb_iff.1 (h i hi)
    have h1 := tops_iff (S := shutB bs v) hc
    have h2 : cnt (topB u (shutB bs v)) u.length = cnt (topH bs u v) bs.length := by
      rw [hul]
      refine cnt_eqU fun i hi => ?_
      unfold topB topH shutB
      obtain ⟨s, hs⟩ := hc i (by omega)
      rw [decide_eq_true hi, Bool.true_and, Bool.not_not]
      rcases clm_up hs with e | ⟨e1, e2, e3⟩
      · rw [e]; rfl
      · rw [decide_eq_true (show (u.getD i 0).toNat < bs.length by omega), Bool.true_and]
    rw [h2, hul] at h1
    rw [h1, hul]
    refine and_congr ⟨?_, ?_⟩ Iff.rfl
    · rintro ⟨i, a, b⟩
      unfold shutB at b
      rw [decide_eq_true a, Bool.true_and, Bool.not_eq_false'] at b
      exact ⟨i, a, b⟩
    · rintro ⟨i, a, b⟩
      exact ⟨i, a, by unfold shutB; rw [b, Bool.not_true, Bool.and_false]⟩
  constructor
  · intro h
    obtain ⟨a, b, c⟩ := tree_iff.1 ⟨h.climb, h.root⟩
    exact ⟨a, fun h0 => b (by omega), fun h0 => by rw [← hul]; exact c (by omega), h.edge, fun v hv => (key h.climb v).1 (h.node v hv)⟩
  · intro h
    obtain ⟨a, b⟩ := tree_iff.2 ⟨h.up, fun h0 => h.root (by omega), fun h0 => by have := h.one (by omega); rw [← hul] at this; exact this⟩
    exact ⟨a, b, h.edge, fun v hv => (key a v).2 (h.node v hv)⟩
end Go.Proofs.YtnmljgjegodkaaaDoor
namespace Go.Proofs.YtnmljgjegodkaaaDoor
open Go.RowKit

/-- j hangs at k. -/
inductive Hng (u : List Int) (k : Nat) : Nat → Prop
  | refl : Hng u k k
  | step {j p : Nat} : j < u.length → u.getD j 0 = (p : Int) → Hng u k p → Hng u k j
section
variable {u : List Int}
theorem Hng.up {k p j : Nat} (h : Hng u k j) (hk : k < u.length) (hp : u.getD k 0 = (p : Int)) : Hng u p j := by
  induction h with
  | refl => exact .step hk hp .refl
  | step h1 h2 _ ih => exact .step h1 h2 ih
theorem Hng.lin {k k' m : Nat} (h : Hng u k m) : Hng u k' m → Hng u k k' ∨ Hng u k' k := by
  induction h with
  | refl => exact fun h => .inr h
  | @step j p h1 h2 h3 ih =>
    intro h
    cases h with
    | refl => exact .inl (.step h1 h2 h3)
    | @step _ q h4 h5 h6 =>
      obtain rfl : q = p := Int.ofNat_inj.1 (h5.symm.trans h2)
      exact ih h6
theorem Hng.deep {k j d : Nat} (h : Hng u k j) (hd : Clm u k d) : ∃ e, Clm u j e ∧ d ≤ e ∧ (j ≠ k → d < e) := by
  induction h with
  | refl => exact ⟨d, hd, Nat.le_refl _, fun h => absurd rfl h⟩
  | @step j p h1 h2 h3 ih =>
    obtain ⟨e, a, b, _⟩ := ih
    exact ⟨e + 1, .up h1 h2 a, by omega, fun _ => by omega⟩
theorem Hng.kid {k j : Nat} (h : Hng u k j) : j = k ∨ ∃ c, c < u.length ∧ u.getD c 0 = (k : Int) ∧ Hng u c j := by
  induction h with
  | refl => exact .inl rfl
  | @step j p h1 h2 h3 ih =>
    right
    rcases ih with rfl | ⟨c, a, b, d⟩
    · exact ⟨j, h1, h2, .refl⟩
    · exact ⟨c, a, b, .step h1 h2 d⟩
theorem Hng.lt {k j : Nat} (h : Hng u k j) (hk : k < u.length) : j < u.length := by cases h <;> assumption
theorem kid_clm {i k d : Nat} (h : Clm u k d) (e : u.getD k 0 = (i : Int)) : ∃ s, d = s + 1 ∧ Clm u i s := by
  cases h with
  | top h1 h2 => omega
  | @up _ q s h1 h2 h3 =>
    obtain rfl : q = i := Int.ofNat_inj.1 (h2.symm.trans e)
    exact ⟨s, rfl, h3⟩
theorem hng_one {i k k' m : Nat} (hc : ∀ i, i < u.length → ∃ s, Clm u i s) (hk : k < u.length) (hk' : k' < u.length) (e : u.getD k 0 = (i : Int)) (e' : u.getD k' 0 = (i : Int)) (h : Hng u k m) (h' : Hng u k' m) : k = k' := by
  obtain ⟨d, hd⟩ := hc k hk
  obtain ⟨d', hd'⟩ := hc k' hk'
  obtain ⟨s, rfl, hs⟩ := kid_clm hd e
  obtain ⟨s', rfl, hs'⟩ := kid_clm hd' e'
  obtain rfl := hs.fn hs'
  by_cases hne : k = k'
  · exact hne
  · rcases h.lin h' with g | g
    · obtain ⟨x, a, b, c⟩ := g.deep hd
      have := c (Ne.symm hne)
      have := a.fn hd'
      omega
    · obtain ⟨x, a, b, c⟩ := g.deep hd'
      have := c hne
      have := a.fn hd
      omega
theorem not_hng_up {i k : Nat} (hc : ∀ i, i < u.length → ∃ s, Clm u i s) (hk : k < u.length) (e : u.getD k 0 = (i : Int)) : ¬ Hng u k i := fun h => by
  obtain ⟨d, hd⟩ := hc k hk
  obtain ⟨s, rfl, hs⟩ := kid_clm hd e
  obtain ⟨x, a, b, -⟩ := h.deep hd
  have := a.fn hs
  omega
theorem Lad.hng {S : Nat → Bool} {k j t : Nat} (hup : ∀ i, i < u.length → UpAt u i) (h : Lad u S j t) : j < u.length → Hng u k t → Hng u k j := by
  induction h with
  | top => exact fun _ h => h
  | @up i p t h1 h2 h3 _ ih =>
    intro hi h
    exact .step hi h2 (ih (by rcases hup i hi with e | ⟨_, e, _⟩ <;> omega) h)
end
theorem open_has {bs : List (List Nat)} {v p : Nat} (h : shutB bs v p = false) (hp : p < bs.length) : hasB bs v p = true := by
  unfold shutB at h
  rw [decide_eq_true hp, Bool.true_and, Bool.not_eq_false'] at h
  exact h
theorem has_open {bs : List (List Nat)} {v p : Nat} (h : hasB bs v p = true) : shutB bs v p = false := by
  unfold shutB
  rw [h, Bool.not_true, Bool.and_false]
theorem lad_bags {u : List Int} {bs : List (List Nat)} {v k j t : Nat} (hul : u.length = bs.length) (hup : ∀ i, i < u.length → UpAt u i) (h : Hng u k j) :
    j < u.length → hasB bs v j = true → Lad u (shutB bs v) j t → ¬ Hng u k t → hasB bs v k = true ∧ ∀ p : Nat, u.getD k 0 = (p : Int) → hasB bs v p = true := by
  induction h with
  | refl =>
    intro hk hv hl hn
    refine ⟨hv, fun p hp => ?_⟩
    cases hl with
    | top => exact absurd .refl hn
    | @up _ q _ h1 h2 h3 h4 =>
      obtain rfl : q = p := Int.ofNat_inj.1 (h2.symm.trans hp)
      exact open_has h3 (by rcases hup k hk with e | ⟨_, e, _⟩ <;> omega)
  | @step j q h1 h2 h3 ih =>
    intro hj hv hl hn
    cases hl with
    | top => exact absurd (.step h1 h2 h3) hn
    | @up _ q' _ g1 g2 g3 g4 =>
      obtain rfl : q' = q := Int.ofNat_inj.1 (g2.symm.trans h2)
      have hq : q' < u.length := by rcases hup j hj with e | ⟨_, e, _⟩ <;> omega
      exact ih hq (open_has g3 (by omega)) g4 hn
theorem top_eq {u : List Int} {bs : List (List Nat)} {v i : Nat} (hul : u.length = bs.length) (hi : i < bs.length) (h : UpAt u i) : topB u (shutB bs v) i = topH bs u v i := by
  unfold topB topH shutB
  rw [decide_eq_true hi, Bool.true_and, Bool.not_not]
  rcases h with e | ⟨e1, e2, e3⟩
  · rw [e]; rfl
  · rw [decide_eq_true (show (u.getD i 0).toNat < bs.length by omega), Bool.true_and]
section
variable {N : Nat} {l : List (Int × Int)} {bs : List (List Nat)} {u : List Int}
theorem FitT.clm (hF : FitT N l bs u) : ∀ i, i < u.length → ∃ s, Clm u i s := fun i hi => climb_iff.1 (hF.climb i hi)
theorem FitT.ups (hF : FitT N l bs u) : ∀ i, i < u.length → UpAt u i := fun i hi => (hF.clm i hi).elim fun _ h => clm_up h
/-- What lies inside and outside of a part that hangs lies at its top and above it. -/
theorem FitT.bag_up (hF : FitT N l bs u) (hul : u.length = bs.length) {v k j m : Nat} (hv : v < N) (hj : j < bs.length) (hm : m < bs.length) (h1 : hasB bs v j = true) (h2 : hasB bs v m = true) (hk : Hng u k j) (hn : ¬ Hng u k m) :
    hasB bs v k = true ∧ ∀ p : Nat, u.getD k 0 = (p : Int) → hasB bs v p = true := by
  obtain ⟨s, hs⟩ := hF.clm j (by omega)
  obtain ⟨s', hs'⟩ := hF.clm m (by omega)
  obtain ⟨t, a, b, c⟩ := hs.lad (has_open h1)
  obtain ⟨t', a', b', c'⟩ := hs'.lad (has_open h2)
  have hone := hF.node v hv
  have e : t = t' := by
    rw [top_eq hul (by omega) (hF.ups t a)] at b
    rw [top_eq hul (by omega) (hF.ups t' a')] at b'
    rcases Nat.lt_trichotomy t t' with g | g | g
    · have := cnt_twoW (n := bs.length) g (by omega) b b'; omega
    · exact g
    · have := cnt_twoW (n := bs.length) g (by omega) b' b; omega
  subst e
  exact lad_bags hul hF.ups hk (by omega) h1 c fun h => hn (c'.hng hF.ups (by omega) h)
/-- The nodes of a part that hangs. -/
def InV (bs : List (List Nat)) (u : List Int) (k v : Nat) : Prop := ∃ j, j < bs.length ∧ Hng u k j ∧ hasB bs v j = true
theorem InV.own {i v : Nat} (hi : i < bs.length) (h : hasB bs v i = true) : InV bs u i v := ⟨i, hi, .refl, h⟩
theorem InV.up {i k v : Nat} (h : InV bs u k v) (hk : k < u.length) (e : u.getD k 0 = (i : Int)) : InV bs u i v := by
  obtain ⟨j, a, b, c⟩ := h
  exact ⟨j, a, b.up hk e, c⟩
theorem InV.kid {i v : Nat} (h : InV bs u i v) : hasB bs v i = true ∨ ∃ k, k < u.length ∧ u.getD k 0 = (i : Int) ∧ InV bs u k v := by
  obtain ⟨j, a, b, c⟩ := h
  rcases b.kid with rfl | ⟨k, d, e, f⟩
  · exact .inl c
  · exact .inr ⟨k, d, e, j, a, f, c⟩
theorem FitT.meet_up (hF : FitT N l bs u) (hul : u.length = bs.length) {i k v : Nat} (hv : v < N) (hi : i < bs.length) (hk : k < u.length) (e : u.getD k 0 = (i : Int)) (h : InV bs u k v) (h2 : hasB bs v i = true) : hasB bs v k = true := by
  obtain ⟨j, a, b, c⟩ := h
  exact (hF.bag_up hul hv a hi c h2 b (not_hng_up hF.clm hk e)).1
theorem FitT.meet_two (hF : FitT N l bs u) (hul : u.length = bs.length) {i k k' v : Nat} (hv : v < N) (hk : k < u.length) (hk' : k' < u.length) (e : u.getD k 0 = (i : Int)) (e' : u.getD k' 0 = (i : Int)) (hne : k ≠ k') (h : InV bs u k v) (h' : InV bs u k' v) : hasB bs v i = true := by
  obtain ⟨j, a, b, c⟩ := h
  obtain ⟨m, a', b', c'⟩ := h'
  exact (hF.bag_up hul hv a a' c c' b fun g => hne (hng_one hF.clm hk hk' e e' g b')).2 i e
theorem FitT.meet_out (hF : FitT N l bs u) (hul : u.length = bs.length) {i j v : Nat} (hv : v < N) (hj : j < bs.length) (hn : ¬ Hng u i j) (h : InV bs u i v) (h2 : hasB bs v j = true) : hasB bs v i = true := by
  obtain ⟨m, a, b, c⟩ := h
  exact (hF.bag_up hul hv a hj c h2 b hn).1
theorem clm_root {i s : Nat} (h : Clm u i s) : ∃ r, r < u.length ∧ u.getD r 0 = -1 ∧ Hng u r i := by
  induction h with
  | @top i h1 h2 => exact ⟨i, h1, h2, .refl⟩
  | @up i p s h1 h2 _ ih =>
    obtain ⟨r, a, b, c⟩ := ih
    exact ⟨r, a, b, .step h1 h2 c⟩
theorem FitT.all_in (hF : FitT N l bs u) (hul : u.length = bs.length) {r v : Nat} (hr : r < u.length) (e : u.getD r 0 = -1) (hv : v < N) : InV bs u r v := by
  have h1 := hF.node v hv
  obtain ⟨j, hj, ht⟩ := cnt_posW.1 (show cnt (topH bs u v) bs.length ≠ 0 by omega)
  have hb : hasB bs v j = true := by
    unfold topH at ht
    rw [Bool.and_eq_true] at ht
    exact ht.1
  obtain ⟨s, hs⟩ := hF.clm j (by omega)
  obtain ⟨r', a, b, c⟩ := clm_root hs
  have h2 := hF.root
  rw [roots_cnt] at h2
  have e2 : r = r' := by
    rcases Nat.lt_trichotomy r r' with g | g | g
    · have := cnt_twoW (n := u.length) (I := fun i => decide (u.getD i 0 = -1)) g a (decide_eq_true e) (decide_eq_true b); omega
    · exact g
    · have := cnt_twoW (n := u.length) (I := fun i => decide (u.getD i 0 = -1)) g hr (decide_eq_true b) (decide_eq_true e); omega
  subst e2
  exact ⟨j, hj, c, hb⟩
end
end Go.Proofs.YtnmljgjegodkaaaDoor
namespace Go.Proofs.YtnmljgjegodkaaaDoor
open Go.RowKit

open Classical in
/-- What a set of nodes weighs. -/
noncomputable def nS (W : Nat → Int) (N : Nat) (X : Nat → Prop) : Int := sumI (fun v => if X v then W v else 0) N
section
variable {W : Nat → Int} {N : Nat}
theorem nS_congr {X Y : Nat → Prop} (h : ∀ v, v < N → (X v ↔ Y v)) : nS W N X = nS W N Y := sumI_congr fun v hv => by
  by_cases e : X v
  · rw [if_pos e, if_pos ((h v hv).1 e)]
  · rw [if_neg e, if_neg fun k => e ((h v hv).2 k)]
theorem nS_or (X Y : Nat → Prop) : nS W N (fun v => X v ∨ Y v) + nS W N (fun v => X v ∧ Y v) = nS W N X + nS W N Y := by
  unfold nS
  rw [← sumI_add, ← sumI_add]
  refine sumI_congr fun v _ => ?_
  by_cases h1 : X v <;> by_cases h2 : Y v <;> simp [h1, h2]
theorem nS_none {X : Nat → Prop} (h : ∀ v, v < N → ¬ X v) : nS W N X = 0 := sumI_none fun v hv => if_neg (h v hv)
theorem nS_one {x : Nat} (hx : x < N) : nS W N (fun v => v = x) = W x := by
  unfold nS
  exact (sumI_one hx fun i _ h => if_neg h).trans (if_pos rfl)
theorem nS_bound {X : Nat → Prop} (h : ∀ v, v < N → -1000000 ≤ W v ∧ W v ≤ 1000000) : -((N : Int) * 1000000) ≤ nS W N X ∧ nS W N X ≤ (N : Int) * 1000000 := by
  unfold nS
  induction N with
  | zero => simp [sumI]
  | succ n ih =>
    have h1 := ih fun v hv => h v (by omega)
    have h2 := h n (by omega)
    rw [sumI]
    by_cases e : X n
    · rw [if_pos e]; omega
    · rw [if_neg e]; omega
/-- A sum over a list's places is a sum over nodes. -/
theorem lsum_nS {b : List Nat} (g : Nat → Prop) (hn : b.Nodup) (hb : ∀ v ∈ b, v < N) (c : Nat → Prop) [DecidablePred c] (hc : ∀ j, j < b.length → (c j ↔ g (b.getD j 0))) :
    sumI (fun j => if c j then W (b.getD j 0) else 0) b.length = nS W N (fun v => v ∈ b ∧ g v) := by
  have key : ∀ q, q ≤ b.length → sumI (fun j => if c j then W (b.getD j 0) else 0) q = nS W N (fun v => v ∈ b.take q ∧ g v) := by
    intro q
    induction q with
    | zero => intro _; rw [sumI, nS_none]; intro v _ h; simp at h
    | succ q ih =>
      intro hq
      have hql : q < b.length := by omega
      have e : b.getD q 0 = b[q] := by rw [List.getD, List.getElem?_eq_getElem hql]; rfl
      have hx : b[q] < N := hb _ (List.getElem_mem hql)
      have hnm : b[q] ∉ b.take q := fun h => by
        obtain ⟨i, hi, hg⟩ := List.getElem_of_mem h
        rw [List.length_take] at hi
        rw [List.getElem_take] at hg
        exact (List.pairwise_iff_getElem.1 hn) i q (by omega) hql (by omega) hg
      rw [sumI, ih (by omega)]
      by_cases hg : g b[q]
      · rw [if_pos ((hc q hql).2 (by rw [e]; exact hg))]
        have h1 := nS_or (W := W) (N := N) (fun v => v ∈ b.take q ∧ g v) (fun v => v = b[q])
        rw [nS_none (X := fun v => (v ∈ b.take q ∧ g v) ∧ v = b[q]) (fun v _ h => hnm (h.2 ▸ h.1.1)), nS_one hx] at h1
        rw [e, ← h1]
        simp only [Int.add_zero]
        refine nS_congr fun v _ => ?_
        rw [List.take_succ_eq_append_getElem hql, List.mem_append, List.mem_singleton]
        constructor
        · rintro (⟨h, k⟩ | rfl)
          · exact ⟨.inl h, k⟩
          · exact ⟨.inr rfl, hg⟩
        · rintro ⟨h | rfl, k⟩
          · exact .inl ⟨h, k⟩
          · exact .inr rfl
      · rw [if_neg fun h => hg (by rw [← e]; exact (hc q hql).1 h), Int.add_zero]
        refine nS_congr fun v _ => ?_
        rw [List.take_succ_eq_append_getElem hql, List.mem_append, List.mem_singleton]
        constructor
        · exact fun h => ⟨.inl h.1, h.2⟩
        · rintro ⟨h | rfl, k⟩
          · exact ⟨h, k⟩
          · exact absurd k hg
  rw [key _ (Nat.le_refl _), List.take_length]
end

/-- Chosen by a number. -/
def SelP (b : List Nat) (s v : Nat) : Prop := ∃ j, j < b.length ∧ b.getD j 0 = v ∧ s.testBit j = true
def LooseM (G : Nat → Nat → Bool) (b : List Nat) (s : Nat) : Prop := ∀ i j, i < b.length → j < i → ¬ (s.testBit i = true ∧ s.testBit j = true ∧ G (b.getD i 0) (b.getD j 0) = true)
def AgreeM (a b : List Nat) (s t : Nat) : Prop := ∀ i j, i < a.length → j < b.length → a.getD i 0 = b.getD j 0 → s.testBit i = t.testBit j
def wsum (W : Nat → Int) (b : List Nat) (s : Nat) : Int := sumI (fun j => if s.testBit j = true then W (b.getD j 0) else 0) b.length
def bothW (W : Nat → Int) (a b : List Nat) (s : Nat) : Int := sumI (fun j => if s.testBit j = true ∧ a.getD j 0 ∈ b then W (a.getD j 0) else 0) a.length
/-- The least place of the greatest value. -/
structure IsBst (p : Nat → Prop) (f : Nat → Int) (n t : Nat) : Prop where
  lt : t < n
  ok : p t
  max : ∀ t', t' < n → p t' → f t' < f t ∨ (f t' = f t ∧ t ≤ t')
theorem IsBst.uniq {p : Nat → Prop} {f : Nat → Int} {n t t' : Nat} (h : IsBst p f n t) (h' : IsBst p f n t') : t = t' := by
  rcases h.max t' h'.lt h'.ok with a | ⟨a, b⟩ <;> rcases h'.max t h.lt h.ok with c | ⟨c, d⟩ <;> omega
theorem bst_ex {p : Nat → Prop} {f : Nat → Int} : ∀ {n : Nat}, (∃ t, t < n ∧ p t) → ∃ t, IsBst p f n t
  | 0, ⟨t, h, _⟩ => absurd h (Nat.not_lt_zero _)
  | n + 1, ⟨t, h, k⟩ => by
    by_cases hb : ∃ t, t < n ∧ p t
    · obtain ⟨b, hb⟩ := bst_ex (f := f) hb
      by_cases hn : p n ∧ f b < f n
      · refine ⟨n, by omega, hn.1, fun t' h1 h2 => ?_⟩
        by_cases e : t' = n
        · subst e; exact .inr ⟨rfl, Nat.le_refl _⟩
        · rcases hb.max t' (by omega) h2 with a | ⟨a, _⟩
          · exact .inl (by omega)
          · exact .inl (by omega)
      · refine ⟨b, by have := hb.lt; omega, hb.ok, fun t' h1 h2 => ?_⟩
        by_cases e : t' = n
        · subst e
          have h3 : ¬ f b < f t' := fun k => hn ⟨h2, k⟩
          have := hb.lt
          by_cases h4 : f t' = f b
          · exact .inr ⟨h4, by omega⟩
          · exact .inl (by omega)
        · exact hb.max t' (by omega) h2
    · have e : t = n := by
        by_cases e : t = n
        · exact e
        · exact absurd ⟨t, by omega, k⟩ hb
      subst e
      refine ⟨t, by omega, k, fun t' h1 h2 => ?_⟩
      by_cases e : t' = t
      · subst e; exact .inr ⟨rfl, Nat.le_refl _⟩
      · exact absurd ⟨t', by omega, h2⟩ hb
open Classical in
noncomputable def bst (p : Nat → Prop) (f : Nat → Int) (n : Nat) : Nat := if h : ∃ t, IsBst p f n t then Classical.choose h else 0
theorem bst_is {p : Nat → Prop} {f : Nat → Int} {n : Nat} (h : ∃ t, t < n ∧ p t) : IsBst p f n (bst p f n) := by
  have h1 := bst_ex (f := f) h
  unfold bst
  rw [dif_pos h1]
  exact Classical.choose_spec h1
section
variable (G : Nat → Nat → Bool) (W : Nat → Int) (bs : List (List Nat)) (u : List Int)
abbrev bagA (bs : List (List Nat)) (i : Nat) : List Nat := bs.getD i []
/-- The choice below that goes best with one above. -/
noncomputable def chT (i s k : Nat) (T : Nat → Int) : Nat := bst (fun t => LooseM G (bagA bs k) t ∧ AgreeM (bagA bs i) (bagA bs k) s t) (fun t => T t - bothW W (bagA bs i) (bagA bs k) s) (2 ^ (bagA bs k).length)
noncomputable def chV (i s k : Nat) (T : Nat → Int) : Int := T (chT G W bs i s k T) - bothW W (bagA bs i) (bagA bs k) s
noncomputable def tF : Nat → Nat → Nat → Int
  | 0, _, _ => 0
  | f + 1, i, s => wsum W (bagA bs i) s + sumI (fun k => if u.getD k 0 = (i : Int) then chV G W bs i s k (tF f k) else 0) bs.length
/-- The best sums. -/
def TOk (T : Nat → Nat → Int) : Prop := ∀ i, i < bs.length → ∀ s, T i s = wsum W (bagA bs i) s + sumI (fun k => if u.getD k 0 = (i : Int) then chV G W bs i s k (T k) else 0) bs.length
/-- The nodes chosen. -/
inductive Dn (T : Nat → Nat → Int) : Nat → Nat → Nat → Prop
  | sel {i s v : Nat} : SelP (bagA bs i) s v → Dn T i s v
  | kid {i s k v : Nat} : k < bs.length → u.getD k 0 = (i : Int) → Dn T k (chT G W bs i s k (T k)) v → Dn T i s v
end
section
variable {N : Nat} {l : List (Int × Int)} {bs : List (List Nat)} {u : List Int} {G : Nat → Nat → Bool} {W : Nat → Int}
theorem tF_still (hul : u.length = bs.length) : ∀ (f f' i d : Nat), Clm u i d → bs.length + 1 ≤ f + d → bs.length + 1 ≤ f' + d → tF G W bs u f i = tF G W bs u f' i
  | 0, _, _, d, h, h1, _ => by have := h.le; omega
  | f + 1, 0, _, d, h, _, h2 => by have := h.le; omega
  | f + 1, f' + 1, i, d, h, h1, h2 => by
    funext s
    rw [tF, tF]
    refine congrArg _ (sumI_congr fun k hk => ?_)
    by_cases e : u.getD k 0 = (i : Int)
    · rw [if_pos e, if_pos e, tF_still hul f f' k (d + 1) (.up (by omega) e h) (by omega) (by omega)]
    · rw [if_neg e, if_neg e]
theorem tOk_ex (hul : u.length = bs.length) (hc : ∀ i, i < u.length → ∃ s, Clm u i s) : ∃ T, TOk G W bs u T := by
  refine ⟨tF G W bs u (bs.length + 1), fun i hi s => ?_⟩
  rw [tF]
  refine congrArg _ (sumI_congr fun k hk => ?_)
  by_cases e : u.getD k 0 = (i : Int)
  · obtain ⟨d, hd⟩ := hc k (by omega)
    obtain ⟨s', rfl, hs⟩ := kid_clm hd e
    have := hs.pos
    rw [if_pos e, if_pos e, tF_still hul bs.length (bs.length + 1) k (s' + 1) hd (by omega) (by omega)]
  · rw [if_neg e, if_neg e]
theorem hasB_mem {v i : Nat} : hasB bs v i = true ↔ v ∈ bagA bs i := by unfold hasB; rw [List.contains_iff_mem]
theorem sel_mem {b : List Nat} {s v : Nat} (h : SelP b s v) : v ∈ b := by
  obtain ⟨j, h1, h2, _⟩ := h
  rw [← h2, List.getD, List.getElem?_eq_getElem h1]
  exact List.getElem_mem h1
theorem getD_inj {b : List Nat} (hn : b.Nodup) {i j : Nat} (hi : i < b.length) (hj : j < b.length) (e : b.getD i 0 = b.getD j 0) : i = j := by
  rw [List.getD, List.getD, List.getElem?_eq_getElem hi, List.getElem?_eq_getElem hj] at e
  rcases Nat.lt_trichotomy i j with g | g | g
  · exact absurd e ((List.pairwise_iff_getElem.1 hn) i j hi hj g)
  · exact g
  · exact absurd e.symm ((List.pairwise_iff_getElem.1 hn) j i hj hi g)
theorem sel_bit {b : List Nat} (hn : b.Nodup) {s j : Nat} (hj : j < b.length) : SelP b s (b.getD j 0) ↔ s.testBit j = true :=
  ⟨fun ⟨i, h1, h2, h3⟩ => by rw [← getD_inj hn h1 hj h2]; exact h3, fun h => ⟨j, hj, rfl, h⟩⟩
theorem mem_at {b : List Nat} {v : Nat} (h : v ∈ b) : ∃ j, j < b.length ∧ b.getD j 0 = v := by
  obtain ⟨j, hj, e⟩ := List.getElem_of_mem h
  exact ⟨j, hj, by rw [List.getD, List.getElem?_eq_getElem hj]; exact e⟩
theorem at_mem {b : List Nat} {j : Nat} (h : j < b.length) : b.getD j 0 ∈ b := by
  rw [List.getD, List.getElem?_eq_getElem h]
  exact List.getElem_mem h
open Classical in
/-- The number of a set, at a bag. -/
noncomputable def mskP (b : List Nat) (X : Nat → Prop) : Nat := maskOf (fun j => decide (X (b.getD j 0))) b.length
open Classical in
theorem mskP_bit {b : List Nat} {X : Nat → Prop} {j : Nat} (hj : j < b.length) : (mskP b X).testBit j = true ↔ X (b.getD j 0) := by
  unfold mskP
  rw [maskOf_bit, decide_eq_true hj, Bool.true_and, decide_eq_true_eq]
open Classical in
theorem mskP_lt {b : List Nat} {X : Nat → Prop} : mskP b X < 2 ^ b.length := few_of_bit fun i hi => by
  unfold mskP at hi
  rw [maskOf_bit, Bool.and_eq_true, decide_eq_true_eq] at hi
  exact hi.1
theorem mskP_loose {b : List Nat} {X : Nat → Prop} (h : ∀ x y, X x → X y → G x y = false) : LooseM G b (mskP b X) := fun i j hi hj ⟨h1, h2, h3⟩ => by
  rw [mskP_bit hi] at h1
  rw [mskP_bit (by omega)] at h2
  rw [h _ _ h1 h2] at h3
  cases h3
theorem loose_set {b : List Nat} {s x y : Nat} (hG : ∀ a c, G a c = G c a) (hirr : ∀ a, G a a = false) (h : LooseM G b s) (hx : SelP b s x) (hy : SelP b s y) : G x y = false := by
  obtain ⟨i, hi, rfl, h1⟩ := hx
  obtain ⟨j, hj, rfl, h2⟩ := hy
  rcases Nat.lt_trichotomy i j with e | e | e
  · have := h j i hj e
    cases hg : G (b.getD i 0) (b.getD j 0) with
    | false => rfl
    | true => exact absurd ⟨h2, h1, by rw [hG]; exact hg⟩ this
  · subst e; exact hirr _
  · have := h i j hi e
    cases hg : G (b.getD i 0) (b.getD j 0) with
    | false => rfl
    | true => exact absurd ⟨h1, h2, hg⟩ this
/-- What is asked of the bags. -/
structure BagsOk (N : Nat) (l : List (Int × Int)) (bs : List (List Nat)) (u : List Int) (G : Nat → Nat → Bool) : Prop where
  fit : FitT N l bs u
  ul : u.length = bs.length
  nd : ∀ i, i < bs.length → (bagA bs i).Nodup
  lt : ∀ i, i < bs.length → ∀ v ∈ bagA bs i, v < N
  sy : ∀ a c, G a c = G c a
  irr : ∀ a, G a a = false
  cov : ∀ x y, G x y = true → ∃ j, j < bs.length ∧ hasB bs x j = true ∧ hasB bs y j = true
section
variable (hB : BagsOk N l bs u G)
include hB
/-- A part's weight, told from its top. -/
theorem BagsOk.split (X : Nat → Prop) {i : Nat} (hi : i < bs.length) : nS W N (fun v => X v ∧ InV bs u i v) =
    nS W N (fun v => X v ∧ v ∈ bagA bs i) + sumI (fun k => if u.getD k 0 = (i : Int) then nS W N (fun v => X v ∧ InV bs u k v) - nS W N (fun v => v ∈ bagA bs i ∧ (X v ∧ v ∈ bagA bs k)) else 0) bs.length := by
  have hul := hB.ul
  have key : ∀ q, q ≤ bs.length → nS W N (fun v => X v ∧ (v ∈ bagA bs i ∨ ∃ k, k < q ∧ u.getD k 0 = (i : Int) ∧ InV bs u k v)) =
      nS W N (fun v => X v ∧ v ∈ bagA bs i) + sumI (fun k => if u.getD k 0 = (i : Int) then nS W N (fun v => X v ∧ InV bs u k v) - nS W N (fun v => v ∈ bagA bs i ∧ (X v ∧ v ∈ bagA bs k)) else 0) q := by
    intro q
    induction q with
    | zero =>
      intro _
      rw [sumI, Int.add_zero]
      exact nS_congr fun v _ => ⟨fun ⟨a, b⟩ => ⟨a, b.elim id fun ⟨k, h, _⟩ => absurd h (Nat.not_lt_zero _)⟩, fun ⟨a, b⟩ => ⟨a, .inl b⟩⟩
    | succ q ih =>
      intro hq
      have h0 := ih (by omega)
      rw [sumI]
      by_cases e : u.getD q 0 = (i : Int)
      · rw [if_pos e]
        have h1 := nS_or (W := W) (N := N) (fun v => X v ∧ (v ∈ bagA bs i ∨ ∃ k, k < q ∧ u.getD k 0 = (i : Int) ∧ InV bs u k v)) (fun v => X v ∧ InV bs u q v)
        have h2 : nS W N (fun v => (X v ∧ (v ∈ bagA bs i ∨ ∃ k, k < q ∧ u.getD k 0 = (i : Int) ∧ InV bs u k v)) ∧ X v ∧ InV bs u q v) = nS W N (fun v => v ∈ bagA bs i ∧ (X v ∧ v ∈ bagA bs q)) := nS_congr fun v hv => by
          constructor
          · rintro ⟨⟨hx, h⟩, _, hq2⟩
            have hbi : v ∈ bagA bs i := by
              rcases h with h | ⟨k, hk, e2, hin⟩
              · exact h
              · exact hasB_mem.1 (hB.fit.meet_two hul hv (by omega) (by omega) e2 e (by omega) hin hq2)
            exact ⟨hbi, hx, hasB_mem.1 (hB.fit.meet_up hul hv hi (by omega) e hq2 (hasB_mem.2 hbi))⟩
          · rintro ⟨a, b, c⟩
            exact ⟨⟨b, .inl a⟩, b, InV.own (by omega) (hasB_mem.2 c)⟩
        have h3 : nS W N (fun v => X v ∧ (v ∈ bagA bs i ∨ ∃ k, k < q + 1 ∧ u.getD k 0 = (i : Int) ∧ InV bs u k v)) = nS W N (fun v => (X v ∧ (v ∈ bagA bs i ∨ ∃ k, k < q ∧ u.getD k 0 = (i : Int) ∧ InV bs u k v)) ∨ X v ∧ InV bs u q v) := nS_congr fun v _ => by
          constructor
          · rintro ⟨hx, h | ⟨k, hk, e2, hin⟩⟩
            · exact .inl ⟨hx, .inl h⟩
            · by_cases e3 : k = q
              · subst e3; exact .inr ⟨hx, hin⟩
              · exact .inl ⟨hx, .inr ⟨k, by omega, e2, hin⟩⟩
          · rintro (⟨hx, h | ⟨k, hk, e2, hin⟩⟩ | ⟨hx, hin⟩)
            · exact ⟨hx, .inl h⟩
            · exact ⟨hx, .inr ⟨k, by omega, e2, hin⟩⟩
            · exact ⟨hx, .inr ⟨q, by omega, e, hin⟩⟩
        rw [h2] at h1
        rw [h3]
        omega
      · rw [if_neg e, Int.add_zero, ← h0]
        exact nS_congr fun v _ => by
          constructor
          · rintro ⟨hx, h | ⟨k, hk, e2, hin⟩⟩
            · exact ⟨hx, .inl h⟩
            · by_cases e3 : k = q
              · subst e3; exact absurd e2 e
              · exact ⟨hx, .inr ⟨k, by omega, e2, hin⟩⟩
          · rintro ⟨hx, h | ⟨k, hk, e2, hin⟩⟩
            · exact ⟨hx, .inl h⟩
            · exact ⟨hx, .inr ⟨k, by omega, e2, hin⟩⟩
  rw [← key _ (Nat.le_refl _)]
  refine nS_congr fun v _ => and_congr_right fun _ => ?_
  constructor
  · intro h
    rcases h.kid with h | ⟨k, a, b, c⟩
    · exact .inl (hasB_mem.1 h)
    · exact .inr ⟨k, by omega, b, c⟩
  · rintro (h | ⟨k, a, b, c⟩)
    · exact InV.own hi (hasB_mem.2 h)
    · exact c.up (by omega) b
theorem BagsOk.wsum_nS {i s : Nat} (hi : i < bs.length) : wsum W (bagA bs i) s = nS W N (fun v => v ∈ bagA bs i ∧ SelP (bagA bs i) s v) :=
  lsum_nS _ (hB.nd i hi) (hB.lt i hi) _ fun j hj => (sel_bit (hB.nd i hi) hj).symm
theorem BagsOk.both_nS {i k s : Nat} (hi : i < bs.length) : bothW W (bagA bs i) (bagA bs k) s = nS W N (fun v => v ∈ bagA bs i ∧ (SelP (bagA bs i) s v ∧ v ∈ bagA bs k)) :=
  lsum_nS _ (hB.nd i hi) (hB.lt i hi) _ fun j hj => and_congr (sel_bit (hB.nd i hi) hj).symm Iff.rfl
/-- There is a choice below. -/
theorem BagsOk.choice {i s k : Nat} (hi : i < bs.length) (hk : k < bs.length) (hs : LooseM G (bagA bs i) s) (T : Nat → Int) :
    IsBst (fun t => LooseM G (bagA bs k) t ∧ AgreeM (bagA bs i) (bagA bs k) s t) (fun t => T t - bothW W (bagA bs i) (bagA bs k) s) (2 ^ (bagA bs k).length) (chT G W bs i s k T) := by
  refine bst_is ⟨mskP (bagA bs k) (SelP (bagA bs i) s), mskP_lt, mskP_loose fun x y hx hy => loose_set hB.sy hB.irr hs hx hy, fun p q hp hq e => ?_⟩
  rw [Bool.eq_iff_iff, mskP_bit hq, ← e, sel_bit (hB.nd i hi) hp]
/-- No loose set is heavier. -/
theorem BagsOk.above {T : Nat → Nat → Int} (hT : TOk G W bs u T) {X : Nat → Prop} (hX : ∀ x y, X x → X y → G x y = false) : ∀ (n i d : Nat), bs.length - d ≤ n → Clm u i d → nS W N (fun v => X v ∧ InV bs u i v) ≤ T i (mskP (bagA bs i) X) := by
  have hul := hB.ul
  intro n
  induction n with
  | zero =>
    intro i d hn hd
    have hi := hd.lt
    rw [hB.split X (by omega), hT i (by omega), hB.wsum_nS (by omega)]
    have h1 : nS W N (fun v => X v ∧ v ∈ bagA bs i) = nS W N (fun v => v ∈ bagA bs i ∧ SelP (bagA bs i) (mskP (bagA bs i) X) v) := nS_congr fun v _ => by
      constructor
      · rintro ⟨a, b⟩
        obtain ⟨j, hj, rfl⟩ := mem_at b
        exact ⟨b, (sel_bit (hB.nd i (by omega)) hj).2 ((mskP_bit hj).2 a)⟩
      · rintro ⟨b, j, hj, rfl, h⟩
        exact ⟨(mskP_bit hj).1 h, b⟩
    rw [h1]
    refine Int.add_le_add_left (sumI_le fun k hk => ?_) _
    by_cases e : u.getD k 0 = (i : Int)
    · have := (Clm.up (by omega) e hd).le
      omega
    · rw [if_neg e, if_neg e]; omega
  | succ n ih =>
    intro i d hn hd
    have hi := hd.lt
    have hil : i < bs.length := by omega
    rw [hB.split X hil, hT i hil, hB.wsum_nS hil]
    have h1 : nS W N (fun v => X v ∧ v ∈ bagA bs i) = nS W N (fun v => v ∈ bagA bs i ∧ SelP (bagA bs i) (mskP (bagA bs i) X) v) := nS_congr fun v _ => by
      constructor
      · rintro ⟨a, b⟩
        obtain ⟨j, hj, rfl⟩ := mem_at b
        exact ⟨b, (sel_bit (hB.nd i hil) hj).2 ((mskP_bit hj).2 a)⟩
      · rintro ⟨b, j, hj, rfl, h⟩
        exact ⟨(mskP_bit hj).1 h, b⟩
    rw [h1]
    refine Int.add_le_add_left (sumI_le fun k hk => ?_) _
    by_cases e : u.getD k 0 = (i : Int)
    · rw [if_pos e, if_pos e]
      have hkd := Clm.up (by omega) e hd
      have h2 := ih k (d + 1) (by omega) hkd
      have hch := hB.choice (W := W) hil hk (mskP_loose (b := bagA bs i) hX) (T k)
      have h3 := hch.max (mskP (bagA bs k) X) mskP_lt ⟨mskP_loose hX, fun p q hp hq e => by rw [Bool.eq_iff_iff, mskP_bit hq, ← e, mskP_bit hp]⟩
      have h4 : bothW W (bagA bs i) (bagA bs k) (mskP (bagA bs i) X) = nS W N (fun v => v ∈ bagA bs i ∧ (X v ∧ v ∈ bagA bs k)) := by
        rw [hB.both_nS hil]
        refine nS_congr fun v _ => and_congr_right fun hv => and_congr ?_ Iff.rfl
        obtain ⟨j, hj, rfl⟩ := mem_at hv
        rw [sel_bit (hB.nd i hil) hj, mskP_bit hj]
      unfold chV
      rw [← h4]
      omega
    · rw [if_neg e, if_neg e]; omega
end
end
end Go.Proofs.YtnmljgjegodkaaaDoor
namespace Go.Proofs.YtnmljgjegodkaaaDoor
open Go.RowKit

section
variable {N : Nat} {l : List (Int × Int)} {bs : List (List Nat)} {u : List Int} {G : Nat → Nat → Bool} {W : Nat → Int}
theorem agree_up {a b : List Nat} {s t v : Nat} (h : AgreeM a b s t) (ha : v ∈ a) (hb : SelP b t v) : SelP a s v := by
  obtain ⟨q, hq, e, k⟩ := hb
  obtain ⟨p, hp, e2⟩ := mem_at ha
  exact ⟨p, hp, e2, by rw [h p q hp hq (e2.trans e.symm)]; exact k⟩
theorem agree_down {a b : List Nat} {s t v : Nat} (h : AgreeM a b s t) (hb : v ∈ b) (ha : SelP a s v) : SelP b t v := by
  obtain ⟨p, hp, e2, k⟩ := ha
  obtain ⟨q, hq, e⟩ := mem_at hb
  exact ⟨q, hq, e, by rw [← h p q hp hq (e2.trans e.symm)]; exact k⟩
theorem BagsOk.inN (hB : BagsOk N l bs u G) {k v : Nat} (h : InV bs u k v) : v < N := by
  obtain ⟨j, a, b, c⟩ := h
  exact hB.lt j a v (hasB_mem.1 c)
/-- What the chosen nodes are. -/
structure DnOk (N : Nat) (bs : List (List Nat)) (u : List Int) (G : Nat → Nat → Bool) (W : Nat → Int) (T : Nat → Nat → Int) (i s : Nat) : Prop where
  inV : ∀ v, Dn G W bs u T i s v → InV bs u i v
  own : ∀ v, Dn G W bs u T i s v → v ∈ bagA bs i → SelP (bagA bs i) s v
  loose : ∀ x y, Dn G W bs u T i s x → Dn G W bs u T i s y → G x y = false
  sum : nS W N (Dn G W bs u T i s) = T i s
theorem BagsOk.inner (hB : BagsOk N l bs u G) {T : Nat → Nat → Int} {i s k v : Nat} (hi : i < bs.length) (hk : k < bs.length) (e : u.getD k 0 = (i : Int)) (hs : LooseM G (bagA bs i) s)
    (ih : ∀ c, c < bs.length → u.getD c 0 = (i : Int) → ∀ t, LooseM G (bagA bs c) t → DnOk N bs u G W T c t) (h : Dn G W bs u T i s v) (hv : InV bs u k v) : Dn G W bs u T k (chT G W bs i s k (T k)) v := by
  have hul := hB.ul
  have hN := hB.inN hv
  have hch := fun c (hc : c < bs.length) => hB.choice (W := W) hi hc hs (T c)
  have fin : SelP (bagA bs i) s v → Dn G W bs u T k (chT G W bs i s k (T k)) v := fun hsel =>
    .sel (agree_down (hch k hk).ok.2 (hasB_mem.1 (hB.fit.meet_up hul hN hi (by omega) e hv (hasB_mem.2 (sel_mem hsel)))) hsel)
  cases h with
  | sel h => exact fin h
  | @kid _ _ c _ hc e2 h =>
    by_cases hck : c = k
    · subst hck; exact h
    · have hcv := (ih c hc e2 _ (hch c hc).ok.1).inV v h
      have hbi := hasB_mem.1 (hB.fit.meet_two hul hN (by omega) (by omega) e2 e hck hcv hv)
      have hbc := hasB_mem.1 (hB.fit.meet_up hul hN hi (by omega) e2 hcv (hasB_mem.2 hbi))
      exact fin (agree_up (hch c hc).ok.2 hbi ((ih c hc e2 _ (hch c hc).ok.1).own v h hbc))
theorem BagsOk.step (hB : BagsOk N l bs u G) {T : Nat → Nat → Int} (hT : TOk G W bs u T) {i s : Nat} (hi : i < bs.length) (hs : LooseM G (bagA bs i) s)
    (ih : ∀ c, c < bs.length → u.getD c 0 = (i : Int) → ∀ t, LooseM G (bagA bs c) t → DnOk N bs u G W T c t) : DnOk N bs u G W T i s := by
  have hul := hB.ul
  have hch := fun c (hc : c < bs.length) => hB.choice (W := W) hi hc hs (T c)
  have p1 : ∀ v, Dn G W bs u T i s v → InV bs u i v := fun v h => by
    cases h with
    | sel h => exact InV.own hi (hasB_mem.2 (sel_mem h))
    | kid hc e2 h => exact ((ih _ hc e2 _ (hch _ hc).ok.1).inV v h).up (by omega) e2
  have p2 : ∀ v, Dn G W bs u T i s v → v ∈ bagA bs i → SelP (bagA bs i) s v := fun v h hbi => by
    cases h with
    | sel h => exact h
    | kid hc e2 h =>
      have hcv := (ih _ hc e2 _ (hch _ hc).ok.1).inV v h
      have hbc := hasB_mem.1 (hB.fit.meet_up hul (hB.inN hcv) hi (by omega) e2 hcv (hasB_mem.2 hbi))
      exact agree_up (hch _ hc).ok.2 hbi ((ih _ hc e2 _ (hch _ hc).ok.1).own v h hbc)
  refine ⟨p1, p2, fun x y hx hy => ?_, ?_⟩
  · cases hg : G x y with
    | false => rfl
    | true =>
      obtain ⟨j, hj, hxj, hyj⟩ := hB.cov x y hg
      have own : hasB bs x i = true → hasB bs y i = true → False := fun a b => by
        have := loose_set hB.sy hB.irr hs (p2 x hx (hasB_mem.1 a)) (p2 y hy (hasB_mem.1 b))
        rw [hg] at this
        cases this
      have hxv := p1 x hx
      have hyv := p1 y hy
      by_cases hh : Hng u i j
      · rcases hh.kid with rfl | ⟨c, a, b, d⟩
        · exact (own hxj hyj).elim
        · have hc : c < bs.length := by omega
          have h1 := hB.inner hi hc b hs ih hx ⟨j, hj, d, hxj⟩
          have h2 := hB.inner hi hc b hs ih hy ⟨j, hj, d, hyj⟩
          have := (ih c hc b _ (hch c hc).ok.1).loose x y h1 h2
          rw [hg] at this
          cases this
      · exact (own (hB.fit.meet_out hul (hB.inN hxv) hj hh hxv hxj) (hB.fit.meet_out hul (hB.inN hyv) hj hh hyv hyj)).elim
  · have h0 : nS W N (Dn G W bs u T i s) = nS W N (fun v => Dn G W bs u T i s v ∧ InV bs u i v) := nS_congr fun v _ => ⟨fun h => ⟨h, p1 v h⟩, fun h => h.1⟩
    rw [h0, hB.split _ hi, hT i hi, hB.wsum_nS hi]
    have h1 : nS W N (fun v => Dn G W bs u T i s v ∧ v ∈ bagA bs i) = nS W N (fun v => v ∈ bagA bs i ∧ SelP (bagA bs i) s v) := nS_congr fun v _ => ⟨fun ⟨a, b⟩ => ⟨b, p2 v a b⟩, fun ⟨a, b⟩ => ⟨.sel b, a⟩⟩
    rw [h1]
    refine congrArg _ (sumI_congr fun k hk => ?_)
    by_cases e : u.getD k 0 = (i : Int)
    · rw [if_pos e, if_pos e]
      have hk' := ih k hk e _ (hch k hk).ok.1
      have h2 : nS W N (fun v => Dn G W bs u T i s v ∧ InV bs u k v) = T k (chT G W bs i s k (T k)) := by
        rw [← hk'.sum]
        exact nS_congr fun v _ => ⟨fun ⟨a, b⟩ => hB.inner hi hk e hs ih a b, fun a => ⟨.kid hk e a, hk'.inV v a⟩⟩
      have h3 : nS W N (fun v => v ∈ bagA bs i ∧ (Dn G W bs u T i s v ∧ v ∈ bagA bs k)) = bothW W (bagA bs i) (bagA bs k) s := by
        rw [hB.both_nS hi]
        exact nS_congr fun v _ => and_congr_right fun hv => and_congr ⟨fun a => p2 v a hv, fun a => .sel a⟩ Iff.rfl
      rw [h2, h3]
      rfl
    · rw [if_neg e, if_neg e]
theorem BagsOk.down (hB : BagsOk N l bs u G) {T : Nat → Nat → Int} (hT : TOk G W bs u T) : ∀ (n i d s : Nat), bs.length - d ≤ n → Clm u i d → LooseM G (bagA bs i) s → DnOk N bs u G W T i s := by
  intro n
  induction n with
  | zero =>
    intro i d s hn hd hs
    have hi := hd.lt
    have hul := hB.ul
    exact hB.step hT (by omega) hs fun c hc e t ht => by
      have := (Clm.up (by omega) e hd).le
      omega
  | succ n ih =>
    intro i d s hn hd hs
    have hi := hd.lt
    have hul := hB.ul
    exact hB.step hT (by omega) hs fun c hc e t ht => ih c (d + 1) t (by omega) (.up (by omega) e hd) ht
theorem BagsOk.dn (hB : BagsOk N l bs u G) {T : Nat → Nat → Int} (hT : TOk G W bs u T) {i s : Nat} (hi : i < bs.length) (hs : LooseM G (bagA bs i) s) : DnOk N bs u G W T i s := by
  obtain ⟨d, hd⟩ := hB.fit.clm i (by have := hB.ul; omega)
  exact hB.down hT _ i d s (Nat.le_refl _) hd hs
/-- The sums are small. -/
theorem BagsOk.small (hB : BagsOk N l bs u G) {T : Nat → Nat → Int} (hT : TOk G W bs u T) (hW : ∀ v, v < N → -1000000 ≤ W v ∧ W v ≤ 1000000) {i s : Nat} (hi : i < bs.length) (hs : LooseM G (bagA bs i) s) :
    -((N : Int) * 1000000) ≤ T i s ∧ T i s ≤ (N : Int) * 1000000 := by
  rw [← (hB.dn hT hi hs).sum]
  exact nS_bound hW
/-- The best of all. -/
theorem BagsOk.best (hB : BagsOk N l bs u G) {T : Nat → Nat → Int} (hT : TOk G W bs u T) {r top : Nat} (hr : r < bs.length) (e : u.getD r 0 = -1) (ht : IsBst (LooseM G (bagA bs r)) (T r) (2 ^ (bagA bs r).length) top) {X : Nat → Prop} (hX : ∀ x y, X x → X y → G x y = false) :
    nS W N X ≤ nS W N (Dn G W bs u T r top) := by
  have hul := hB.ul
  rw [(hB.dn hT hr ht.ok).sum]
  obtain ⟨d, hd⟩ := hB.fit.clm r (by omega)
  have h1 := hB.above hT hX _ r d (Nat.le_refl _) hd
  have h2 : nS W N X = nS W N (fun v => X v ∧ InV bs u r v) := nS_congr fun v hv => ⟨fun h => ⟨h, hB.fit.all_in hul (by omega) e hv⟩, fun h => h.1⟩
  rw [h2]
  have h3 := ht.max (mskP (bagA bs r) X) mskP_lt (mskP_loose hX)
  omega
end
end Go.Proofs.YtnmljgjegodkaaaDoor
