/- The law ChordsOrders: arcs that go on, as a graph; the plain part. arborlaw.ChordsOrders answers true: the walk. -/
import Derived.Test.YtnhhohhhpaejmaaPE
import Derived.Test.YtnhhohhhpaejmaaCmbW
import Derived.Test.YtnhhohhhpaejmaaPG
import Derived.Test.YtnhhohhhpaejmaaCBeg
import Derived.Test.YtnhhohhhpaejmaaPairsW
import Derived.Test.YtnhhohhhpaejmaaOf
import Derived.Test.YtnhhohhhpaejmaaPK
import Derived.Test.YtnhhohhhpaejmaaKeptS
import Derived.Test.YtnhhohhhpaejmaaGOwn
import Derived.Test.YtnhhohhhpaejmaaPH
import Derived.Test.YtnhhohhhpaejmaaPF
import Derived.Test.YtnhhohhhpaejmaaGridOf
namespace Go.Proofs.Ytnhhohhhpaejmaa

theorem mem_castE {L : List (Nat × Nat)} {a b : Nat} : ((a : Int), (b : Int)) ∈ L.map castE ↔ (a, b) ∈ L := by
  rw [List.mem_map]
  constructor
  · rintro ⟨p, hp, e⟩
    simp only [castE, Prod.mk.injEq] at e
    have : p = (a, b) := Prod.ext (by show p.1 = a; omega) (by show p.2 = b; omega)
    rw [← this]; exact hp
  · intro h; exact ⟨_, h, rfl⟩
/-- An arc as an edge. -/
def asE (p : Nat × Nat) : Int × Int := if p.1 < p.2 then ((p.1 : Int), (p.2 : Int)) else ((p.2 : Int), (p.1 : Int))
theorem asE_inj {p q : Nat × Nat} (h : asE p = asE q) : p = q ∨ p = (q.2, q.1) := by
  obtain ⟨a, b⟩ := p
  obtain ⟨c, d⟩ := q
  unfold asE at h
  simp only at h ⊢
  split at h <;> split at h <;> simp only [Prod.mk.injEq] at h ⊢ <;> omega

theorem tor_len {N : Nat} {t : Nat → Nat → Bool} {L : List (Nat × Nat)} (hs : ∀ a b, t a b = t b a) (hT : TOr (TN N t) (fun a b => (a, b) ∈ L)) (hn : L.Nodup) : L.length = (prsTo N t N).length := by
  have hnm : (L.map asE).Nodup := by
    unfold List.Nodup
    rw [List.pairwise_map]
    refine List.Pairwise.imp_of_mem (fun {p q} hp hq hne e => ?_) hn
    rcases asE_inj e with h | h
    · exact hne h
    · obtain ⟨c, d⟩ := q
      rw [h] at hp
      exact hT.anti _ _ hp hq
  have h1 : ∀ e ∈ L.map asE, e ∈ prsTo N t N := fun e he => by
    obtain ⟨⟨a, b⟩, hp, rfl⟩ := List.mem_map.1 he
    obtain ⟨ha, hb, hab⟩ := hT.sub a b hp
    have hne : a ≠ b := fun e => by subst e; exact hT.anti _ _ hp hp
    unfold asE
    simp only
    split
    · exact mem_prsTo.2 ⟨a, b, ha, by assumption, hb, hab, rfl⟩
    · exact mem_prsTo.2 ⟨b, a, hb, by omega, ha, by rw [hs]; exact hab, rfl⟩
  have h2 : ∀ e ∈ prsTo N t N, e ∈ L.map asE := fun e he => by
    obtain ⟨i, j, h3, h4, h5, h6, rfl⟩ := mem_prsTo.1 he
    rcases hT.tot i j ⟨by omega, h5, h6⟩ with h | h
    · exact List.mem_map.2 ⟨_, h, by unfold asE; rw [if_pos h4]⟩
    · exact List.mem_map.2 ⟨_, h, by unfold asE; rw [if_neg (by show ¬ j < i; omega)]⟩
  have l1 := nodup_sub_len hnm h1
  have l2 := nodup_sub_len (rise_nodup (prsTo_rise _ _ _)) h2
  rw [List.length_map] at l1 l2
  omega
theorem getD_memO {l : List (Int × Int)} {i : Nat} (h : i < l.length) : l.getD i (0, 0) ∈ l := by
  rw [List.getD, List.getElem?_eq_getElem h]; exact List.getElem_mem h
theorem tor_goes {T : Nat → Nat → Prop} {L : List (Nat × Nat)} (hT : TOr T (fun a b => (a, b) ∈ L)) : Goes (L.map castE) := by
  intro i hi j hj e
  obtain ⟨p, hp, e1⟩ := List.mem_map.1 (getD_memO hi)
  obtain ⟨q, hq, e2⟩ := List.mem_map.1 (getD_memO hj)
  rw [← e1, ← e2] at e ⊢
  have h12 : p.2 = q.1 := by simp only [castE] at e; omega
  have hq' : (p.2, q.2) ∈ L := by rw [h12]; exact hq
  exact mem_castE.2 (hT.trans p.1 p.2 q.2 hp hq')
theorem tor_adj {N : Nat} {t : Nat → Nat → Bool} {L : List (Nat × Nat)} (hs : ∀ a b, t a b = t b a) (hT : TOr (TN N t) (fun a b => (a, b) ∈ L)) {i j : Nat} (hi : i < N) (hj : j < N) : adj (L.map castE) i j = t i j := by
  cases e : t i j
  · refine hasE_no fun k hk hm => ?_
    obtain ⟨p, hp, e1⟩ := List.mem_map.1 (getD_memO hk)
    rw [← e1] at hm
    have h1 := hT.sub p.1 p.2 hp
    unfold Meets at hm
    simp only [castE] at hm
    rcases hm with ⟨h2, h3⟩ | ⟨h2, h3⟩
    · rw [show p.1 = i by omega, show p.2 = j by omega] at h1
      rw [h1.2.2] at e; cases e
    · rw [show p.1 = j by omega, show p.2 = i by omega] at h1
      rw [hs, h1.2.2] at e; cases e
  · rcases hT.tot i j ⟨hi, hj, e⟩ with h | h
    · obtain ⟨k, hk, ek⟩ := List.getElem_of_mem (mem_castE.2 h)
      exact hasE_yes hk (.inl (by rw [List.getD, List.getElem?_eq_getElem hk, Option.getD_some, ek]; exact ⟨rfl, rfl⟩))
    · obtain ⟨k, hk, ek⟩ := List.getElem_of_mem (mem_castE.2 h)
      exact hasE_yes hk (.inr (by rw [List.getD, List.getElem?_eq_getElem hk, Option.getD_some, ek]; exact ⟨rfl, rfl⟩))

theorem orient_mem {l : List (Int × Int)} {s : Nat} {e : Int × Int} (h : e ∈ orient l s) : e ∈ l ∨ (e.2, e.1) ∈ l := by
  obtain ⟨k, hk, ek⟩ := List.getElem_of_mem h
  have hk' : k < l.length := by rw [orient_length] at hk; exact hk
  have h1 := orient_at l s hk'
  rw [List.getD, List.getElem?_eq_getElem hk, Option.getD_some, ek] at h1
  split at h1
  · right; rw [h1]; exact getD_memO hk'
  · left; rw [h1]; exact getD_memO hk'
theorem mem_orient {l : List (Int × Int)} {s : Nat} {e : Int × Int} (h : e ∈ l) : e ∈ orient l s ∨ (e.2, e.1) ∈ orient l s := by
  obtain ⟨k, hk, ek⟩ := List.getElem_of_mem h
  have h1 := orient_at l s hk
  have h2 := getD_memO (l := orient l s) (i := k) (by rw [orient_length]; exact hk)
  rw [h1] at h2
  have e3 : l.getD k (0, 0) = e := by rw [List.getD, List.getElem?_eq_getElem hk, Option.getD_some, ek]
  rw [e3] at h2
  split at h2
  · exact .inr h2
  · exact .inl h2

theorem Goes.mem {l : List (Int × Int)} (h : Goes l) {a b c : Int} (h1 : (a, b) ∈ l) (h2 : (b, c) ∈ l) : (a, c) ∈ l := by
  obtain ⟨i, hi, ei⟩ := List.getElem_of_mem h1
  obtain ⟨j, hj, ej⟩ := List.getElem_of_mem h2
  have k := h i hi j hj
  unfold GoesAt at k
  rw [List.getD, List.getD, List.getElem?_eq_getElem hi, List.getElem?_eq_getElem hj, Option.getD_some, Option.getD_some, ei, ej] at k
  exact k rfl
theorem tor_of_goes {N s : Nat} {t : Nat → Nat → Bool} (hs : ∀ a b, t a b = t b a) (hi : ∀ a, t a a = false) (h : Goes (orient (prsTo N t N) s)) : TOr (TN N t) (fun a b => ((a : Int), (b : Int)) ∈ orient (prsTo N t N) s) := by
  have sub : ∀ a b : Nat, ((a : Int), (b : Int)) ∈ orient (prsTo N t N) s → TN N t a b ∧ a ≠ b := fun a b k => by
    rcases orient_mem k with k | k
    · obtain ⟨i, j, h3, h4, h5, h6, e⟩ := mem_prsTo.1 k
      simp only [Prod.mk.injEq] at e
      rw [show a = i by omega, show b = j by omega]
      exact ⟨⟨h3, h5, h6⟩, by omega⟩
    · obtain ⟨i, j, h3, h4, h5, h6, e⟩ := mem_prsTo.1 k
      simp only [Prod.mk.injEq] at e
      rw [show a = j by omega, show b = i by omega]
      exact ⟨⟨h5, h3, by rw [hs]; exact h6⟩, by omega⟩
  refine ⟨fun a b k => (sub a b k).1, fun a b k => ?_, fun a b k1 k2 => (sub a a (h.mem k1 k2)).2 rfl, fun a b c k1 k2 => h.mem k1 k2⟩
  obtain ⟨ha, hb, hab⟩ := k
  rcases Nat.lt_trichotomy a b with h1 | h1 | h1
  · exact mem_orient (mem_prsTo.2 ⟨a, b, ha, h1, hb, hab, rfl⟩)
  · subst h1; rw [hi] at hab; cases hab
  · exact (mem_orient (s := s) (mem_prsTo.2 ⟨b, a, hb, h1, ha, by rw [hs]; exact hab, rfl⟩)).symm

theorem castE_at {L : List (Nat × Nat)} {j : Nat} (hj : j < L.length) : ∃ a b : Nat, (L.map castE).getD j (0, 0) = ((a : Int), (b : Int)) ∧ L[j]? = some (a, b) ∧ (a, b) ∈ L := by
  refine ⟨L[j].1, L[j].2, ?_, ?_, List.getElem_mem hj⟩
  · rw [castE_get, List.getD, List.getElem?_eq_getElem hj]; rfl
  · rw [List.getElem?_eq_getElem hj]
theorem tor_good {N : Nat} {t : Nat → Nat → Bool} {L : List (Nat × Nat)} (hN : N ≤ 100) (hT : TOr (TN N t) (fun a b => (a, b) ∈ L)) (hn : L.Nodup) (hl : L.length ≤ 1000) : GoodGraph (N : Int) (L.map castE) := by
  refine ⟨by omega, by omega, by rw [List.length_map]; exact hl, fun j hj => ?_⟩
  rw [List.length_map] at hj
  obtain ⟨a, b, e, e', hm⟩ := castE_at hj
  have h1 := hT.sub a b hm
  have hne : a ≠ b := fun e => by subst e; exact hT.anti _ _ hm hm
  unfold Fine EndsOk
  rw [e]
  have ha := h1.1
  have hb := h1.2.1
  refine ⟨⟨by simp, by simp, by show (a : Int) < N; omega, by show (b : Int) < N; omega⟩, fun e => hne (by have e' : (a : Int) = (b : Int) := e; omega), hasE_no fun k hk hm2 => ?_⟩
  rw [List.length_take, List.length_map] at hk
  have hkj : k < j := by omega
  obtain ⟨c, d, e2, e2', hm3⟩ := castE_at (L := L) (j := k) (by omega)
  have e3 : ((L.map castE).take j).getD k (0, 0) = (L.map castE).getD k (0, 0) := by
    simp only [List.getD, List.getElem?_take_of_lt hkj]
  rw [e3, e2] at hm2
  unfold Meets at hm2
  simp only at hm2
  rcases hm2 with ⟨h2, h3⟩ | ⟨h2, h3⟩
  · have : L[k]? = L[j]? := by rw [e', e2', show c = a by omega, show d = b by omega]
    have h9 := (List.getElem?_inj (by omega) hn).1 this
    omega
  · refine hT.anti a b hm ?_
    rw [show b = c by omega, show a = d by omega]; exact hm3

/-- What the law asks of the answer. -/
structure OroOk (N : Nat) (l LE : List (Int × Int)) : Prop where
  up : ∀ i, i + 1 < LE.length → LexLt (LE.getD i (0, 0)) (LE.getD (i + 1) (0, 0))
  rg : ∀ i, i < LE.length → EndsOk (N : Int) (LE.getD i (0, 0)) ∧ (LE.getD i (0, 0)).1 ≠ (LE.getD i (0, 0)).2
  len : LE.length = (prsTo N (adj l) N).length
  good : GoodGraph (N : Int) LE
  same : prsTo N (adj LE) N = prsTo N (adj l) N
  goes : Goes LE
theorem prs_congr {p q : Nat → Nat → Bool} {N : Nat} (h : ∀ i j, i < N → j < N → p i j = q i j) : prsTo N p N = prsTo N q N :=
  rise_uniq LexLt.irr LexLt.tr (prsTo_rise _ _ _) (prsTo_rise _ _ _) fun e => by
    rw [mem_prsTo, mem_prsTo]
    constructor
    · rintro ⟨i, j, h1, h2, h3, h4, rfl⟩; exact ⟨i, j, h1, h2, h3, by rw [← h i j h1 h3]; exact h4, rfl⟩
    · rintro ⟨i, j, h1, h2, h3, h4, rfl⟩; exact ⟨i, j, h1, h2, h3, by rw [h i j h1 h3]; exact h4, rfl⟩
theorem oro_ok {N : Nat} {l : List (Int × Int)} (hg : GoodGraph (N : Int) l) {L : List (Nat × Nat)} (hn : L.Nodup) (hp : (L.map castE).Pairwise (fun a b => ¬ LexLt b a)) (hT : TOr (TN N (adj l)) (fun a b => (a, b) ∈ L)) : OroOk N l (L.map castE) := by
  have hs := adj_symm l
  have hlen := tor_len hs hT hn
  have hN : N ≤ 100 := by have := hg.hi; omega
  have hl : L.length ≤ 1000 := by rw [hlen, form_length hg]; exact hg.len
  have hgd := tor_good hN hT hn hl
  refine ⟨fun i hi => ?_, fun i hi => ⟨(hgd.fine i hi).1, (hgd.fine i hi).2.1⟩, by rw [List.length_map]; exact hlen, hgd, prs_congr fun i j hi hj => tor_adj hs hT hi hj, tor_goes hT⟩
  rw [List.length_map] at hi
  obtain ⟨a, b, e1, e1', _⟩ := castE_at (L := L) (j := i) (by omega)
  obtain ⟨c, d, e2, e2', _⟩ := castE_at (L := L) (j := i + 1) hi
  have h1 : ¬ LexLt ((L.map castE).getD (i + 1) (0, 0)) ((L.map castE).getD i (0, 0)) := by
    have := (List.pairwise_iff_getElem.1 hp) i (i + 1) (by rw [List.length_map]; omega) (by rw [List.length_map]; exact hi) (by omega)
    rw [List.getD, List.getD, List.getElem?_eq_getElem (show i + 1 < (L.map castE).length by rw [List.length_map]; exact hi), List.getElem?_eq_getElem (show i < (L.map castE).length by rw [List.length_map]; omega)]
    exact this
  rw [e1, e2] at h1 ⊢
  have hne : ¬ (a = c ∧ b = d) := fun ⟨h1, h2⟩ => by
    subst h1 h2
    have := (List.getElem?_inj (by omega) hn).1 (e1'.trans e2'.symm)
    omega
  unfold LexLt at h1 ⊢
  simp only at h1 ⊢
  omega
theorem oro_none {N : Nat} {l : List (Int × Int)} (hg : GoodGraph (N : Int) l) (h : ¬ ∃ F, TOr (TN N (adj l)) F) : ∀ s, ¬ Goes (orient (prsTo N (adj l) N) s) := fun s hs =>
  h ⟨_, tor_of_goes (adj_symm l) (fun a => adj_self (fun j hj => (hg.fine j hj).2.1) a) hs⟩

end Go.Proofs.Ytnhhohhhpaejmaa
namespace Go.Proofs.Ytnhhohhhpaejmaa
open Go Go.RowKit

theorem uppO {a b c : World} (h : Below a.heap.size a b) (k : Below b.heap.size b c) : Below a.heap.size a c := h.trans (k.mono h.size)
set_option maxHeartbeats 6400000 in
set_option maxRecDepth 100000 in
theorem ordersLaw_any (n : Int) (l : List (Int × Int)) (hl : l.length * 16 ≤ 140737488351232) (sv : Value) (w : World) (h : IsEdges w sv l) :
    Calls Try.prog 5 #[.agg #[.int .i64 n, sv]] w fun e w' => e = .returned (.bool true) ∧ Below w.heap.size w w' := by
  obtain ⟨ad, cap, rfl⟩ := h.form
  have hb1 := below1 w (Obj.cells #[.int .i64 n, .slice ad l.length cap] 24)
  have c0 := two_cells w (.int .i64 n) (.slice ad l.length cap) 24
  have cn := c0.1
  have cs := c0.2
  have he := h.below hb1
  have H0 := Lib.hid h
  clear c0 h
  go_enter Try.func5, Try.ntmps5
  go_upto_region 1 with fail
  generalize w.alloc (Obj.cells #[.int .i64 n, .slice ad l.length cap] 24) = w1 at *
  have Cn := Lib.hid (And.intro cn cs); have He := Lib.hid he; have Hb1 := Lib.hid hb1
  clear he hb1
  go_wp2_with fail
  refine (own_any l n (.slice ad l.length cap) _ He.out hl).mono ?_
  rintro e w2 ⟨v2, rfl, ho2, hb2⟩
  obtain ⟨a2, c2, rfl⟩ := ho2.form
  have hb3 := uppO hb2 (below1 w2 (Obj.cells #[.int .i64 n, .slice a2 l.length c2] 24))
  have o0 := two_cells w2 (.int .i64 n) (.slice a2 l.length c2) 24
  have E3 := Lib.hid (show LB w (w2.alloc (Obj.cells #[.int .i64 n, .slice a2 l.length c2] 24)) n (.slice ad l.length cap) (.slice a2 l.length c2) l w2.heap.size from ⟨Hb1.out.trans (hb3.mono Hb1.out.size), below_cell hb3 Cn.out.1, below_cell hb3 Cn.out.2, o0.1, o0.2, He.out.below hb3, ho2.edges.below (below1 w2 _)⟩)
  have Ho3 := Lib.hid (ho2.below (below1 w2 (Obj.cells #[.int .i64 n, .slice a2 l.length c2] 24)))
  have Hlt := Lib.hid (show ∀ g, (Value.slice a2 l.length c2).ownBlock = some g → g < w2.heap.size from fun g e => (World.ownsRow.lt ho2 g e).2)
  have lB := Nat.lt_of_lt_of_le (show w.heap.size < w1.heap.size from World.block_lt_of_cell? _ _ cn) hb2.size
  clear cn cs ho2 hb2 hb3 o0 He Hb1 Cn
  go_upto_region 2 with fail
  generalize w2.alloc (Obj.cells #[.int .i64 n, .slice a2 l.length c2] 24) = w3 at *
  generalize w2.heap.size = B at *
  have cn := E3.out.cn
  have cs := E3.out.cs
  go_wp2_with fail
  refine (rcheck_any l n _ _ E3.out.he).mono ?_
  rintro e w5 ⟨c, a, hsp, rfl, hb5⟩
  have Hsp := Lib.hid hsp
  have F6 := Lib.hid (FV.new w5 c a)
  have E6 := Lib.hid (E3.out.below (uppO hb5 (below1 w5 (Obj.cells #[.int .i64 c, .int .i64 a] 27))))
  have lC : B < w5.heap.size := Nat.lt_of_lt_of_le (World.block_lt_of_cell? _ _ E3.out.on) hb5.size
  have Ho6 := Lib.hid (Ho3.out.below (uppO hb5 (below1 w5 (Obj.cells #[.int .i64 c, .int .i64 a] 27))))
  clear hsp hb5 cn cs
  go_upto_region 3 with fail
  generalize w5.alloc (Obj.cells #[.int .i64 c, .int .i64 a] 27) = w6 at *
  generalize w5.heap.size = C at *
  have on := E6.out.on
  have os := E6.out.os
  have cn := E6.out.cn
  have cs := E6.out.cs
  obtain ⟨f0, f1, f2, f3, f4⟩ := F6.out.facts
  go_wp2_with fail
  refine (orders_any n l _ _ E6.out.ho).mono ?_
  rintro e w10 ⟨c', a', o, rfl, hb10, hres⟩
  have b11 := uppO hb10 (below1 w10 (Obj.cells #[.int .i64 c', .int .i64 a'] 27))
  have E11 := Lib.hid (E6.out.below b11)
  have F11 := Lib.hid (F6.out.below b11)
  have G11 := Lib.hid (FV.new w10 c' a')
  have lE := E6.out.hb.size
  clear f0 f1 f2 f3 f4 on os cn cs b11
  rcases hres with ⟨hc, hgs, rfl⟩ | ⟨N, rfl, hgood, rfl, hcase⟩
  · obtain ⟨e1, e2⟩ := GraphSpec.uniq hgs Hsp.out
    subst e1 e2
    have q : (c' == 0) = false := by simp [hc]
    have q2 : (c' != 0) = true := by simp [hc]
    have Hc := Lib.hid hc
    clear hc hb10 hgs
    go_upto_region 4 with fail
    generalize w10.alloc (Obj.cells #[.int .i64 c', .int .i64 a'] 27) = w11 at *
    generalize w10.heap.size = D at *
    go_wp2_with fail
    refine (chordsBegun_any w11).mono ?_
    rintro e w12 ⟨rfl, hb12⟩
    have E12 := Lib.hid (E11.out.below hb12); have F12 := Lib.hid (F11.out.below hb12); have G12 := Lib.hid (G11.out.below hb12)
    clear hb12 E11 F11 G11
    have on := E12.out.on
    have os := E12.out.os
    have cn := E12.out.cn
    have cs := E12.out.cs
    obtain ⟨h0, h1, -, -, -⟩ := F12.out.facts
    obtain ⟨g0, g1, -, -, -⟩ := G12.out.facts
    go_wp2_with fail
    refine (kept_is (r := true) (by simp) _ _ w12 E12.out.ho E12.out.he).mono ?_
    rintro e w13 ⟨rfl, hb13⟩
    have E13 := Lib.hid (E12.out.below hb13); have F13 := Lib.hid (F12.out.below hb13); have G13 := Lib.hid (G12.out.below hb13)
    clear hb13 on os cn cs h0 h1 g0 g1 E12 F12 G12
    obtain ⟨h0, h1, -, -, -⟩ := F13.out.facts
    obtain ⟨g0, g1, -, -, -⟩ := G13.out.facts
    go_wp2
    go_ret
    exact ⟨rfl, E13.out.hb⟩
  · have hn1 := hgood.hi
    have hN : N ≤ 100 := by omega
    have Hg := Lib.hid hgood
    have Hok := Lib.hid (show ∀ j, j < l.length → EndsOk (N : Int) (l.getD j (0, 0)) ∧ (l.getD j (0, 0)).1 ≠ (l.getD j (0, 0)).2 from fun j hj => ⟨(Hg.out.fine j hj).1, (Hg.out.fine j hj).2.1⟩)
    obtain ⟨e1, e2⟩ := GraphSpec.uniq hgood.spec Hsp.out
    subst e1 e2
    have hlist : ∃ LE, (∃ ao co, o = .slice ao LE.length co) ∧ IsEdges w10 o LE ∧ ((c' = 9 ∧ LE = [] ∧ ∀ s, ¬ Goes (orient (prsTo N (adj l) N) s)) ∨ (c' = 0 ∧ OroOk N l LE)) := by
      rcases hcase with ⟨rfl, rfl, hno⟩ | ⟨rfl, L, ho, hn, hp, hT⟩
      · exact ⟨[], ⟨none, 0, rfl⟩, IsEdges.nil _, .inl ⟨rfl, rfl, oro_none hgood hno⟩⟩
      · exact ⟨L.map castE, ho.form, ho.edges, .inr ⟨rfl, oro_ok hgood hn hp hT⟩⟩
    obtain ⟨LE, ⟨ao, co, rfl⟩, hiE, hC⟩ := hlist
    have HC := Lib.hid hC
    have I11 := Lib.hid (hiE.below (below1 w10 (Obj.cells #[.int .i64 c', .int .i64 0] 27)))
    clear hgood hcase hiE hC hb10
    go_upto_region 4 with fail
    generalize w10.alloc (Obj.cells #[.int .i64 c', .int .i64 0] 27) = w11 at *
    generalize w10.heap.size = D at *
    go_wp2_with fail
    refine (chordsBegun_any w11).mono ?_
    rintro e w12 ⟨rfl, hb12⟩
    have E12 := Lib.hid (E11.out.below hb12); have F12 := Lib.hid (F11.out.below hb12); have G12 := Lib.hid (G11.out.below hb12); have I12 := Lib.hid (I11.out.below hb12)
    clear hb12 E11 F11 G11 I11
    have on := E12.out.on
    have os := E12.out.os
    have cn := E12.out.cn
    have cs := E12.out.cs
    obtain ⟨h0, h1, -, -, -⟩ := F12.out.facts
    obtain ⟨g0, g1, -, -, -⟩ := G12.out.facts
    go_wp2_with fail
    refine (kept_is (r := true) (by simp) _ _ w12 E12.out.ho E12.out.he).mono ?_
    rintro e w13 ⟨rfl, hb13⟩
    have E13 := Lib.hid (E12.out.below hb13); have F13 := Lib.hid (F12.out.below hb13); have G13 := Lib.hid (G12.out.below hb13); have I13 := Lib.hid (I12.out.below hb13)
    clear hb13 on os cn cs h0 h1 g0 g1 E12 F12 G12 I12
    obtain ⟨h0, h1, -, -, -⟩ := F13.out.facts
    have cn := E13.out.cn
    have cs := E13.out.cs
    go_wp2_with fail
    refine (gridOf_any l N _ _ E13.out.he hN Hok.out).mono ?_
    rintro e w14 ⟨v5, rfl, hg14, hb14⟩
    have Hg14 := Lib.hid (show HasGrid w14 v5 N (adj l) from ⟨_, hg14⟩)
    have E14 := Lib.hid (E13.out.below hb14); have G14 := Lib.hid (G13.out.below hb14); have I14 := Lib.hid (I13.out.below hb14)
    clear hg14 hb14 cn cs h0 h1 I13 E13 F13 G13
    go_wp2_with fail
    refine (of_any N (adj l) v5 w14 hN Hg14.out).mono ?_
    rintro e w15 ⟨v6, ho15, hb15, rfl⟩
    obtain ⟨a6, c6, rfl⟩ := ho15.form
    have E15 := Lib.hid (E14.out.below hb15); have G15 := Lib.hid (G14.out.below hb15); have I15 := Lib.hid (I14.out.below hb15); have O15 := Lib.hid ho15.edges
    clear ho15 hb15 E14 G14 I14 Hg14
    generalize hEL : prsTo N (adj l) N = EL at *
    have HEL := Lib.hid hEL
    clear hEL
    have hfe : (Instr.field 24 (.agg #[.int .i64 (N : Int), .slice a6 EL.length c6]) 1).run Try.prog w15 = .ok (.slice a6 EL.length c6) w15 := by kernel_rfl
    have hHC := HC.out
    obtain ⟨g0, g1, -, -, -⟩ := G15.out.facts
    rcases hHC with ⟨rfl, rfl, hno⟩ | ⟨rfl, hok⟩
    · have Hno := Lib.hid hno
      clear hno HC
      go_upto_region 10 with fail
      clear hfe
      have q0 : w15.drew.cell? ⟨D, 0, none⟩ = some (.int .i64 9) ∧ w15.drew.cell? ⟨D, 1, none⟩ = some (.int .i64 0) := ⟨g0, g1⟩
      have hcur : Below w15.heap.size w15 w15.drew := (Below.refl _ _).drew
      by_cases h12 : EL.length ≤ 12
      · have p12 : decide ((12 : Int) < (EL.length : Int)) = false := decide_eq_false (by omega)
        have p13 : decide (12 < EL.length) = false := decide_eq_false (by omega)
        have H12 := Lib.hid h12
        clear g0 g1
        go_region_held3 (fun w' => w'.cell? ⟨D, 0, none⟩ = some (.int .i64 9) ∧ w'.cell? ⟨D, 1, none⟩ = some (.int .i64 0))
          (first | exact q2 | exact q1 | exact q0)
          (first
            | (go_at_call 21; refine (F_any _ _ _).mono ?_; rintro e wp ⟨rfl, rfl⟩; have hcur := uppO hcur (below1 w15.drew (Obj.cells #[.int .i64 9, .int .i64 0] 27)); have q1 := And.intro (below_cell (below1 w15.drew (Obj.cells #[.int .i64 9, .int .i64 0] 27)) q0.1) (below_cell (below1 w15.drew (Obj.cells #[.int .i64 9, .int .i64 0] 27)) q0.2))
            | (go_at_call 22; refine (comparable_any EL _ _ (O15.out.below hcur) H12.out).mono ?_; rintro e wp ⟨b, rfl, hbt, hbc⟩; obtain rfl : b = false := (by cases b with | false => rfl | true => exact absurd (hbt rfl) (fun ⟨s, hs⟩ => Hno.out s hs)); have hcur := uppO hcur hbc; have q2 := And.intro (below_cell hbc q1.1) (below_cell hbc q1.2); clear hbt hbc))
        all_goals
          go_wp2
          go_ret
          exact ⟨rfl, uppO E15.out.hb hcur⟩
      · have p12 : decide ((12 : Int) < (EL.length : Int)) = true := decide_eq_true (by omega)
        clear h12
        refine wp_region_held_drew (S := fun w' => w'.cell? ⟨D, 0, none⟩ = some (.int .i64 9) ∧ w'.cell? ⟨D, 1, none⟩ = some (.int .i64 0)) (by kernel_rfl) q0 (fun hHeld => ?_)
        refine wpAnyH_take (i := 0) (oi := ?o_0) (v := .agg #[.int .i64 9, .int .i64 0]) ?ho_0 ?h1_0 ?h2_0 ?h3_0 ?hQ_0 ?hy_0 ?hS_0 ?rest_0
        case ho_0 => (simp only [List.getElem?_toArray, List.getElem?_cons_succ, List.getElem?_cons_zero]; exact rfl)
        case h1_0 => kernel_rfl
        case h2_0 => kernel_rfl
        case h3_0 => kernel_rfl
        case hy_0 => (refine Or.inl ⟨by rfl, fun w hSw => ?_⟩; (try dsimp only at hSw); obtain ⟨hs0, hs1⟩ := hSw; go_simp)
        case hQ_0 => exact fun _ _ _ h => h
        case hS_0 => assumption
        (try simp only [Act.put, List.setIfInBounds_toArray, List.set_cons_zero, List.set_cons_succ])
        refine wpAnyH_ready (rs := [1]) (by kernel_rfl) (by simp) ?_
        refine AllReadyH.cons (o := _) rfl (fun K hK => ?_) AllReadyH.nil
        go_simp
        go_at_call 21; refine (F_any _ _ _).mono ?_; rintro e wp ⟨rfl, rfl⟩; have hcur := uppO hcur (below1 w15.drew (Obj.cells #[.int .i64 9, .int .i64 0] 27)); have q1 := And.intro (below_cell (below1 w15.drew (Obj.cells #[.int .i64 9, .int .i64 0] 27)) q0.1) (below_cell (below1 w15.drew (Obj.cells #[.int .i64 9, .int .i64 0] 27)) q0.2)
        (go_wp2_with fail)
        refine hK.out _ _ q1 (fun hHeld2 => ?_)
        clear hK K
        (try simp only [Act.put, List.setIfInBounds_toArray, List.set_cons_zero, List.set_cons_succ])
        refine wpAnyH_take (i := 2) (oi := ?o_2) (v := .bool true) ?ho_2 ?h1_2 ?h2_2 ?h3_2 ?hQ_2 ?hy_2 ?hS_2 ?rest_2
        case ho_2 => (simp only [List.getElem?_toArray, List.getElem?_cons_succ, List.getElem?_cons_zero]; exact rfl)
        case h1_2 => kernel_rfl
        case h2_2 => kernel_rfl
        case h3_2 => kernel_rfl
        case hy_2 => (refine Or.inl ⟨by rfl, fun w hSw => ?_⟩; (try dsimp only at hSw); obtain ⟨hs0, hs1⟩ := hSw; go_simp)
        case hQ_2 => exact fun _ _ _ h => h
        case hS_2 => assumption
        (try simp only [Act.put, List.setIfInBounds_toArray, List.set_cons_zero, List.set_cons_succ])
        refine wpAnyH_take (i := 3) (oi := ?o_3) (v := .bool true) ?ho_3 ?h1_3 ?h2_3 ?h3_3 ?hQ_3 ?hy_3 ?hS_3 ?rest_3
        case ho_3 => (simp only [List.getElem?_toArray, List.getElem?_cons_succ, List.getElem?_cons_zero]; exact rfl)
        case h1_3 => kernel_rfl
        case h2_3 => kernel_rfl
        case h3_3 => kernel_rfl
        case hy_3 => (refine Or.inl ⟨by rfl, fun w hSw => ?_⟩; (try dsimp only at hSw); obtain ⟨hs0, hs1⟩ := hSw; go_simp)
        case hQ_3 => exact fun _ _ _ h => h
        case hS_3 => assumption
        (try simp only [Act.put, List.setIfInBounds_toArray, List.set_cons_zero, List.set_cons_succ])
        refine wpAnyH_take (i := 4) (oi := ?o_4) (v := .slice ao 0 co) ?ho_4 ?h1_4 ?h2_4 ?h3_4 ?hQ_4 ?hy_4 ?hS_4 ?rest_4
        case ho_4 => (simp only [List.getElem?_toArray, List.getElem?_cons_succ, List.getElem?_cons_zero]; exact rfl)
        case h1_4 => kernel_rfl
        case h2_4 => kernel_rfl
        case h3_4 => kernel_rfl
        case hy_4 => (refine Or.inl ⟨by rfl, fun w hSw => ?_⟩; (try dsimp only at hSw); obtain ⟨hs0, hs1⟩ := hSw; go_simp)
        case hQ_4 => exact fun _ _ _ h => h
        case hS_4 => assumption
        (try simp only [Act.put, List.setIfInBounds_toArray, List.set_cons_zero, List.set_cons_succ])
        refine wpAnyH_take (i := 5) (oi := ?o_5) (v := .int .i64 0) ?ho_5 ?h1_5 ?h2_5 ?h3_5 ?hQ_5 ?hy_5 ?hS_5 ?rest_5
        case ho_5 => (simp only [List.getElem?_toArray, List.getElem?_cons_succ, List.getElem?_cons_zero]; exact rfl)
        case h1_5 => kernel_rfl
        case h2_5 => kernel_rfl
        case h3_5 => kernel_rfl
        case hy_5 => (refine Or.inl ⟨by rfl, fun w hSw => ?_⟩; (try dsimp only at hSw); obtain ⟨hs0, hs1⟩ := hSw; go_simp)
        case hQ_5 => exact fun _ _ _ h => h
        case hS_5 => assumption
        (try simp only [Act.put, List.setIfInBounds_toArray, List.set_cons_zero, List.set_cons_succ])
        refine wpAnyH_take (i := 6) (oi := ?o_6) (v := .bool true) ?ho_6 ?h1_6 ?h2_6 ?h3_6 ?hQ_6 ?hy_6 ?hS_6 ?rest_6
        case ho_6 => (simp only [List.getElem?_toArray, List.getElem?_cons_succ, List.getElem?_cons_zero]; exact rfl)
        case h1_6 => kernel_rfl
        case h2_6 => kernel_rfl
        case h3_6 => kernel_rfl
        case hy_6 => (refine Or.inl ⟨by rfl, fun w hSw => ?_⟩; (try dsimp only at hSw); obtain ⟨hs0, hs1⟩ := hSw; go_simp)
        case hQ_6 => exact fun _ _ _ h => h
        case hS_6 => assumption
        (try simp only [Act.put, List.setIfInBounds_toArray, List.set_cons_zero, List.set_cons_succ])
        refine wpAnyH_take (i := 7) (oi := ?o_7) (v := .bool true) ?ho_7 ?h1_7 ?h2_7 ?h3_7 ?hQ_7 ?hy_7 ?hS_7 ?rest_7
        case ho_7 => (simp only [List.getElem?_toArray, List.getElem?_cons_succ, List.getElem?_cons_zero]; exact rfl)
        case h1_7 => kernel_rfl
        case h2_7 => kernel_rfl
        case h3_7 => kernel_rfl
        case hy_7 => (refine Or.inl ⟨by rfl, fun w hSw => ?_⟩; (try dsimp only at hSw); obtain ⟨hs0, hs1⟩ := hSw; go_simp)
        case hQ_7 => exact fun _ _ _ h => h
        case hS_7 => assumption
        (try simp only [Act.put, List.setIfInBounds_toArray, List.set_cons_zero, List.set_cons_succ])
        refine wpAnyH_take (i := 8) (oi := ?o_8) (v := .bool true) ?ho_8 ?h1_8 ?h2_8 ?h3_8 ?hQ_8 ?hy_8 ?hS_8 ?rest_8
        case ho_8 => (simp only [List.getElem?_toArray, List.getElem?_cons_succ, List.getElem?_cons_zero]; exact rfl)
        case h1_8 => kernel_rfl
        case h2_8 => kernel_rfl
        case h3_8 => kernel_rfl
        case hy_8 => (refine Or.inl ⟨by rfl, fun w hSw => ?_⟩; (try dsimp only at hSw); obtain ⟨hs0, hs1⟩ := hSw; go_simp)
        case hQ_8 => exact fun _ _ _ h => h
        case hS_8 => assumption
        (try simp only [Act.put, List.setIfInBounds_toArray, List.set_cons_zero, List.set_cons_succ])
        refine wpAnyH_take (i := 9) (oi := ?o_9) (v := .slice a6 EL.length c6) ?ho_9 ?h1_9 ?h2_9 ?h3_9 ?hQ_9 ?hy_9 ?hS_9 ?rest_9
        case ho_9 => (simp only [List.getElem?_toArray, List.getElem?_cons_succ, List.getElem?_cons_zero]; exact rfl)
        case h1_9 => kernel_rfl
        case h2_9 => kernel_rfl
        case h3_9 => kernel_rfl
        case hy_9 => (refine Or.inl ⟨by rfl, fun w hSw => ?_⟩; (try dsimp only at hSw); obtain ⟨hs0, hs1⟩ := hSw; go_simp)
        case hQ_9 => exact fun _ _ _ h => h
        case hS_9 => assumption
        (try simp only [Act.put, List.setIfInBounds_toArray, List.set_cons_zero, List.set_cons_succ])
        refine wpAnyH_take (i := 10) (oi := ?o_10) (v := .int .i64 (EL.length : Int)) ?ho_10 ?h1_10 ?h2_10 ?h3_10 ?hQ_10 ?hy_10 ?hS_10 ?rest_10
        case ho_10 => (simp only [List.getElem?_toArray, List.getElem?_cons_succ, List.getElem?_cons_zero]; exact rfl)
        case h1_10 => kernel_rfl
        case h2_10 => kernel_rfl
        case h3_10 => kernel_rfl
        case hy_10 => (refine Or.inl ⟨by rfl, fun w hSw => ?_⟩; (try dsimp only at hSw); obtain ⟨hs0, hs1⟩ := hSw; go_simp)
        case hQ_10 => exact fun _ _ _ h => h
        case hS_10 => assumption
        (try simp only [Act.put, List.setIfInBounds_toArray, List.set_cons_zero, List.set_cons_succ])
        refine wpAnyH_take (i := 11) (oi := ?o_11) (v := .bool true) ?ho_11 ?h1_11 ?h2_11 ?h3_11 ?hQ_11 ?hy_11 ?hS_11 ?rest_11
        case ho_11 => (simp only [List.getElem?_toArray, List.getElem?_cons_succ, List.getElem?_cons_zero]; exact rfl)
        case h1_11 => kernel_rfl
        case h2_11 => kernel_rfl
        case h3_11 => kernel_rfl
        case hy_11 => (refine Or.inl ⟨by rfl, fun w hSw => ?_⟩; (try dsimp only at hSw); obtain ⟨hs0, hs1⟩ := hSw; go_simp)
        case hQ_11 => exact fun _ _ _ h => h
        case hS_11 => assumption
        (try simp only [Act.put, List.setIfInBounds_toArray, List.set_cons_zero, List.set_cons_succ])
        refine wpAnyH_take (i := 12) (oi := ?o_12) (v := .bool true) ?ho_12 ?h1_12 ?h2_12 ?h3_12 ?hQ_12 ?hy_12 ?hS_12 ?rest_12
        case ho_12 => (simp only [List.getElem?_toArray, List.getElem?_cons_succ, List.getElem?_cons_zero]; exact rfl)
        case h1_12 => kernel_rfl
        case h2_12 => kernel_rfl
        case h3_12 => kernel_rfl
        case hy_12 => (refine Or.inl ⟨by rfl, fun w hSw => ?_⟩; (try dsimp only at hSw); obtain ⟨hs0, hs1⟩ := hSw; go_simp)
        case hQ_12 => exact fun _ _ _ h => h
        case hS_12 => assumption
        (try simp only [Act.put, List.setIfInBounds_toArray, List.set_cons_zero, List.set_cons_succ])
        refine wpAnyH_take (i := 13) (oi := ?o_13) (v := undef) ?ho_13 ?h1_13 ?h2_13 ?h3_13 ?hQ_13 ?hy_13 ?hS_13 ?rest_13
        case ho_13 => (simp only [List.getElem?_toArray, List.getElem?_cons_succ, List.getElem?_cons_zero]; exact rfl)
        case h1_13 => kernel_rfl
        case h2_13 => kernel_rfl
        case h3_13 => kernel_rfl
        case hy_13 => exact Or.inr ⟨by kernel_rfl, rfl⟩
        case hQ_13 => exact fun _ _ _ h => h
        case hS_13 => assumption
        (try simp only [Act.put, List.setIfInBounds_toArray, List.set_cons_zero, List.set_cons_succ])
        refine wpAnyH_take (i := 14) (oi := ?o_14) (v := undef) ?ho_14 ?h1_14 ?h2_14 ?h3_14 ?hQ_14 ?hy_14 ?hS_14 ?rest_14
        case ho_14 => (simp only [List.getElem?_toArray, List.getElem?_cons_succ, List.getElem?_cons_zero]; exact rfl)
        case h1_14 => kernel_rfl
        case h2_14 => kernel_rfl
        case h3_14 => kernel_rfl
        case hy_14 => exact Or.inr ⟨by kernel_rfl, rfl⟩
        case hQ_14 => exact fun _ _ _ h => h
        case hS_14 => assumption
        (try simp only [Act.put, List.setIfInBounds_toArray, List.set_cons_zero, List.set_cons_succ])
        refine wpAnyH_take (i := 15) (oi := ?o_15) (v := undef) ?ho_15 ?h1_15 ?h2_15 ?h3_15 ?hQ_15 ?hy_15 ?hS_15 ?rest_15
        case ho_15 => (simp only [List.getElem?_toArray, List.getElem?_cons_succ, List.getElem?_cons_zero]; exact rfl)
        case h1_15 => kernel_rfl
        case h2_15 => kernel_rfl
        case h3_15 => kernel_rfl
        case hy_15 => exact Or.inr ⟨by kernel_rfl, rfl⟩
        case hQ_15 => exact fun _ _ _ h => h
        case hS_15 => assumption
        (try simp only [Act.put, List.setIfInBounds_toArray, List.set_cons_zero, List.set_cons_succ])
        refine wpAnyH_take (i := 16) (oi := ?o_16) (v := .bool true) ?ho_16 ?h1_16 ?h2_16 ?h3_16 ?hQ_16 ?hy_16 ?hS_16 ?rest_16
        case ho_16 => (simp only [List.getElem?_toArray, List.getElem?_cons_succ, List.getElem?_cons_zero]; exact rfl)
        case h1_16 => kernel_rfl
        case h2_16 => kernel_rfl
        case h3_16 => kernel_rfl
        case hy_16 => (refine Or.inl ⟨by rfl, fun w hSw => ?_⟩; (try dsimp only at hSw); obtain ⟨hs0, hs1⟩ := hSw; go_simp)
        case hQ_16 => exact fun _ _ _ h => h
        case hS_16 => assumption
        (try simp only [Act.put, List.setIfInBounds_toArray, List.set_cons_zero, List.set_cons_succ])
        refine wpAnyH_take (i := 17) (oi := ?o_17) (v := .bool true) ?ho_17 ?h1_17 ?h2_17 ?h3_17 ?hQ_17 ?hy_17 ?hS_17 ?rest_17
        case ho_17 => (simp only [List.getElem?_toArray, List.getElem?_cons_succ, List.getElem?_cons_zero]; exact rfl)
        case h1_17 => kernel_rfl
        case h2_17 => kernel_rfl
        case h3_17 => kernel_rfl
        case hy_17 => (refine Or.inl ⟨by rfl, fun w hSw => ?_⟩; (try dsimp only at hSw); obtain ⟨hs0, hs1⟩ := hSw; go_simp)
        case hQ_17 => exact fun _ _ _ h => h
        case hS_17 => assumption
        (try simp only [Act.put, List.setIfInBounds_toArray, List.set_cons_zero, List.set_cons_succ])
        refine wpAnyH_take (i := 18) (oi := ?o_18) (v := .bool true) ?ho_18 ?h1_18 ?h2_18 ?h3_18 ?hQ_18 ?hy_18 ?hS_18 ?rest_18
        case ho_18 => (simp only [List.getElem?_toArray, List.getElem?_cons_succ, List.getElem?_cons_zero]; exact rfl)
        case h1_18 => kernel_rfl
        case h2_18 => kernel_rfl
        case h3_18 => kernel_rfl
        case hy_18 => (refine Or.inl ⟨by rfl, fun w hSw => ?_⟩; (try dsimp only at hSw); obtain ⟨hs0, hs1⟩ := hSw; go_simp)
        case hQ_18 => exact fun _ _ _ h => h
        case hS_18 => assumption
        (try simp only [Act.put, List.setIfInBounds_toArray, List.set_cons_zero, List.set_cons_succ])
        refine wpAnyH_done (by kernel_rfl) ?_ _
        go_wp2
        go_ret
        exact ⟨rfl, uppO E15.out.hb hcur⟩
    · have Hk := Lib.hid hok
      clear hok HC
      have hlen := Hk.out.len
      rw [HEL.out] at hlen
      have hbl : ((LE.length : Int) != (EL.length : Int)) = false := by rw [hlen]; simp
      have hle : LE.length ≤ 1000 := Hk.out.good.len
      have Hlen := Lib.hid hlen
      clear hlen
      have cn := E15.out.cn
      have cs := E15.out.cs
      go_upto_region 11 with fail
      clear hfe g0 g1
      have HEL2 := HEL
      obtain ⟨a7, c7, b7, o7, e7, hcap, hmax, hadr, -, hcell⟩ := I15.out
      obtain ⟨rfl, rfl⟩ : ao = a7 ∧ co = c7 := by simpa using e7
      have Hc := Lib.hid hcell; have Hadr := Lib.hid hadr
      clear hcell hadr e7 hcap hmax
      go_wp2
      go_loopg [8] (LE.length - 1) (fun g s8 wr => ∃ i mm : Nat, 1 ≤ i ∧ (i ≤ LE.length ∨ i = 1) ∧ g = LE.length - i ∧ s8 = .int .i64 i ∧ wr = w15.drewN mm)
      case atStart => exact ⟨1, 0, Nat.le_refl _, .inr rfl, rfl, rfl, rfl⟩
      case round =>
        obtain ⟨i, mm, hi1, hi, rfl, rfl, rfl⟩ := hrel
        by_cases hil : i < LE.length
        · obtain rfl := Hadr.out (by omega)
          obtain ⟨y0, y1⟩ := Hc.out i hil
          obtain ⟨x0, x1⟩ := Hc.out (i - 1) (by omega)
          have hlex := Hk.out.up (i - 1) (by omega)
          rw [show i - 1 + 1 = i by omega] at hlex
          generalize LE.getD i (0, 0) = q at *
          generalize LE.getD (i - 1) (0, 0) = p at *
          obtain ⟨p1, p2⟩ := p
          obtain ⟨q1, q2⟩ := q
          unfold LexLt at hlex
          simp only at x0 x1 y0 y1 hlex
          have p5 : i - 1 < LE.length := by omega
          have p3 : IntKind.i64.wrap ((i : Int) - 1) = ((i - 1 : Nat) : Int) := by
            rw [show (i : Int) - 1 = ((i - 1 : Nat) : Int) by omega]
            exact IntWalk.i64_in _ (by omega)
          clear hi hbl
          by_cases hpq : p1 = q1
          · subst hpq
            have z1 : decide (p1 < p1) = false := by simp
            have z2 : decide (q2 ≤ p2) = false := decide_eq_false (by omega)
            clear hlex
            go_wp2
            go_quiet (fail)
            go_wp2
            go_roundg (LE.length - (i + 1))
            case measure => go_light; omega
            case rel => exact ⟨i + 1, mm + nq, by omega, .inl (by omega), rfl, by go_num, rfl⟩
          · have z1 : decide (q1 < p1) = false := decide_eq_false (by omega)
            have z2 : (p1 == q1) = false := by simp [hpq]
            have z3 : decide (p1 = q1) = false := decide_eq_false hpq
            clear hlex
            go_wp2
            go_quiet (fail)
            go_wp2
            go_roundg (LE.length - (i + 1))
            case measure => go_light; omega
            case rel => exact ⟨i + 1, mm + nq, by omega, .inl (by omega), rfl, by go_num, rfl⟩
        · have hq : decide ((i : Int) < (LE.length : Int)) = false := decide_eq_false (by omega)
          have hq2 : ¬ (i : Int) < (LE.length : Int) := by omega
          clear hi
          go_wp2
          clear hq hq2 hil
          go_loopg [9] LE.length (fun g s9 wr => ∃ j m2 : Nat, j ≤ LE.length ∧ g = LE.length - j ∧ s9 = .int .i64 j ∧ wr = w15.drewN m2)
          case atStart => exact ⟨0, mm, Nat.zero_le _, rfl, rfl, rfl⟩
          case round =>
            obtain ⟨j, m2, hj, rfl, rfl, rfl⟩ := hrel
            by_cases hjl : j < LE.length
            · obtain rfl := Hadr.out (by omega)
              obtain ⟨y0, y1⟩ := Hc.out j hjl
              obtain ⟨⟨k1, k2, k3, k4⟩, -⟩ := Hk.out.rg j hjl
              generalize LE.getD j (0, 0) = q at *
              obtain ⟨q1, q2⟩ := q
              simp only at y0 y1 k1 k2 k3 k4
              have z1 : decide (q1 < 0) = false := decide_eq_false (by omega)
              have z2 : decide (q2 < 0) = false := decide_eq_false (by omega)
              have z3 : decide ((N : Int) ≤ q1) = false := decide_eq_false (by omega)
              have z4 : decide ((N : Int) ≤ q2) = false := decide_eq_false (by omega)
              clear k1 k2 k3 k4 hj hbl
              go_wp2
              go_quiet (fail)
              go_wp2
              go_roundg (LE.length - (j + 1))
              case measure => go_light; omega
              case rel => exact ⟨j + 1, m2 + nq, by omega, rfl, by go_num, rfl⟩
            · obtain rfl : j = LE.length := by omega
              have E16 := Lib.hid (E15.out.below (Below.drewN' (Below.refl _ _) m2)); have I16 := Lib.hid (I15.out.below (Below.drewN' (Below.refl _ _) m2)); have O16 := Lib.hid (O15.out.below (Below.drewN' (Below.refl _ _) m2))
              clear cn cs hj hjl
              generalize w15.drewN m2 = w16 at *
              have cn := E16.out.cn
              have cs := E16.out.cs
              go_wp2_with fail
              refine (rcheck_any LE (N : Int) _ _ I16.out).mono ?_
              rintro e w17 ⟨c, a, hsp2, rfl, hb17⟩
              obtain ⟨e1, e2⟩ := GraphSpec.uniq hsp2 Hk.out.good.spec
              subst e1 e2
              have E17 := Lib.hid (E16.out.below hb17); have I17 := Lib.hid (I16.out.below hb17); have O17 := Lib.hid (O16.out.below hb17)
              have hfc : (Instr.field 27 (.agg #[.int .i64 0, .int .i64 0]) 0).run Try.prog w17 = .ok (.int .i64 0) w17 := by kernel_rfl
              clear cn cs hb17 hsp2 E16 I16 O16
              have cn := E17.out.cn
              have cs := E17.out.cs
              go_wp2_with fail
              refine (gridOf_any LE N _ _ I17.out hN Hk.out.rg).mono ?_
              rintro e w18 ⟨v8, rfl, hg18, hb18⟩
              have Hg18 := Lib.hid (show HasGrid w18 v8 N (adj LE) from ⟨_, hg18⟩)
              have E18 := Lib.hid (E17.out.below hb18); have I18 := Lib.hid (I17.out.below hb18); have O18 := Lib.hid (O17.out.below hb18)
              clear hg18 hb18 cn cs hfc E17 I17 O17
              go_wp2_with fail
              refine (of_any N (adj LE) v8 w18 hN Hg18.out).mono ?_
              rintro e w19 ⟨v9, ho19, hb19, rfl⟩
              have hsame := Hk.out.same
              rw [HEL2.out] at hsame
              rw [hsame] at ho19
              obtain ⟨a9, c9, rfl⟩ := ho19.form
              have E19 := Lib.hid (E18.out.below hb19); have I19 := Lib.hid (I18.out.below hb19); have O19 := Lib.hid (O18.out.below hb19); have P19 := Lib.hid ho19.edges
              clear ho19 hb19 hsame E18 I18 O18 Hg18
              have hfe2 : (Instr.field 24 (.agg #[.int .i64 (N : Int), .slice a9 EL.length c9]) 1).run Try.prog w19 = .ok (.slice a9 EL.length c9) w19 := by kernel_rfl
              go_wp2_with fail
              refine (rpairs_any EL EL _ _ w19 P19.out O19.out).mono ?_
              rintro e w20 ⟨rfl, hb20⟩
              rw [show decide (EL = EL) = true by simp]
              have E20 := Lib.hid (E19.out.below hb20); have I20 := Lib.hid (I19.out.below hb20)
              clear hb20 hfe2 E19 I19 O19 P19
              go_wp2_with fail
              refine (trans_any LE _ w20 I20.out (by omega)).mono ?_
              rintro e w21 ⟨b, rfl, hbg, hb21⟩
              obtain rfl : b = true := hbg.2 Hk.out.goes
              have E21 := Lib.hid (E20.out.below hb21)
              clear hb21 hbg E20 I20
              go_wp2
              go_ret
              exact ⟨rfl, E21.out.hb⟩

end Go.Proofs.Ytnhhohhhpaejmaa
