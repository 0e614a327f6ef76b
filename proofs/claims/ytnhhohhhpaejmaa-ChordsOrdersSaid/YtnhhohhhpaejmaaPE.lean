/- chords.Orders: its memory. chords.Orders: the arcs that go on, or none. -/
import Derived.Test.YtnhhohhhpaejmaaPO
import Derived.Test.YtnhhohhhpaejmaaFoW
import Derived.Test.YtnhhohhhpaejmaaOrdC
import Derived.Test.YtnhhohhhpaejmaaCsmW
import Derived.Test.YtnhhohhhpaejmaaOrdW
import Derived.Test.YtnhhohhhpaejmaaFormF
import Derived.Test.YtnhhohhhpaejmaaPD
import Derived.Deep.RegionLaw
namespace Go.Proofs.Ytnhhohhhpaejmaa
open Go Go.RowKit Go.Maps

/-- The table that is cut down, the arcs laid so far. -/
structure OrSt (wB w : World) (N S gb go : Nat) (R : Nat → Nat) (t : Nat → Nat → Bool) (v : Value) (L : List (Nat × Nat)) : Prop where
  hb : Below wB.heap.size wB w
  grid : Grid w wB.heap.size gb go N R t
  gs : ∀ i, i < N → R i < S
  hs : 0 < N → gb < S
  own : OwnE w S v (L.map castE)
  sz : S ≤ w.heap.size
  lo : wB.heap.size ≤ S
theorem OrSt.below {wB w w' : World} {N S gb go : Nat} {R : Nat → Nat} {t : Nat → Nat → Bool} {v : Value} {L : List (Nat × Nat)} (h : OrSt wB w N S gb go R t v L) (hb : Below w.heap.size w w') : OrSt wB w' N S gb go R t v L :=
  ⟨h.hb.trans (hb.mono (by have := h.sz; have := h.lo; omega)), h.grid.below hb, h.gs, h.hs, h.own.below hb, by have := h.sz; have := hb.size; omega, h.lo⟩
theorem Grid.keep {w w' : World} {B b o n : Nat} {R : Nat → Nat} {G : Nat → Nat → Bool} (h : Grid w B b o n R G) (hb : 0 < n → w'.heap[b]? = w.heap[b]?) (hr : ∀ i, i < n → w'.heap[R i]? = w.heap[R i]?) : Grid w' B b o n R G :=
  ⟨h.new, h.inj, fun i hi => (World.cell?_of_block (a := ⟨b, o + i, none⟩) (hb (by omega))).trans (h.head i hi), fun i hi => (h.row i hi).of_block (hr i hi), h.off⟩
theorem OrSt.keep {wB w w' : World} {N S gb go : Nat} {R : Nat → Nat} {t : Nat → Nat → Bool} {v : Value} {L : List (Nat × Nat)} {row : Option Nat} (h : OrSt wB w N S gb go R t v L) (hg : w.grownBy w' row) (hr : ∀ g, row = some g → S ≤ g ∧ v.ownBlock ≠ some g) : OrSt wB w' N S gb go R t v L := by
  have h1 := h.sz
  have h2 := h.lo
  refine ⟨h.hb.grown hg (by omega) (fun g e => by have := (hr g e).1; omega), h.grid.keep (fun hp => hg.block _ (by have := h.hs hp; omega) (fun e => by have := (hr gb e.symm).1; have := h.hs hp; omega)) fun i hi => hg.block _ (by have := h.gs i hi; omega) (fun e => by have := (hr (R i) e.symm).1; have := h.gs i hi; omega), h.gs, h.hs, ?_, by have := hg.size; omega, h.lo⟩
  refine World.ownsRow.kept h.own hg ?_
  cases hv : v.ownBlock with
  | none => exact .inl rfl
  | some g => exact .inr fun e => (hr g e.symm).2 hv
theorem OrSt.start {wB w : World} {N gb go : Nat} {R : Nat → Nat} {t : Nat → Nat → Bool} (hb : Below wB.heap.size wB w) (hg : Grid w wB.heap.size gb go N R t) : OrSt wB w N w.heap.size gb go R t (.slice none 0 0) [] := by
  refine ⟨hb, hg, fun i hi => (hg.row i hi).lt, fun hp => ?_, OwnE.nil _ _, Nat.le_refl _, hb.size⟩
  have h0 := hg.head 0 hp
  refine Classical.byContradiction fun hn => ?_
  have : w.heap[gb]? = none := Array.getElem?_eq_none (by omega)
  simp [World.cell?, this] at h0
/-- Two entries of the table are put out. -/
theorem OrSt.cut {wB w : World} {N S gb go : Nat} {R : Nat → Nat} {t J : Nat → Nat → Bool} {v : Value} {L : List (Nat × Nat)} (h : OrSt wB w N S gb go R (cutT t J) v L) {i j : Nat} (hi : i < N) (hj : j < N) :
    OrSt wB ((w.setCell ⟨R i, j, none⟩ (.bool false)).setCell ⟨R j, i, none⟩ (.bool false)) N S gb go R (cutT t (fun a b => J a b || (decide (a = i) && decide (b = j)))) v L := by
  have h1 := h.sz
  have g2 := ((h.grid.set hi j false).set hj i false)
  rw [cutT_add]
  have hRi := h.grid.new i hi
  have hRj := h.grid.new j hj
  have hSi := h.gs i hi
  have hSj := h.gs j hj
  refine ⟨(h.hb.setCell (p := ⟨R i, j, none⟩) hRi _).setCell (p := ⟨R j, i, none⟩) hRj _, g2, h.gs, h.hs, (h.own.set (B := R i) hSi j _).set (B := R j) hSj i _, ?_, h.lo⟩
  simpa using h1
/-- The arcs have grown. -/
theorem OrSt.push {wB w w' : World} {N S gb go : Nat} {R : Nat → Nat} {t : Nat → Nat → Bool} {v v' : Value} {L L' : List (Nat × Nat)} (h : OrSt wB w N S gb go R t v L) (ho : OwnE w' S v' (L'.map castE)) (hg : w.grownBy w' v.ownBlock) : OrSt wB w' N S gb go R t v' L' := by
  have h1 := h.sz
  have h2 := h.lo
  have hS : ∀ g, v.ownBlock = some g → S ≤ g := fun g e => (World.ownsRow.lt h.own g e).1
  exact ⟨h.hb.grown hg (by omega) (fun g e => by have := hS g e; omega), h.grid.keep (fun hp => hg.block _ (by have := h.hs hp; omega) (fun e => by have := hS gb e.symm; have := h.hs hp; omega)) fun i hi => hg.block _ (by have := h.gs i hi; omega) (fun e => by have := hS (R i) e.symm; have := h.gs i hi; omega), h.gs, h.hs, ho, by have := hg.size; omega, h.lo⟩
/-- One's own edges do not lie where something else lies. -/
theorem own_not {w : World} {S b : Nat} {v : Value} {L : List (Int × Int)} (h : OwnE w S v L) {x : Obj} (hx : w.heap[b]? = some x) (hn : ∀ c t f, x ≠ .cells c t f) : v.ownBlock ≠ some b := by
  intro e
  have h0 : w.ownsRow S 52 2 v L.length (cells2 L) := h
  rcases h0.2 with ⟨rfl, -⟩ | ⟨g, cap, cur, rfl, h1, h2, -⟩
  · cases e
  · obtain rfl := Option.some.inj e
    have h2' : w.heap[g]? = _ := h2
    rw [hx] at h2'
    exact hn _ _ _ (Option.some.inj h2')
theorem ranges_blocks {w : World} {k : TypeId} {R : Value → Option (DataW Unit × List MemPlace)} {b r n : Nat} {D : DataW Unit} {left : Lit → Bool} {cnt : Nat} (h : w.ranges Try.prog k R b r n D left cnt) {S : Nat} {v : Value} {L : List (Int × Int)} (ho : OwnE w S v L) : v.ownBlock ≠ some b ∧ v.ownBlock ≠ some r := by
  obtain ⟨es, clock, since, seen, c0, h1, -, -, -, h2, -⟩ := h
  exact ⟨own_not ho h1 (fun _ _ _ e => by cases e), own_not ho h2 (fun _ _ _ e => by cases e)⟩

/-- A class, half gone through: its arcs are laid, and put out in the table. -/
structure OrRg (wB w : World) (N S gb go : Nat) (R : Nat → Nat) (t I J : Nat → Nat → Bool) (v : Value) (L K : List (Nat × Nat)) (BM RR n : Nat) (D : DataW Unit) (left : Lit → Bool) (cnt : Nat) : Prop where
  st : OrSt wB w N S gb go R (cutT t J) v (L ++ K)
  rg : w.ranges Try.prog 52 (plainElem Try.prog 4) BM RR n D left cnt
  left : PLeft N I J left
  sub : ∀ a b, J a b = true → I a b = true
  nd : K.Nodup
  iff : ∀ a b, (a, b) ∈ K ↔ J a b = true
  bm : S ≤ BM
  rr : S ≤ RR
/-- Both entries of an arc are put out. -/
theorem OrSt.cut2 {wB w : World} {N S gb go : Nat} {R : Nat → Nat} {t J : Nat → Nat → Bool} {v : Value} {L : List (Nat × Nat)} (h : OrSt wB w N S gb go R (cutT t J) v L) {i j : Nat} (hi : i < N) (hj : j < N)
    {q BM RR n cnt : Nat} {D : DataW Unit} {left : Lit → Bool} (hq : S ≤ q) (hb : S ≤ BM) (hr : S ≤ RR) (c0 : w.cell? ⟨q, 0, none⟩ = some (.int .i64 (i : Int))) (c1 : w.cell? ⟨q, 1, none⟩ = some (.int .i64 (j : Int)))
    (rg : w.ranges Try.prog 52 (plainElem Try.prog 4) BM RR n D left cnt) {W : World} (e : W = ((w.setCell ⟨R i, j, none⟩ (.bool false)).setCell ⟨R j, i, none⟩ (.bool false)).drew) :
    OrSt wB W N S gb go R (cutT t (fun a b => J a b || (decide (a = i) && decide (b = j)))) v L ∧ W.cell? ⟨q, 0, none⟩ = some (.int .i64 (i : Int)) ∧ W.cell? ⟨q, 1, none⟩ = some (.int .i64 (j : Int)) ∧ W.ranges Try.prog 52 (plainElem Try.prog 4) BM RR n D left cnt := by
  have hSi := h.gs i hi
  have hSj := h.gs j hj
  have T3 := (h.cut hi hj).below (Below.refl _ _).drew
  have r1 := rg.kept (grown_set w (R i) j (.bool false)) (fun e => by have := Option.some.inj e; omega) (fun e => by have := Option.some.inj e; omega)
  have r2 := r1.kept (grown_set _ (R j) i (.bool false)) (fun e => by have := Option.some.inj e; omega) (fun e => by have := Option.some.inj e; omega)
  have r3 : ((w.setCell ⟨R i, j, none⟩ (.bool false)).setCell ⟨R j, i, none⟩ (.bool false)).drew.ranges Try.prog 52 (plainElem Try.prog 4) BM RR n D left cnt := r2
  have far : ∀ k, W.cell? ⟨q, k, none⟩ = w.cell? ⟨q, k, none⟩ := fun k => by
    have e1 : W.cell? ⟨q, k, none⟩ = ((w.setCell ⟨R i, j, none⟩ (.bool false)).setCell ⟨R j, i, none⟩ (.bool false)).cell? ⟨q, k, none⟩ := by rw [e]; rfl
    rw [e1, World.cell?_setCell_far _ _ _ _ (show (⟨R j, i, none⟩ : Addr).block ≠ (⟨q, k, none⟩ : Addr).block by show R j ≠ q; omega), World.cell?_setCell_far _ _ _ _ (show (⟨R i, j, none⟩ : Addr).block ≠ (⟨q, k, none⟩ : Addr).block by show R i ≠ q; omega)]
  rw [← e] at T3 r3
  exact ⟨T3, (far 0).trans c0, (far 1).trans c1, r3⟩
/-- The arc is laid. -/
theorem OrRg.lay {wB w3 w5 : World} {N S gb go : Nat} {R : Nat → Nat} {t I J : Nat → Nat → Bool} {v v5 : Value} {L K : List (Nat × Nat)} {BM RR n cnt : Nat} {D : DataW Unit} {left : Lit → Bool} {i j : Nat} {kl : Lit} (hk : KeyP i j kl) (hl : PLeft N I J left) (hsub : ∀ a b, J a b = true → I a b = true) (hnd : K.Nodup) (hiff : ∀ a b, (a, b) ∈ K ↔ J a b = true) (hI : I i j = true) (hJ : J i j = false) (hb : S ≤ BM) (hr : S ≤ RR)
    (h : OrSt wB w3 N S gb go R (cutT t (fun a b => J a b || (decide (a = i) && decide (b = j)))) v (L ++ K)) (rg : w3.ranges Try.prog 52 (plainElem Try.prog 4) BM RR n D (fun z => left z && !z.sameKey kl) cnt)
    (ho : OwnE w5 S v5 ((L ++ (K ++ [(i, j)])).map castE)) (hg : w3.grownBy w5 v.ownBlock) :
    OrRg wB w5 N S gb go R t I (fun a b => J a b || (decide (a = i) && decide (b = j))) v5 L (K ++ [(i, j)]) BM RR n D (fun z => left z && !z.sameKey kl) cnt := by
  obtain ⟨b1, b2⟩ := ranges_blocks rg h.own
  refine ⟨h.push ho hg, rg.kept hg (fun e => b1 e.symm) (fun e => b2 e.symm), hl.next hk, fun a b k => ?_, ?_, fun a b => ?_, hb, hr⟩
  · simp only [Bool.or_eq_true, Bool.and_eq_true, decide_eq_true_eq] at k
    rcases k with k | ⟨rfl, rfl⟩
    · exact hsub a b k
    · exact hI
  · refine List.nodup_append.2 ⟨hnd, by simp, fun p hp q hq e => ?_⟩
    obtain rfl := List.mem_singleton.1 hq
    subst e
    have := (hiff _ _).1 hp
    rw [hJ] at this
    cases this
  · rw [List.mem_append, hiff]
    simp

end Go.Proofs.Ytnhhohhhpaejmaa
namespace Go.Proofs.Ytnhhohhhpaejmaa
open Go Go.RowKit Go.Maps

theorem prs_atO {N : Nat} {p : Nat → Nat → Bool} {j : Nat} (hj : j < (prsTo N p N).length) : ∃ x y : Nat, (prsTo N p N).getD j (0, 0) = ((x : Int), (y : Int)) ∧ x < y ∧ y < N ∧ p x y = true := by
  have he : (prsTo N p N).getD j (0, 0) ∈ prsTo N p N := by rw [List.getD, List.getElem?_eq_getElem hj]; exact List.getElem_mem hj
  obtain ⟨i, k, h1, h2, h3, h4, e⟩ := mem_prsTo.1 he
  exact ⟨i, k, e, h2, h3, h4⟩
theorem own_as {w : World} {S i j : Nat} {v : Value} {L K : List (Nat × Nat)} (h : OwnE w S v ((L ++ K).map castE ++ [((i : Int), (j : Int))])) : OwnE w S v ((L ++ (K ++ [(i, j)])).map castE) := by
  have e : (L ++ (K ++ [(i, j)])).map castE = (L ++ K).map castE ++ [((i : Int), (j : Int))] := by simp
  rw [e]; exact h
theorem perm_cast {L : List (Nat × Nat)} {L' : List (Int × Int)} (h : L'.Perm (L.map castE)) : ∃ L2 : List (Nat × Nat), L' = L2.map castE ∧ L2.Perm L := by
  refine ⟨L'.map fun e => (e.1.toNat, e.2.toNat), ?_, ?_⟩
  · rw [List.map_map]
    conv => lhs; rw [← List.map_id L']
    refine List.map_congr_left fun e he => ?_
    obtain ⟨p, -, rfl⟩ := List.mem_map.1 (h.mem_iff.1 he)
    simp
  · have := h.map fun e : Int × Int => (e.1.toNat, e.2.toNat)
    rw [List.map_map] at this
    have e : L.map ((fun e : Int × Int => (e.1.toNat, e.2.toNat)) ∘ castE) = L := by
      conv => rhs; rw [← List.map_id L]
      exact List.map_congr_left fun p _ => by simp
    rwa [e] at this
theorem all_out {N m : Nat} {l : List (Int × Int)} {t : Nat → Nat → Bool} {L : List (Nat × Nat)} (hO : OInv N (adj l) t L) (hm : (prsTo N (adj l) N).length = m) (hd : ∀ j, j < m → ∀ x y : Nat, (prsTo N (adj l) N).getD j (0, 0) = ((x : Int), (y : Int)) → t x y = false) (a b : Nat) (ha : a < N) (hb : b < N) : t a b = false := by
  have key : ∀ a b, a < b → b < N → t a b = false := fun a b hab hb => by
    cases e : t a b
    · rfl
    · have hin : ((a : Int), (b : Int)) ∈ prsTo N (adj l) N := mem_prsTo.2 ⟨a, b, by omega, hab, hb, hO.sub _ _ e, rfl⟩
      obtain ⟨j, hj, ej⟩ := List.getElem_of_mem hin
      have := hd j (by omega) a b (by rw [List.getD, List.getElem?_eq_getElem hj]; exact ej)
      rw [e] at this; cases this
  rcases Nat.lt_trichotomy a b with h | h | h
  · exact key a b h hb
  · subst h; exact hO.irr a
  · rw [hO.sym]; exact key b a h ha
/-- What chords.Orders answers. -/
def OrsPost (n : Int) (l : List (Int × Int)) (w : World) (e : Ending) (w' : World) : Prop :=
  ∃ c a v, e = .returned (.tuple #[v, .agg #[.int .i64 c, .int .i64 a]]) ∧ Below w.heap.size w w' ∧
    ((c ≠ 0 ∧ GraphSpec n l c a ∧ v = .slice none 0 0) ∨
     ∃ N : Nat, n = (N : Int) ∧ GoodGraph n l ∧ a = 0 ∧ ((c = 9 ∧ v = .slice none 0 0 ∧ ¬ ∃ F, TOr (TN N (adj l)) F) ∨
      (c = 0 ∧ ∃ L : List (Nat × Nat), OwnE w' w.heap.size v (L.map castE) ∧ L.Nodup ∧ (L.map castE).Pairwise (fun a b => ¬ LexLt b a) ∧ TOr (TN N (adj l)) (fun a b => (a, b) ∈ L))))

set_option maxHeartbeats 6400000 in
set_option maxRecDepth 100000 in
theorem orders_any (n : Int) (l : List (Int × Int)) (s : Value) (w : World) (h : IsEdges w s l) :
    Calls Try.prog 19 #[.agg #[.int .i64 n, s]] w (OrsPost n l w) := by
  obtain ⟨ad, cap, rfl⟩ := h.form
  have St := Lib.hid (WkG.start (n := n) h)
  clear h
  obtain ⟨c, a, hsp⟩ := GraphSpec.ex n l
  have Hsp := Lib.hid hsp
  go_enter Try.func19, Try.ntmps19
  go_upto_region 1 with fail
  generalize (w.alloc (Obj.cells #[.int .i64 n, .slice ad l.length cap] 24)).alloc (Obj.cells #[.int .i64 0, .int .i64 0] 27) = w1 at *
  have cn := St.out.cn
  have cs := St.out.cs
  have hlS := St.out.r.lt
  by_cases hc : c = 0
  · subst hc
    obtain ⟨hgood, rfl⟩ := hsp.good
    obtain ⟨N, rfl⟩ := Int.eq_ofNat_of_zero_le hgood.lo
    have hN : N ≤ 100 := by have := hgood.hi; omega
    have Hg := Lib.hid hgood
    have Hlen := Lib.hid (form_length hgood)
    have hl1 := hgood.len
    clear hsp hgood
    go_upto_region 2 with (go_at_call 42; refine (form_ok Hg.out _ w1 St.out.he).mono ?_; rintro e w2 ⟨v, ho, hb2, rfl⟩; have Ho := Lib.hid ho; have Hb2 := Lib.hid hb2; obtain ⟨a2, c2, rfl⟩ := ho.form; clear ho hb2)
    have hbF := upc Hb2.out (below2 w2 (Obj.cells #[.int .i64 (N : Int), .slice a2 (formL N l).length c2] 24) (Obj.cells #[.int .i64 0, .int .i64 0] 27))
    have S4 := Lib.hid (St.out.below hbF)
    have hoe := Ho.out.edges.below (below2 w2 (Obj.cells #[.int .i64 (N : Int), .slice a2 (formL N l).length c2] 24) (Obj.cells #[.int .i64 0, .int .i64 0] 27))
    have gs := below_cell (below1 (w2.alloc (Obj.cells #[.int .i64 (N : Int), .slice a2 (formL N l).length c2] 24)) (Obj.cells #[.int .i64 0, .int .i64 0] 27)) (two_cells w2 (.int .i64 (N : Int)) (.slice a2 (formL N l).length c2) 24).2
    have fv := two_cells (w2.alloc (Obj.cells #[.int .i64 (N : Int), .slice a2 (formL N l).length c2] 24)) (.int .i64 0) (.int .i64 0) 27
    rw [World.size_alloc] at fv
    have hszF : ((w2.alloc (Obj.cells #[.int .i64 (N : Int), .slice a2 (formL N l).length c2] 24)).alloc (Obj.cells #[.int .i64 0, .int .i64 0] 27)).heap.size = w2.heap.size + 2 := by rw [World.size_alloc, World.size_alloc]
    have hz2 := Hb2.out.size
    clear hbF cn cs
    generalize (w2.alloc (Obj.cells #[.int .i64 (N : Int), .slice a2 (formL N l).length c2] 24)).alloc (Obj.cells #[.int .i64 0, .int .i64 0] 27) = w4 at *
    obtain ⟨E, hE⟩ : ∃ E, E = w2.heap.size := ⟨_, rfl⟩
    rw [← hE] at gs fv hszF hz2 ⊢
    have hL : formL N l = prsTo N (adj l) N := rfl
    rw [hL] at hoe gs ⊢
    have Hoe := Lib.hid hoe
    obtain ⟨m, hm⟩ : ∃ m, (prsTo N (adj l) N).length = m := ⟨_, rfl⟩
    rw [hm] at gs Hoe Hlen ⊢
    have hm1 : m ≤ 1000 := by have := Hlen.out; omega
    have Hm := Lib.hid hm
    obtain ⟨f0, f1⟩ := fv
    clear hoe hE hL hm Ho Hb2
    have cn := S4.out.cn
    have cs := S4.out.cs
    go_upto_region 5 with (go_at_call 30; refine (table_any l N _ _ S4.out.he (by omega) (good_endsC Hg.out)).mono ?_; rintro e w5 ⟨tv, rfl, hgrid, hb5⟩; have Hgrid := Lib.hid hgrid; have Hb5 := Lib.hid hb5; clear hgrid hb5)
    obtain ⟨ga, gc, gb, gof, R, rfl, hgc, hga, hgrid⟩ := Hgrid.out
    have T5 := Lib.hid (OrSt.start Hb5.out hgrid)
    have O0 := Lib.hid (OInv.start (N := N) (t0 := adj l) (adj_symm l) (adj_self fun j hj => (Hg.out.fine j hj).2.1))
    have gs5 := below_cell Hb5.out gs
    have f05 := below_cell Hb5.out f0
    have f15 := below_cell Hb5.out f1
    have E5 := Lib.hid (Hoe.out.below Hb5.out)
    have hz5 := Hb5.out.size
    clear hgrid cn cs
    go_wp2
    obtain ⟨S, hS⟩ : ∃ S, S = w5.heap.size := ⟨_, rfl⟩
    rw [← hS] at T5
    go_loopg [7, 27] m (fun g s7 s27 wr => ∃ (k : Nat) (t : Nat → Nat → Bool) (v : Value) (L : List (Nat × Nat)), k ≤ m ∧ g = m - k ∧ s7 = v ∧ s27 = .int .i64 (k : Int) ∧ OrSt w4 wr N S gb gof R t v L ∧ OInv N (adj l) t L ∧ ∀ j, j < k → ∀ x y : Nat, (prsTo N (adj l) N).getD j (0, 0) = ((x : Int), (y : Int)) → t x y = false)
    case atStart => exact ⟨0, _, _, _, Nat.zero_le _, rfl, rfl, rfl, T5.out, O0.out, fun j hj => absurd hj (Nat.not_lt_zero _)⟩
    case round =>
      obtain ⟨k, t, v, L, hk, rfl, rfl, rfl, hst, hO, hdn⟩ := hrel
      obtain ⟨va, vc, rfl⟩ := hst.own.form
      rw [List.length_map] at hst
      have Hst := Lib.hid hst; have HO := Lib.hid hO; have Hdn := Lib.hid hdn
      clear hst hO hdn
      by_cases hlt : k < m
      · obtain ⟨x, y, exy, hxy, hy, hpx⟩ := prs_atO (N := N) (p := adj l) (j := k) (by rw [Hm.out]; exact hlt)
        obtain ⟨ad', cp', bb, o, e, hcap, hmax, hadr, -, hcell⟩ := Hoe.out
        rw [Hm.out] at e hadr hcell
        simp only [Value.slice.injEq, true_and] at e
        obtain ⟨rfl, rfl⟩ := e
        obtain rfl := hadr (by omega)
        obtain ⟨ck0, ck1⟩ := hcell k hlt
        rw [exy] at ck0 ck1
        have ck0 := below_cell Hst.out.hb ck0
        have ck1 := below_cell Hst.out.hb ck1
        have Exy := Lib.hid exy
        have b6 := below1 wr (Obj.cells #[.int .i64 (x : Int), .int .i64 (y : Int)] 52)
        have S6 := Lib.hid (Hst.out.below b6)
        obtain ⟨e0, e1⟩ := two_cells wr (.int .i64 (x : Int)) (.int .i64 (y : Int)) 52
        have g1 := S6.out.grid.head x (by omega)
        have g2 := S6.out.grid.cell (show x < N by omega) hy
        clear hcell hadr hcap hmax b6 exy
        go_upto_region 9 with fail
        generalize wr.alloc (Obj.cells #[.int .i64 (x : Int), .int .i64 (y : Int)] 52) = w6 at *
        obtain rfl := (hga (by omega)).1
        cases htx : t x y
        · rw [htx] at g2
          have Htx := Lib.hid htx
          clear htx
          go_quiet (fail)
          go_wp2
          go_roundg (m - (k + 1))
          case measure => go_light; omega
          case rel => exact ⟨k + 1, t, _, L, by omega, rfl, rfl, by go_num, S6.out.below (Below.drewN' (Below.refl _ _) _), HO.out, fun j hj a b hab => by
            by_cases ej : j = k
            · subst ej
              rw [Exy.out] at hab
              simp only [Prod.mk.injEq] at hab
              have h1 : x = a := by omega
              have h2 : y = b := by omega
              rw [← h1, ← h2]; exact Htx.out
            · exact Hdn.out j (by omega) a b hab⟩
        · rw [htx] at g2
          have Htx := Lib.hid htx
          clear htx
          have hgr : HasGrid w6 (.slice (some ⟨gb, gof, none⟩) N gc) N t := ⟨w4.heap.size, _, gc, gb, gof, R, rfl, hgc, fun hp => ⟨rfl, (hga hp).2⟩, S6.out.grid⟩
          have Hgr := Lib.hid hgr
          clear hgr
          go_quiet (fail)
          go_wp2_with fail
          rename_i nq
          have hgd : ∀ q : Nat, HasGrid (w6.drewN q) (.slice (some ⟨gb, gof, none⟩) N gc) N t := fun q => Hgr.out.below (Below.drewN' (Below.refl _ _) q)
          refine (forced_any _ hN HO.out.sym HO.out.irr ⟨by omega, hy, Htx.out⟩ (hgd _)).mono ?_
          rintro e w7 ⟨I, hcl, hb7, ⟨BM, n, hfr, hn, rfl, hps, hbl⟩ | ⟨i, j, hi, hj, rfl⟩⟩
          · have Hcl := Lib.hid hcl; have Hfr := Lib.hid hfr
            have S7 := Lib.hid ((S6.out.below (Below.drewN' (Below.refl _ _) _)).below hb7)
            obtain ⟨D, hD, hP⟩ := hps
            have HP := Lib.hid hP
            have hL0 := Lib.hid hP.left
            have hBM : S ≤ BM := by have := S6.out.sz; exact Nat.le_trans this hbl
            have hR7 := S7.out.sz
            clear hcl hb7 hfr hP hgd hbl
            go_wp2_with (at_range; refine wpList_range_own _ rfl _ 66 rfl 52 4 pairKeyed Try.underlying66 _ BM n D rfl hD ?_; intro w0 hrg0 hg0 hs0)
            go_frame
            generalize hRR : w7.heap.size = RR at *
            go_loopw [7, 52] (fun s7 _ wr => ∃ (left : Lit → Bool) (cnt : Nat) (J : Nat → Nat → Bool) (v : Value) (K : List (Nat × Nat)), s7 = v ∧ OrRg w4 wr N S gb gof R t I J v L K BM RR n D left cnt) (fun _ _ wr => wr.rangeLeft BM RR)
            case atStart => exact ⟨_, _, fun _ _ => false, _, [], rfl, ⟨by rw [cutT_none, List.append_nil]; exact S7.out.keep hg0 (fun g e => by cases e), hrg0, hL0.out, fun a b k => (by cases k), List.nodup_nil, fun a b => by simp, hBM, hR7⟩⟩
            case round =>
              obtain ⟨left, cnt, J, v, K, rfl, hst⟩ := hrel
              obtain ⟨va, vc, rfl⟩ := hst.st.own.form
              rw [List.length_map, List.length_append] at hst
              have Hs1 := Lib.hid hst
              have hrg := hst.rg
              clear hst
              go_wp2_with (first
                | (at_next; refine wpList_next_ranges _ rfl _ rfl 52 pairKeyed _ (fun x : Int × Int => pairV x.1 x.2) (fun v : Value => v) (fun key kl h => pair_inv h) (fun v y h => ⟨v, rfl⟩) BM RR n D _ _ rfl hrg ?_ ?_)
                | go_in)
              · intro hc0 hl0
                have hJI : J = I := by
                  funext a b
                  cases hI : I a b
                  · cases hJ : J a b
                    · rfl
                    · have := Hs1.out.sub a b hJ; rw [hI] at this; cases this
                  · have hT := Hcl.out.edge a b hI
                    exact Hs1.out.left.done hl0 (by omega) hT.1 hT.2.1 hI
                have hfin := Hs1.out.st
                have hiff := Hs1.out.iff
                rw [hJI] at hfin hiff
                have hO2 := HO.out.next Hcl.out Hfr.out Hs1.out.nd hiff
                have Hfin := Lib.hid hfin; have HO2 := Lib.hid hO2
                clear hc0 hl0 hrg hJI hfin hiff hO2
                go_wp2
                go_roundg (m - (k + 1))
                case measure => go_light; omega
                case rel =>
                  have h1 := Hfin.out
                  exact ⟨k + 1, cutT t I, _, L ++ K, by omega, rfl, rfl, by go_num, h1, HO2.out, fun j hj a b hab => by
                    by_cases ej : j = k
                    · subst ej
                      rw [Exy.out] at hab
                      simp only [Prod.mk.injEq] at hab
                      have h1 : x = a := by omega
                      have h2 : y = b := by omega
                      rw [← h1, ← h2]
                      have hb := Hcl.out.base
                      unfold cutT
                      rw [hb]; simp
                    · have := Hdn.out j (by omega) a b hab
                      unfold cutT
                      rw [this]; rfl⟩
              · intro x1 x2 c kl y1 y2 w1 cnt1 hkl hlk hyc hat hrg1 hlt1 hg1 hs1 hen
                obtain ⟨i, j, hi, hj, hIij, hJ, hkp⟩ := (Hs1.out.left kl).1 hlk
                have hpe := pairKeyed.inj hkp hkl
                simp only [pairV, Value.agg.injEq, Array.mk.injEq, List.cons.injEq, Value.int.injEq, true_and, and_true] at hpe
                obtain ⟨rfl, rfl⟩ := hpe
                have hne : i ≠ j := fun e => by have := (Hcl.out.edge i j hIij).2.2; rw [e, HO.out.irr] at this; cases this
                have hbl := ranges_blocks Hs1.out.rg Hs1.out.st.own
                have T1 := Hs1.out.st.keep hg1 (fun g e => by obtain rfl := Option.some.inj e; exact ⟨Hs1.out.rr, hbl.2⟩)
                have bb := below1 w1 (.cells #[.int .i64 (i : Int), .int .i64 (j : Int)] 52)
                have T2 := Lib.hid (T1.below bb)
                obtain ⟨c0, c1⟩ := two_cells w1 (.int .i64 (i : Int)) (.int .i64 (j : Int)) 52
                have Hr2 := Lib.hid (hrg1.alloc (.cells #[.int .i64 (i : Int), .int .i64 (j : Int)] 52))
                have Hen := Lib.hid hen; have Hkp := Lib.hid hkp; have Hlt1 := Lib.hid hlt1
                have Hij := Lib.hid hIij; have HJ := Lib.hid hJ
                have hq1 := T1.sz
                have hnew : w1.heap.size < (w1.alloc (.cells #[.int .i64 (i : Int), .int .i64 (j : Int)] 52)).heap.size := by simp
                rw [hs1] at c0 c1 hnew hq1
                clear bb T1 hbl hrg1 hlt1 hg1 hkp hkl hat hyc hrg hlk hJ hIij
                go_upto_region 16 with fail
                generalize w1.alloc (.cells #[.int .i64 (i : Int), .int .i64 (j : Int)] 52) = w2' at *
                have g1 := T2.out.grid.head i hi
                have g2 := T2.out.grid.head j hj
                have g3 := T2.out.grid.cell hi hj
                have g4 := T2.out.grid.cell hj hi
                have f3 := (T2.out.grid.row i hi).frozen j
                have f4 := (T2.out.grid.row j hj).frozen i
                have l3 := (T2.out.grid.row i hi).lt
                have l4 := (T2.out.grid.row j hj).lt
                have nij : R i ≠ R j := fun e => hne (T2.out.grid.inj i j hi hj e)
                have nji : R j ≠ R i := fun e => nij e.symm
                have hSi := T2.out.gs i hi
                have hSj := T2.out.gs j hj
                have ni : R i ≠ wr.heap.size := by omega
                have nj : R j ≠ wr.heap.size := by omega
                go_region
                have T3 := T2.out.cut2 hi hj hq1 Hs1.out.bm Hs1.out.rr c0 c1 Hr2.out rfl
                generalize ((w2'.setCell ⟨R i, j, none⟩ (.bool false)).setCell ⟨R j, i, none⟩ (.bool false)).drew = w3 at *
                obtain ⟨T3, d0, d1, rg3⟩ := T3
                have hlL := pairs_len HO.out.nd (fun p hp => by have := (HO.out.mem p hp).1; exact ⟨this.1, this.2.1⟩) hN
                have hlK := pairs_len Hs1.out.nd (fun p hp => by have := Hcl.out.edge _ _ (Hs1.out.sub _ _ ((Hs1.out.iff p.1 p.2).1 hp)); exact ⟨this.1, this.2.1⟩) hN
                have hle : ((L ++ K).map castE).length + 1 ≤ 100000 := by rw [List.length_map, List.length_append]; omega
                have Hle := Lib.hid hle
                have b3 := below1 w3 (Obj.cells #[.int .i64 (i : Int), .int .i64 (j : Int)] 52)
                have T4 := Lib.hid (T3.below b3)
                have R4 := Lib.hid (rg3.alloc (Obj.cells #[.int .i64 (i : Int), .int .i64 (j : Int)] 52))
                have hS4 := T4.out.sz
                clear hlL hlK hle b3 T3 rg3 g1 g2 g3 g4 f3 f4 l3 l4
                go_wp2_with (at_builtin; refine wpList_append_edges rfl (.tmp 72) (.tmp 74) 22 rfl S Try.underlying22 info2 _ ((L ++ K).map castE) rfl T4.out.own _ [((i : Int), (j : Int))] rfl (edge_one _ _ _ _ rfl) _ rfl (by have := Hle.out; simp only [List.length_cons, List.length_nil]; omega) hS4 ?_; intro a5 c5 w5' ho5 hg5; have Hrg := Lib.hid (OrRg.lay Hkp.out Hs1.out.left Hs1.out.sub Hs1.out.nd Hs1.out.iff Hij.out HJ.out Hs1.out.bm Hs1.out.rr T4.out R4.out (own_as ho5) hg5); clear ho5 hg5)
                go_roundw
                case rel =>
                  have h9 := Hrg.out
                  simp only [List.length_append, List.length_map, List.length_cons, List.length_nil, Nat.zero_add, Nat.add_assoc] at h9
                  exact ⟨_, _, _, _, _, rfl, h9⟩
                case measure =>
                  show w5'.rangeLeft BM RR < _
                  rw [Hrg.out.rg.left_eq, Hs1.out.rg.left_eq]; exact Hlt1.out
          · have Hno := Lib.hid (HO.out.clash hcl hi hj)
            have S7 := Lib.hid ((S6.out.below (Below.drewN' (Below.refl _ _) _)).below hb7)
            have K7 := Lib.hid (S4.out.below S7.out.hb)
            have b8 := below1 w7 (Obj.cells #[.int .i64 9, .int .i64 0] 27)
            have K8 := Lib.hid (K7.out.below b8)
            obtain ⟨y0, y1, k0, k1, m0⟩ := row_facts K8.out.r
            clear hcl hb7 hi hj b8 hgd
            go_wp2_with (go_at_call 44; refine (cfault_any _ _ _).mono ?_; rintro e wf ⟨rfl, rfl⟩)
            obtain ⟨p0, p1, p2⟩ := K8.out.put (.int .i64 9) (.int .i64 0)
            exact bodyPost_ret (v := .tuple #[.slice none 0 0, .agg #[.int .i64 9, .int .i64 0]]) (by simp [results, Try.results19, go_sem, p0, p1]) rfl ⟨9, 0, _, rfl, p2, .inr ⟨N, rfl, Hg.out, rfl, .inl ⟨rfl, rfl, Hno.out⟩⟩⟩
      · obtain rfl : k = m := by omega
        have Hall := Lib.hid (HO.out.done (all_out HO.out Hm.out Hdn.out))
        have hlL := pairs_len HO.out.nd (fun p hp => by have := (HO.out.mem p hp).1; exact ⟨this.1, this.2.1⟩) hN
        have hle : (L.map castE).length ≤ 100000 := by rw [List.length_map]; omega
        have Hle := Lib.hid hle
        have hE1 : E + 1 < w4.heap.size := by omega
        have hHS : w.heap.size + 1 < S := by have := Hst.out.lo; have := S4.out.r.lt; omega
        clear hlL hle
        go_upto_region 20 with (go_at_call 45; refine (sortO_all Hst.out.own Hle.out).mono ?_; rintro e w8 ⟨rfl, L', ho8, hg8, hl8, hp8, hs8⟩; obtain ⟨L2, rfl, hp2⟩ := perm_cast hp8; have S8 := Lib.hid (Hst.out.push ho8 hg8); have Hs8 := Lib.hid hs8; have Hp2 := Lib.hid hp2; clear ho8 hg8 hl8 hp8 hs8 hp2)
        have K8 := Lib.hid (S4.out.below S8.out.hb)
        have f08 := below_cell S8.out.hb f0
        have f18 := below_cell S8.out.hb f1
        obtain ⟨y0, y1, k0, k1, m0⟩ := row_facts K8.out.r
        have n1 : w.heap.size + 1 ≠ E + 1 := by have := S4.out.r.lt; omega
        go_region
        all_goals
          obtain ⟨p0, p1, p2⟩ := K8.out.put (.int .i64 0) (.int .i64 0)
          have hown := (((S8.out.own.set (B := w.heap.size + 1) hHS 0 (.int .i64 0)).set (B := w.heap.size + 1) hHS 1 (.int .i64 0))).low (show w.heap.size ≤ S by omega)
          have Hown := Lib.hid hown
          clear hown
          go_wp2
          exact bodyPost_ret (v := .tuple #[.slice va L.length vc, .agg #[.int .i64 0, .int .i64 0]]) (by simp [results, Try.results19, go_sem, p0, p1]) rfl ⟨0, 0, _, rfl, p2.drew, .inr ⟨N, rfl, Hg.out, rfl, .inr ⟨rfl, L2, Hown.out.below (Below.refl _ _).drew, Hp2.out.nodup_iff.2 HO.out.nd, Hs8.out, Hall.out.congr fun a b => (Hp2.out.mem_iff).symm⟩⟩⟩
  · have q : (c != 0) = true := by simp [hc]
    have Hc := Lib.hid hc
    clear hsp hc
    go_upto_region 2 with (go_at_call 42; refine (form_bad Hsp.out Hc.out _ w1 St.out.he).mono ?_; rintro e w2 ⟨v, ho, hb2, rfl⟩; have Hb2 := Lib.hid hb2; obtain ⟨a2, c2, rfl⟩ := ho.form; clear ho hb2)
    have hbF := upc Hb2.out (below2 w2 (Obj.cells #[.int .i64 0, .slice a2 0 c2] 24) (Obj.cells #[.int .i64 c, .int .i64 a] 27))
    have S3 := Lib.hid (St.out.below hbF)
    have fv := two_cells (w2.alloc (Obj.cells #[.int .i64 0, .slice a2 0 c2] 24)) (.int .i64 c) (.int .i64 a) 27
    rw [World.size_alloc] at fv
    have hz2 := Hb2.out.size
    have n1 : w.heap.size + 1 ≠ w2.heap.size + 1 := by omega
    clear hbF cn cs
    generalize (w2.alloc (Obj.cells #[.int .i64 0, .slice a2 0 c2] 24)).alloc (Obj.cells #[.int .i64 c, .int .i64 a] 27) = w3 at *
    generalize w2.heap.size = E at *
    obtain ⟨f0, f1⟩ := fv
    obtain ⟨y0, y1, k0, k1, m0⟩ := row_facts S3.out.r
    go_wp2
    go_region
    all_goals
      obtain ⟨p0, p1, p2⟩ := S3.out.put (.int .i64 c) (.int .i64 a)
      go_wp2
      exact bodyPost_ret (v := .tuple #[.slice none 0 0, .agg #[.int .i64 c, .int .i64 a]]) (by simp [results, Try.results19, go_sem, p0, p1]) rfl ⟨c, a, _, rfl, p2.drew, .inl ⟨Hc.out, Hsp.out, rfl⟩⟩

end Go.Proofs.Ytnhhohhhpaejmaa
