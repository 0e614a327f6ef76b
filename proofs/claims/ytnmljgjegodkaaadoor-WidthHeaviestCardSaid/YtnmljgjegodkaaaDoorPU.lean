/- Memory of width.Heaviest: what hangs below, in rows of one's own; the work, laid. And its fault. No walk. width.Heaviest: the work as it is handed up and down the tree. No walk. -/
import Derived.Test.YtnmljgjegodkaaaDoorPS
import Derived.Test.YtnmljgjegodkaaaDoorPV
import Derived.Test.YtnmljgjegodkaaaDoorPD
namespace Go.Proofs.YtnmljgjegodkaaaDoor
open Go Go.RowKit Go.Maps

def WtOk (x : Int) : Prop := -1000000 ≤ x ∧ x ≤ 1000000
/-- Do bags lie under the graph? -/
def OvP (n : Int) (l : List (Int × Int)) (m : List (List Int)) (u : List Int) : Prop := ∃ (N : Nat) (bs : List (List Nat)), n = N ∧ m = bs.map ints ∧ OverT N l bs u
/-- What is wrong with what Heaviest is asked. -/
def HeaSpec (n : Int) (l : List (Int × Int)) (ws : List Int) (m : List (List Int)) (u : List Int) (c a : Int) : Prop :=
  (FitsSpec n l m u c a ∧ c ≠ 0) ∨ (FitsSpec n l m u 0 0 ∧ (((ws.length : Int) ≠ n ∧ c = 6 ∧ a = 1) ∨ ((ws.length : Int) = n ∧
    ((∃ i, i < ws.length ∧ (∀ j, j < i → WtOk (ws.getD j 0)) ∧ ¬ WtOk (ws.getD i 0) ∧ c = 3 ∧ a = i) ∨ ((∀ j, j < ws.length → WtOk (ws.getD j 0)) ∧
      ((¬ OvP n l m u ∧ c = 7 ∧ a = 0) ∨ (OvP n l m u ∧
        ((∃ i, i < m.length ∧ (∀ j, j < i → (m.getD j []).length ≤ 12) ∧ 12 < (m.getD i []).length ∧ c = 2 ∧ a = i) ∨ ((∀ j, j < m.length → (m.getD j []).length ≤ 12) ∧ c = 0 ∧ a = 0)))))))))
theorem first_uniq {p : Nat → Prop} {i i' : Nat} (h : ∀ j, j < i → p j) (h2 : ¬ p i) (h' : ∀ j, j < i' → p j) (h2' : ¬ p i') : i = i' := by
  rcases Nat.lt_trichotomy i i' with e | e | e
  · exact absurd (h' i e) h2
  · exact e
  · exact absurd (h i' e) h2'
theorem HeaSpec.uniq {n : Int} {l : List (Int × Int)} {ws : List Int} {m : List (List Int)} {u : List Int} {c a c' a' : Int} (h : HeaSpec n l ws m u c a) (h' : HeaSpec n l ws m u c' a') : c = c' ∧ a = a' := by
  rcases h with ⟨h1, h2⟩ | ⟨h1, h2⟩ <;> rcases h' with ⟨h1', h2'⟩ | ⟨h1', h2'⟩
  · exact h1.uniq h1'
  · exact absurd (h1.uniq h1').1 h2
  · exact absurd (h1'.uniq h1).1 h2'
  · rcases h2 with ⟨e, rfl, rfl⟩ | ⟨e, h2⟩ <;> rcases h2' with ⟨e', rfl, rfl⟩ | ⟨e', h2'⟩
    · exact ⟨rfl, rfl⟩
    · exact absurd e' e
    · exact absurd e e'
    · rcases h2 with ⟨i, g1, g2, g3, rfl, rfl⟩ | ⟨e, h2⟩ <;> rcases h2' with ⟨i', g1', g2', g3', rfl, rfl⟩ | ⟨e', h2'⟩
      · exact ⟨rfl, by rw [first_uniq (p := fun j => WtOk (ws.getD j 0)) g2 g3 g2' g3']⟩
      · exact absurd (e' i g1) g3
      · exact absurd (e i' g1') g3'
      · rcases h2 with ⟨e, rfl, rfl⟩ | ⟨e, h2⟩ <;> rcases h2' with ⟨e', rfl, rfl⟩ | ⟨e', h2'⟩
        · exact ⟨rfl, rfl⟩
        · exact absurd e' e
        · exact absurd e e'
        · rcases h2 with ⟨i, g1, g2, g3, rfl, rfl⟩ | ⟨e, rfl, rfl⟩ <;> rcases h2' with ⟨i', g1', g2', g3', rfl, rfl⟩ | ⟨e', rfl, rfl⟩
          · exact ⟨rfl, by rw [first_uniq (p := fun j => (m.getD j []).length ≤ 12) g2 (by omega) g2' (by omega)]⟩
          · have := e' i g1; omega
          · have := e i' g1'; omega
          · exact ⟨rfl, rfl⟩
theorem bags_inj {bs bs' : List (List Nat)} (h : bs.map ints = bs'.map ints) : bs = bs' := by
  have h1 := congrArg (List.map (List.map Int.toNat)) h
  have e : ∀ x : List (List Nat), (x.map ints).map (List.map Int.toNat) = x := fun x => by
    rw [List.map_map]
    have : (List.map Int.toNat ∘ ints) = id := by
      funext y
      simp only [Function.comp, ints, List.map_map, id]
      have : (Int.toNat ∘ fun a : Nat => (a : Int)) = id := by funext z; simp
      exact (congrArg (fun f => List.map f y) this).trans (List.map_id y)
    rw [this, List.map_id]
  rwa [e, e] at h1
theorem ovP_iff {N : Nat} {l : List (Int × Int)} {bs : List (List Nat)} {u : List Int} : OvP (N : Int) l (bs.map ints) u ↔ OverT N l bs u :=
  ⟨fun ⟨N', bs', h1, h2, h3⟩ => by
    obtain rfl : N = N' := by omega
    rw [bags_inj h2]; exact h3, fun h => ⟨N, bs, rfl, rfl, h⟩⟩

/-- What hangs below, in rows of one's own from base on. -/
structure KB (w : World) (base B N : Nat) (V : Nat → Value) (X : Nat → List Nat) : Prop where
  ro : w.rowIs B 30 N V
  bk : Bank w base 3 N V (fun r => nvals (X r))
  lo : B < base
section
variable {w w' : World} {base B N : Nat} {V : Nat → Value} {X : Nat → List Nat}
theorem KB.below (h : KB w base B N V X) (hb : Below w.heap.size w w') : KB w' base B N V X := ⟨h.ro.of_block (hb.block _ h.ro.lt), h.bk.below hb, h.lo⟩
theorem KB.owns (h : KB w base B N V X) {r : Nat} (hr : r < N) : w.ownsRow base 3 1 (V r) (X r).length (nvals (X r)) := by
  have := h.bk.own r hr
  rwa [nvals_length] at this
theorem KB.form (h : KB w base B N V X) {r : Nat} (hr : r < N) : ∃ a c, V r = .slice a (X r).length c := ownsRow_form (h.owns hr)
theorem KB.low (h : KB w base B N V X) {r : Nat} (hr : r < N) : ∀ g, (V r).ownBlock = some g → base ≤ g ∧ g < w.heap.size := fun g e => (h.bk.own r hr).lt g e
theorem KB.congr {X' : Nat → List Nat} (h : KB w base B N V X) (e : ∀ r, r < N → X r = X' r) : KB w base B N V X' := ⟨h.ro, h.bk.congr (fun _ _ => rfl) fun r hr => by rw [e r hr], h.lo⟩
theorem KB.mid (h : KB w base B N V X) {r : Nat} (hr : r < N) (hg : w.grownBy w' (V r).ownBlock) : w'.rowIs B 30 N V :=
  h.ro.of_block (hg.block _ h.ro.lt (fun e => by have := (h.low hr _ e.symm).1; have := h.lo; omega))
theorem KB.app (h : KB w base B N V X) {r : Nat} (hr : r < N) {v' : Value} {m : List Nat} (ho : w'.ownsRow base 3 1 v' ((X r).length + m.length) (nvals (X r) ++ nvals m)) (hg : w.grownBy w' (V r).ownBlock) (hat : v'.ownBlock = (V r).ownBlock ∨ v'.ownBlock = some w.heap.size) :
    KB (w'.setCell ⟨B, r, none⟩ v') base B N (fun q => if q = r then v' else V q) (growN X r m) := by
  have hm := h.mid hr hg
  refine ⟨hm.set r v', ?_, h.lo⟩
  have h1 := (h.bk.app hr (news := nvals m) (by rw [nvals_length, nvals_length]; exact ho) hg hat).set h.lo r v'
  refine h1.congr (fun _ _ => rfl) fun q _ => ?_
  unfold growN
  by_cases e : q = r
  · simp [e, nvals, ints]
  · simp [e]
end
/-- Ahead of one 'append' to what hangs below. -/
structure KbE (w6 wx : World) (Lb K M : Nat) (V : Nat → Value) (X : Nat → List Nat) : Prop where
  nb : KB wx w6.heap.size Lb M V X
  c3 : wx.cell? ⟨K, 3, none⟩ = some (.slice (some ⟨Lb, 0, none⟩) M M)
  hK : K < w6.heap.size
  nK : K ≠ Lb
  ch : Chg (· = Lb) w6 wx
section
variable {w6 wx w2 : World} {Lb K M : Nat} {V : Nat → Value} {X : Nat → List Nat}
theorem KbE.below (h : KbE w6 wx Lb K M V X) (hb : Below wx.heap.size wx w2) : KbE w6 w2 Lb K M V X := ⟨h.nb.below hb, below_cell hb h.c3, h.hK, h.nK, h.ch.trans (Chg.ofBelow hb)⟩
theorem KbE.da (h : KbE w6 wx Lb K M V X) (o : Obj) : KbE w6 (wx.drew.alloc o) Lb K M V X := h.below (((Below.refl _ _).drew).alloc (Nat.le_refl _) o)
theorem KbE.sz (h : KbE w6 wx Lb K M V X) : w6.heap.size ≤ wx.heap.size := h.ch.size
theorem KbE.of (h : KbE w6 wx Lb K M V X) {r : Nat} (hr : r < M) {v' : Value} {m : List Nat} (ho : w2.ownsRow w6.heap.size 3 1 v' ((X r).length + m.length) (nvals (X r) ++ nvals m)) (hg : wx.grownBy w2 (V r).ownBlock) (hat : v'.ownBlock = (V r).ownBlock ∨ v'.ownBlock = some wx.heap.size) :
    KbE w6 (w2.setCell ⟨Lb, r, none⟩ v') Lb K M (fun q => if q = r then v' else V q) (growN X r m) ∧ w2.cell? ⟨K, 3, none⟩ = some (.slice (some ⟨Lb, 0, none⟩) M M) ∧ w2.rowIs Lb 30 M V := by
  have hKl : K < wx.heap.size := Nat.lt_of_lt_of_le h.hK h.sz
  have hbk := hg.block K hKl (fun e => by have := (h.nb.low hr _ e.symm).1; have := h.hK; omega)
  have d3 : w2.cell? ⟨K, 3, none⟩ = some (.slice (some ⟨Lb, 0, none⟩) M M) := by rw [← h.c3]; unfold World.cell?; rw [hbk]
  refine ⟨⟨h.nb.app hr ho hg hat, ?_, h.hK, h.nK, ?_⟩, d3, h.nb.mid hr hg⟩
  · rw [World.cell?_setCell_far _ _ _ _ (show Lb ≠ K from fun e => h.nK e.symm)]; exact d3
  · have h1 : Chg (· = Lb) w6 w2 := ⟨hg.os.trans h.ch.os, hg.tape.trans h.ch.tape, hg.output.trans h.ch.output, Nat.le_trans h.ch.size hg.size, fun i hi hs => (hg.block i (Nat.lt_of_lt_of_le hi h.ch.size) fun e => by have := (h.nb.low hr _ e.symm).1; omega).trans (h.ch.block i hi hs)⟩
    exact h1.setCell (p := ⟨Lb, r, none⟩) (fun _ => rfl) _
end
theorem kid_more {u : List Int} {i : Nat} {q : Nat} : (List.range (i + 1)).filter (fun k => decide (u.getD k 0 = (q : Int))) = (List.range i).filter (fun k => decide (u.getD k 0 = (q : Int))) ++ if u.getD i 0 = (q : Int) then [i] else [] := by
  rw [List.range_succ, List.filter_append]
  congr 1
  by_cases h : u.getD i 0 = (q : Int)
  · rw [if_pos h, List.filter_cons, if_pos (decide_eq_true h), List.filter_nil]
  · rw [if_neg h, List.filter_cons, if_neg (by rw [decide_eq_false h]; decide), List.filter_nil]
theorem IsGrid.still {w W : World} {B n : Nat} {v : Value} {G : Nat → Nat → Bool} {S : Nat → Prop} (h : IsGrid w B v n G) (hc : Chg S w W) (hS : ∀ k, k < w.heap.size → S k → k < B) : IsGrid W B v n G := by
  obtain ⟨a, cap, b, o, R, h1, h2, h3, h4⟩ := h
  refine ⟨a, cap, b, o, R, h1, h2, h3, h4.new, h4.inj, fun i hi => ?_, fun i hi => ?_, h4.off⟩
  · have hb := (h3 (by omega)).2
    exact hc.cell (h4.head i hi) fun k => by
      have := hS b (World.block_lt_of_cell? _ _ (h4.head i hi)) k
      omega
  · exact (h4.row i hi).of_block (hc.block _ (h4.row i hi).lt fun k => by
      have := hS _ (h4.row i hi).lt k
      have := h4.new i hi
      omega)
/-- The work, laid: nothing hangs yet. -/
structure WkN (w wx : World) (tv wv bv : Value) (K Lb E M N : Nat) (G : Nat → Nat → Bool) : Prop where
  hb : Below w.heap.size w wx
  k0 : wx.cell? ⟨K, 0, none⟩ = some tv
  k1 : wx.cell? ⟨K, 1, none⟩ = some wv
  k2 : wx.cell? ⟨K, 2, none⟩ = some bv
  k3 : wx.cell? ⟨K, 3, none⟩ = some (.slice (some ⟨Lb, 0, none⟩) M M)
  k4 : wx.cell? ⟨K, 4, none⟩ = some (.slice (some ⟨E, 0, none⟩) M M)
  kE : w.heap.size ≤ E
  kL : w.heap.size ≤ Lb
  nKL : K ≠ Lb
  nKE : K ≠ E
  nLE : Lb ≠ E
  rl : wx.rowIs Lb 30 M (fun _ => .slice none 0 0)
  re : wx.rowIs E 77 M (fun _ => .map none)
  gr : ∀ W, Chg (fun k => k = Lb ∨ k = E) wx W → HasGrid W tv N G
theorem WkN.box {wr wx wt : World} {tv wv bv : Value} {Lb E M N B : Nat} {G : Nat → Nat → Bool} (hb : Below wr.heap.size wr wx) (hl : wx.rowIs Lb 30 M (fun _ => .slice none 0 0)) (he : wx.rowIs E 77 M (fun _ => .map none))
    (hL : wr.heap.size ≤ Lb) (hE : wr.heap.size ≤ E) (hne : Lb ≠ E) (hg : IsGrid wt B tv N G) (hbt : Below wt.heap.size wt wx) (h1 : Lb < B ∨ wt.heap.size ≤ Lb) (h2 : E < B ∨ wt.heap.size ≤ E) {K : Nat} (hK : K = wx.heap.size) :
    WkN wr (wx.alloc (.cells #[tv, wv, bv, .slice (some ⟨Lb, 0, none⟩) M M, .slice (some ⟨E, 0, none⟩) M M] 74)) tv wv bv K Lb E M N G := by
  subst hK
  have a1 := below1 wx (.cells #[tv, wv, bv, .slice (some ⟨Lb, 0, none⟩) M M, .slice (some ⟨E, 0, none⟩) M M] 74)
  refine ⟨hb.trans (a1.mono hb.size), ?_, ?_, ?_, ?_, ?_, hE, hL, fun e => by have := hl.lt; omega, fun e => by have := he.lt; omega, hne, hl.alloc _, he.alloc _, fun W hW => ⟨B, ?_⟩⟩
  · rw [World.cell?_alloc_at _ _ _ _ rfl]; rfl
  · rw [World.cell?_alloc_at _ _ _ _ rfl]; rfl
  · rw [World.cell?_alloc_at _ _ _ _ rfl]; rfl
  · rw [World.cell?_alloc_at _ _ _ _ rfl]; rfl
  · rw [World.cell?_alloc_at _ _ _ _ rfl]; rfl
  · refine hg.still (S := fun k => k = Lb ∨ k = E) ((Chg.ofBelow (hbt.trans (a1.mono hbt.size))).trans hW) fun k hk hs => ?_
    rcases hs with rfl | rfl <;> omega
end Go.Proofs.YtnmljgjegodkaaaDoor
namespace Go.Proofs.YtnmljgjegodkaaaDoor
open Go Go.RowKit Go.Maps

theorem rows_pick {w : World} {s : Value} {bs : List (List Nat)} (h : IsRows w s (bs.map ints)) : ∃ rv : Nat → Value, ∀ i, i < bs.length → IsInts w (rv i) (ints (bagA bs i)) ∧ ∃ b o c, s = .slice (some ⟨b, o, none⟩) bs.length c ∧ w.cell? ⟨b, o + i, none⟩ = some (rv i) := by
  have key : ∀ i, ∃ r, i < bs.length → IsInts w r (ints (bagA bs i)) ∧ ∃ b o c, s = .slice (some ⟨b, o, none⟩) bs.length c ∧ w.cell? ⟨b, o + i, none⟩ = some r := fun i => by
    by_cases hi : i < bs.length
    · obtain ⟨b, o, r, ⟨c, e⟩, h1, h2⟩ := h.form_at (k := i) (by rw [List.length_map]; exact hi)
      rw [map_ints_getD] at h2
      rw [List.length_map] at e
      exact ⟨r, fun _ => ⟨h2, b, o, c, e, h1⟩⟩
    · exact ⟨default, fun k => absurd k hi⟩
  exact ⟨fun i => (key i).choose, fun i => (key i).choose_spec⟩
theorem bag_back {N : Nat} {b : List Nat} (h : BagOk (N : Int) (ints b)) : b.Nodup ∧ ∀ v ∈ b, v < N := by
  have hat : ∀ k, k < b.length → b.getD k 0 < N ∧ ¬ b.getD k 0 ∈ b.take k := fun k hk => by
    obtain ⟨⟨h1, h2⟩, h3⟩ := h k (by rw [ints_length]; exact hk)
    rw [ints_at_nat] at h1 h2 h3
    refine ⟨by omega, fun h4 => h3 ?_⟩
    unfold ints
    rw [← List.map_take]
    exact List.mem_map.2 ⟨_, h4, rfl⟩
  refine ⟨?_, fun v hv => ?_⟩
  · rw [List.nodup_iff_pairwise_ne, List.pairwise_iff_getElem]
    intro i j hi hj hij e
    refine (hat j hj).2 ?_
    rw [List.getD, List.getElem?_eq_getElem hj]
    show b[j] ∈ b.take j
    rw [← e]
    exact List.mem_take_iff_getElem.2 ⟨i, by omega, rfl⟩
  · obtain ⟨j, hj, e⟩ := mem_at hv
    rw [← e]
    exact (hat j hj).1
theorem bags_ok {N : Nat} {l : List (Int × Int)} {bs : List (List Nat)} {u : List Int} (hok : ∀ j, j < l.length → EndsOk (N : Int) (l.getD j (0, 0)) ∧ (l.getD j (0, 0)).1 ≠ (l.getD j (0, 0)).2) (hul : u.length = bs.length) (hF : FitT N l bs u)
    (hb : ∀ j, j < bs.length → BagOk (N : Int) (ints (bagA bs j))) : BagsOk N l bs u (adj l) where
  fit := hF
  ul := hul
  nd := fun i hi => (bag_back (hb i hi)).1
  lt := fun i hi => (bag_back (hb i hi)).2
  sy := adj_sy l
  irr := fun a => adj_self (fun j hj => (hok j hj).2) a
  cov := fun x y h => by
    unfold adj hasE at h
    obtain ⟨e, h1, h2⟩ := List.any_eq_true.1 h
    obtain ⟨j, hj, he⟩ := List.getElem_of_mem h1
    have he' : l.getD j (0, 0) = e := by rw [List.getD, List.getElem?_eq_getElem hj]; exact he
    obtain ⟨i, hi, a, b⟩ := hF.edge j hj
    rw [he'] at a b
    rcases of_decide_eq_true h2 with ⟨e1, e2⟩ | ⟨e1, e2⟩
    · rw [e1, Int.toNat_natCast] at a
      rw [e2, Int.toNat_natCast] at b
      exact ⟨i, hi, a, b⟩
    · rw [e1, Int.toNat_natCast] at a
      rw [e2, Int.toNat_natCast] at b
      exact ⟨i, hi, b, a⟩
theorem FitT.all_hng {N : Nat} {l : List (Int × Int)} {bs : List (List Nat)} {u : List Int} (hF : FitT N l bs u) {r : Nat} (hr : r < u.length) (e : u.getD r 0 = -1) {j : Nat} (hj : j < u.length) : Hng u r j := by
  obtain ⟨s, hs⟩ := hF.clm j hj
  obtain ⟨r', a, b, c⟩ := clm_root hs
  have h2 := hF.root
  rw [roots_cnt] at h2
  have e2 : r = r' := by
    rcases Nat.lt_trichotomy r r' with g | g | g
    · have := cnt_twoW (n := u.length) (I := fun i => decide (u.getD i 0 = -1)) g a (decide_eq_true e) (decide_eq_true b); omega
    · exact g
    · have := cnt_twoW (n := u.length) (I := fun i => decide (u.getD i 0 = -1)) g hr (decide_eq_true b) (decide_eq_true e); omega
  subst e2
  exact c
/-- What hangs below each. -/
def kidsL (u : List Int) (M : Nat) : List (List Nat) := (List.range M).map fun p : Nat => (List.range M).filter fun k => decide (u.getD k 0 = (p : Int))
theorem kidsL_at {u : List Int} {M i : Nat} (hi : i < M) : (kidsL u M).getD i [] = (List.range M).filter fun k => decide (u.getD k 0 = (i : Int)) := by
  unfold kidsL
  rw [List.getD, List.getElem?_map, List.getElem?_range hi]
  rfl
theorem kidsL_len (u : List Int) (M : Nat) : (kidsL u M).length = M := by simp [kidsL]
/-- The work. -/
def wkd (K E Lb N M : Nat) (tv wv bv : Value) (l : List (Int × Int)) (ws : List Int) (bs : List (List Nat)) (u : List Int) (rv V : Nat → Value) : WkD where
  K := K
  E := E
  N := N
  tv := tv
  wv := wv
  bv := bv
  lv := .slice (some ⟨Lb, 0, none⟩) M M
  G := adj l
  ws := ws
  bs := bs
  ks := kidsL u M
  rbv := rv
  rlv := V
theorem wk_ok {K E Lb N M : Nat} {tv wv bv : Value} {l : List (Int × Int)} {ws : List Int} {bs : List (List Nat)} {u : List Int} {rv V : Nat → Value} (hB : BagsOk N l bs u (adj l)) (hM : bs.length = M) (hN : N ≤ 100) (hM100 : M ≤ 100) (h12 : ∀ i, i < bs.length → (bagA bs i).length ≤ 12) (hwl : ws.length = N) (hw : ∀ j, j < ws.length → WtOk (ws.getD j 0)) :
    WkOk (wkd K E Lb N M tv wv bv l ws bs u rv V) l u :=
  ⟨hB, hN, by show bs.length ≤ 100; omega, h12, hwl, fun v hv => hw v (by rw [hwl]; exact hv), by show (kidsL u M).length = bs.length; rw [kidsL_len, hM], fun i hi => by
    have hi' : i < bs.length := hi
    show (kidsL u M).getD i [] = _
    rw [kidsL_at (by omega)]
    show _ = (List.range bs.length).filter _
    rw [hM]⟩
theorem wk_still {w w3 w6 wr : World} {K E Lb N M : Nat} {tv wv bv : Value} {l : List (Int × Int)} {ws : List Int} {bs : List (List Nat)} {u : List Int} {rv V : Nat → Value} (hM : bs.length = M) (hM100 : M ≤ 100) (hb3 : Below w.heap.size w w3) (hN : WkN w3 w6 tv wv bv K Lb E M N (adj l))
    (hk : KbE w6 wr Lb K M V (fun p => (List.range M).filter fun k => decide (u.getD k 0 = (p : Int)))) (hw : IsInts w wv ws) (hm : IsRows w bv (bs.map ints))
    (hrv : ∀ i, i < bs.length → IsInts w (rv i) (ints (bagA bs i)) ∧ ∃ b o c, bv = .slice (some ⟨b, o, none⟩) bs.length c ∧ w.cell? ⟨b, o + i, none⟩ = some (rv i)) : StE E (WkF (wkd K E Lb N M tv wv bv l ws bs u rv V)) wr := fun W hW => by
  have hE6 : E < w6.heap.size := hN.re.lt
  have hK6 := hk.hK
  have h36 := hN.hb.size
  have h03 := hb3.size
  have hbw : Below w.heap.size w W := (hb3.trans (hN.hb.mono hb3.size)).trans ((hk.ch.toBelow (B := w.heap.size) (by omega) (fun k h1 h2 => by have := hN.kL; omega)).trans (hW.toBelow (B := w.heap.size) (by have := hk.ch.size; omega) (fun k h1 h2 => by have := hN.kE; omega)))
  have cell : ∀ {j v}, w6.cell? ⟨K, j, none⟩ = some v → W.cell? ⟨K, j, none⟩ = some v := fun h => hW.cell (hk.ch.cell h (fun e => hN.nKL e)) (fun e => hN.nKE e)
  have hgw : wr.grownBy W (some E) := ⟨hW.os, hW.tape, hW.output, hW.size, fun i hi hne => hW.block i hi fun e => hne (by rw [e])⟩
  have hrow : ∀ p, p < M → W.cell? ⟨Lb, 0 + p, none⟩ = some (V p) ∧ IsInts W (V p) (ints ((List.range M).filter fun k => decide (u.getD k 0 = (p : Int)))) := fun p hp => by
    refine ⟨by rw [Nat.zero_add]; exact hW.cell (hk.nb.ro.cell hp) (fun e => hN.nLE e), ?_⟩
    have ho := hk.nb.owns hp
    have ho2 : wr.ownsRow w6.heap.size 3 1 (V p) (ints ((List.range M).filter fun k => decide (u.getD k 0 = (p : Int)))).length ((ints ((List.range M).filter fun k => decide (u.getD k 0 = (p : Int)))).map (Value.int .i64)) := by rw [ints_length]; exact ho
    refine IsInts.owned (ho2.kept hgw ?_)
    cases hv : (V p).ownBlock with
    | none => exact .inl rfl
    | some g =>
      have := (hk.nb.low hp g hv).1
      exact .inr fun e => by have := Option.some.inj e; omega
  have hkl := kidsL_len u M
  refine ⟨cell hN.k0, cell hN.k1, cell hN.k2, cell hN.k3, ?_, hN.gr W ?_, hw.below hbw, hm.below hbw, ?_, fun i hi => ⟨(hrv i hi).1.below hbw, ?_⟩, fun i hi => ?_⟩
  · show W.cell? ⟨K, 4, none⟩ = some (.slice (some ⟨E, 0, none⟩) bs.length bs.length)
    rw [hM]; exact cell hN.k4
  · exact (hk.ch.mono (fun k _ e => .inl e)).trans (hW.mono (fun k _ e => .inr e))
  · show IsRows W (.slice (some ⟨Lb, 0, none⟩) M M) ((kidsL u M).map ints)
    refine ⟨some ⟨Lb, 0, none⟩, M, Lb, 0, by rw [List.length_map, hkl], by rw [List.length_map, hkl]; omega, by omega, fun _ => rfl, by simp, fun j hj => ?_⟩
    rw [List.length_map, hkl] at hj
    obtain ⟨a, b⟩ := hrow j hj
    refine ⟨V j, a, ?_⟩
    rw [map_ints_getD, kidsL_at hj]
    exact b
  · obtain ⟨b, o, c, e, f⟩ := (hrv i hi).2
    exact ⟨b, o, c, e, below_cell hbw f⟩
  · have hi' : i < bs.length := hi
    obtain ⟨a, b⟩ := hrow i (by omega)
    refine ⟨?_, Lb, 0, M, ?_, a⟩
    · show IsInts W (V i) (ints ((kidsL u M).getD i []))
      rw [kidsL_at (by omega)]; exact b
    · show Value.slice (some ⟨Lb, 0, none⟩) M M = .slice (some ⟨Lb, 0, none⟩) bs.length M
      rw [hM]
theorem wk_best {w3 w6 wr : World} {K E Lb N M : Nat} {tv wv bv : Value} {l : List (Int × Int)} {ws : List Int} {bs : List (List Nat)} {u : List Int} {rv V : Nat → Value} {X : Nat → List Nat} (T : Nat → Nat → Int) (hM : bs.length = M) (hN : WkN w3 w6 tv wv bv K Lb E M N (adj l)) (hk : KbE w6 wr Lb K M V X) :
    BestS (wkd K E Lb N M tv wv bv l ws bs u rv V) T wr wr.heap.size (fun _ => False) := by
  have h1 := hN.re.lt
  have h2 := hk.ch.size
  refine ⟨by show E < _; omega, Nat.le_refl _, fun _ => .map none, ?_, fun q _ h => h.elim⟩
  show wr.rowIs E 77 bs.length _
  rw [hM]
  exact hk.ch.rowIs hN.re (fun e => hN.nLE e.symm)
theorem SMap.look {w : World} {b n : Nat} {p : Nat → Prop} {T : Nat → Int} (h : SMap w b n p T) {s : Nat} (hp : p s) (hs : s ≤ 1000000) : (Instr.lookup 77 (.map (some b)) (.int .i64 (s : Int)) false).run Tryd.prog w = .ok (.int .i64 (T s)) w := by
  obtain ⟨D, h1, h2⟩ := h
  obtain ⟨c, ps, hrun, hr⟩ := h1.lookup intKeyedS Tryd.underlying77 (zero_runI w) (plainElem_int Tryd.underlying3 (by decide)) (keyOf_int_mk Tryd.underlying3 (small_wfS hs))
  obtain ⟨x, hx, h4, -⟩ := plainElem_int_inv Tryd.underlying3 hr
  rw [hrun, hx]
  have h6 : D.atKey (.int .i64 (s : Int)) (.lit (.int .i64 0)) = .lit (.int .i64 x) := congrArg Prod.fst h4
  rw [(h2.at' s hp).2] at h6
  simp only [DataW.lit.injEq, Lit.int.injEq, true_and] at h6
  rw [h6]
theorem GRes.chg {w wr w' : World} {A B : Nat} {n : Int} {s : Value} {S : Nat → Prop} (h : GRes w wr A B n s) (hc : Chg S wr w') (hS : ∀ k, S k → B < k) : GRes w w' A B n s := by
  have h1 := h.hA
  have h2 := h.hB
  exact ⟨h.hb.trans (hc.toBelow h.hb.size fun k hk hs => by have := hS k hs; omega), hc.cell h.cn (fun k => by have := hS _ k; simp only at this; omega), hc.cell h.cs (fun k => by have := hS _ k; simp only at this; omega), hc.rowIs h.hz (fun k => by have := hS _ k; omega), h.hB, h.hA⟩
theorem loose_zero (G : Nat → Nat → Bool) (b : List Nat) : LooseM G b 0 := fun i j _ _ h => by simp at h
theorem no_root {N M : Nat} {l : List (Int × Int)} {bs : List (List Nat)} {u : List Int} (hF : FitT N l bs u) (hu : u.length = M) (hM : bs.length = M) (h : ¬ (-1 : Int) ∈ u) : N = 0 := by
  have hM0 : M = 0 := by
    rcases Nat.eq_zero_or_pos M with e | e
    · exact e
    · have h1 := hF.root
      rw [roots_cnt] at h1
      obtain ⟨i, hi, h2⟩ := cnt_posW.1 (show cnt (fun i => decide (u.getD i 0 = -1)) u.length ≠ 0 by omega)
      have h3 := of_decide_eq_true h2
      rw [List.getD, List.getElem?_eq_getElem hi] at h3
      exact absurd (by rw [← h3]; exact List.getElem_mem hi) h
  rcases Nat.eq_zero_or_pos N with e | e
  · exact e
  · have h1 := hF.node 0 e
    rw [hM, hM0] at h1
    simp [cnt] at h1
theorem sumI_nS {W : Nat → Int} {N : Nat} (g : Nat → Bool) : sumI (fun v => if g v = true then W v else 0) N = nS W N (fun v => g v = true) := by
  unfold nS
  refine sumI_congr fun v _ => ?_
  by_cases h : g v = true
  · rw [if_pos h, if_pos h]
  · rw [if_neg h, if_neg h]
end Go.Proofs.YtnmljgjegodkaaaDoor
