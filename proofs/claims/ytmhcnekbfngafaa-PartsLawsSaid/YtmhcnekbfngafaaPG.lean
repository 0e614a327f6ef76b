/- Blocks taken together are all edges; components counted; a graph with an edge less. No program in sight. Memory for the law of blocks: two lists of edges and a row of counts, all of one's own. -/
import Derived.Test.YtmhcnekbfngafaaBlkR
import Derived.Test.YtmhcnekbfngafaaRCompW
import Derived.Test.YtmhcnekbfngafaaDMem
import Derived.Test.YtmhcnekbfngafaaPRow
namespace Go.Proofs.Ytmhcnekbfngafaa
open Go.RowKit

theorem ClsOk.same {E : List (Int × Int)} {T : Int × Int → Int × Int → Prop} {X : List (List (Int × Int))} (hs : ∀ e f, e ∈ E → f ∈ E → T e f → T f e) (ht : ∀ e f g, e ∈ E → f ∈ E → g ∈ E → T e f → T f g → T e g) (h : ClsOk E T X) {b c : List (Int × Int)} (hb : b ∈ X) (hc : c ∈ X) {f : Int × Int} (h1 : f ∈ b) (h2 : f ∈ c) : b = c := by
  have k1 := (h.mem b hb f).1 h1
  have k2 := (h.mem c hc f).1 h2
  have e1 := ((h.mem b hb _).1 (headD_mem (h.ne b hb))).1
  have e2 := ((h.mem c hc _).1 (headD_mem (h.ne c hc))).1
  have k3 := ht _ _ _ e1 k1.1 e2 k1.2 (hs _ _ e2 k1.1 k2.2)
  refine rise_uniq LexLt.irr LexLt.tr (h.up b hb) (h.up c hc) fun g => ?_
  rw [h.mem b hb, h.mem c hc]
  exact ⟨fun k => ⟨k.1, ht _ _ _ e2 e1 k.1 (hs _ _ e1 e2 k3) k.2⟩, fun k => ⟨k.1, ht _ _ _ e1 e2 k.1 k3 k.2⟩⟩
theorem ClsOk.flat {E : List (Int × Int)} {T : Int × Int → Int × Int → Prop} {X : List (List (Int × Int))} (hE : E.Nodup) (hs : ∀ e f, e ∈ E → f ∈ E → T e f → T f e) (ht : ∀ e f g, e ∈ E → f ∈ E → g ∈ E → T e f → T f g → T e g) (h : ClsOk E T X) : X.flatten.Perm E := by
  refine (List.perm_ext_iff_of_nodup ?_ hE).2 fun e => ?_
  · rw [List.Nodup, List.pairwise_flatten]
    refine ⟨fun b hb => rise_nodup (h.up b hb), ?_⟩
    refine List.Pairwise.imp_of_mem (R := fun b c => LexLt (b.headD (0, 0)) (c.headD (0, 0))) (fun {b c} hb hc hlt f hf1 g hf2 e => ?_) h.rise
    subst e
    rw [h.same hs ht hb hc hf1 hf2] at hlt
    exact LexLt.irr _ hlt
  · rw [List.mem_flatten]
    constructor
    · rintro ⟨b, hb, he⟩
      exact ((h.mem b hb e).1 he).1
    · intro he
      obtain ⟨b, hb, h2⟩ := h.all e he
      exact ⟨b, hb, h2⟩
theorem adj_perm {l m : List (Int × Int)} (h : l.Perm m) (i j : Nat) : adj l i j = adj m i j := by
  unfold adj hasE
  exact any_perm h _
theorem adj_edG {N : Nat} {G : Nat → Nat → Bool} (hG : Gr N G) {i j : Nat} (hi : i < N) (hj : j < N) : adj (edG N G) i j = G i j := by
  rcases Nat.lt_trichotomy i j with k | rfl | k
  · exact adj_prs k hj
  · rw [hG.irr i hi]
    cases e : adj (edG N G) i i with
    | false => rfl
    | true =>
      unfold adj hasE at e
      obtain ⟨f, hf, hm⟩ := List.any_eq_true.1 e
      obtain ⟨a, b, hab, -, rfl⟩ := edG_iff.1 hf
      have hm := of_decide_eq_true hm
      unfold Meets at hm
      simp only at hm
      omega
  · rw [adj_symm, hG.sym i j hi hj]; exact adj_prs k hi
/-- How many least nodes there are. -/
theorem lds_parts {N : Nat} {G : Nat → Nat → Bool} (hG : Gr N G) : (lds (conB N G) N).length = partsF N G (fun _ => false) := by
  have e : (lds (conB N G) N).length = cntN N (ldB (conB N G)) := rfl
  unfold partsF
  rw [e, cnt_eq]
  refine cntN_congr fun v hv => ?_
  rw [Bool.eq_iff_iff, leadB_iff]
  unfold ldB Lead
  simp only [Bool.not_eq_true', List.any_eq_false, List.mem_range]
  constructor
  · intro h
    refine ⟨trivial, fun u hu _ hr => ?_⟩
    have := h u hu
    rw [con_eqv hG.sym (by omega)] at this
    exact this (rchB_iff.2 hr)
  · rintro ⟨-, h⟩ u hu he
    rw [con_eqv hG.sym (by omega)] at he
    exact h u hu trivial (rchB_iff.1 he)
theorem less_gr {N : Nat} {G : Nat → Nat → Bool} (hG : Gr N G) (a b : Nat) : Gr N (lessG G a b) where
  sym := less_sym hG.sym a b
  irr i hi := by unfold lessG; rw [hG.irr i hi]; rfl
theorem edG_less {N : Nat} {G : Nat → Nat → Bool} (a b : Nat) : (edG N (lessG G a b)).length ≤ (edG N G).length := by
  have : edG N (lessG G a b) = (edG N G).filter fun e => !(decide (e.1.toNat = a ∧ e.2.toNat = b) || decide (e.1.toNat = b ∧ e.2.toNat = a)) := by
    refine rise_uniq LexLt.irr LexLt.tr (prsTo_rise _ _ _) ((prsTo_rise _ _ _).filter _) fun e => ?_
    rw [List.mem_filter, edG_iff, edG_iff]
    constructor
    · rintro ⟨x, y, h1, h2, rfl⟩
      have h3 := h2.2.2
      unfold lessG at h3
      rw [Bool.and_eq_true] at h3
      exact ⟨⟨x, y, h1, ⟨h2.1, h2.2.1, h3.1⟩, rfl⟩, h3.2⟩
    · rintro ⟨⟨x, y, h1, h2, rfl⟩, h3⟩
      refine ⟨x, y, h1, ⟨h2.1, h2.2.1, ?_⟩, rfl⟩
      unfold lessG
      rw [h2.2.2]
      exact h3
  rw [this]
  exact List.length_filter_le _ _
/-- A graph without an edge, from its table: good. -/
theorem less_good {l : List (Int × Int)} {N : Nat} (hg : GoodGraph N l) (a b : Nat) : GoodGraph N (edG N (lessG (adj l) a b)) :=
  good_prs (by have := hg.hi; omega) (by
    have h1 := edG_less (N := N) (G := adj l) a b
    have h2 : (edG N (adj l)).length = l.length := form_length hg
    have := hg.len
    show (edG N (lessG (adj l) a b)).length ≤ 1000
    omega)
/-- Without a bridge there is one part more. -/
theorem comps_more {l : List (Int × Int)} {N : Nat} (hg : GoodGraph N l) {a b : Nat} (hb : bridgeB N (adj l) ((a : Int), (b : Int)) = true) (ha : AG N (adj l) a b) : (compsL N (adj (edG N (lessG (adj l) a b)))).length = (compsL N (adj l)).length + 1 := by
  have hG := good_gr hg
  unfold bridgeB at hb
  have hb := of_decide_eq_true hb
  simp only [Int.toNat_natCast] at hb
  rw [List.length_map, List.length_map, lds_parts (good_gr (less_good hg a b)), lds_parts hG, ← parts_less_more hG ha.1 ha.2.1 ha.2.2 ((parts_bridge hG ha.1 ha.2.1 ha.2.2).1 hb)]
  refine parts_same fun u v _ hv => ?_
  have key : ∀ i j, i < N → j < N → adj (edG N (lessG (adj l) a b)) i j = lessG (adj l) a b i j := fun i j hi hj => adj_edG (less_gr hG a b) hi hj
  clear hv
  constructor
  · intro k
    induction k with
    | refl => exact .refl
    | step _ h1 h2 h3 h4 ih => exact .step ih h1 h2 (by rw [← key _ _ h1 h2]; exact h3) h4
  · intro k
    induction k with
    | refl => exact .refl
    | step _ h1 h2 h3 h4 ih => exact .step ih h1 h2 (by rw [key _ _ h1 h2]; exact h3) h4

end Go.Proofs.Ytmhcnekbfngafaa
namespace Go.Proofs.Ytmhcnekbfngafaa
open Go.RowKit

/-- A row's block is not that of a list of another type. -/
theorem row_off {w : World} {b : Nat} {t : TypeId} {n : Nat} {f : Nat → Value} {base : Nat} {e : TypeId} {size : Nat} {v : Value} {n' : Nat} {xs : List Value} (hr : w.rowIs b t n f) (ho : w.ownsRow base e size v n' xs) (hne : t ≠ e) : v.ownBlock ≠ some b := by
  intro h
  obtain ⟨c, fz, h1⟩ := ownsRow_type ho b h
  obtain ⟨cur, h2, -⟩ := hr
  rw [h1] at h2
  simp only [Option.some.injEq, Obj.cells.injEq] at h2
  exact hne h2.2.1.symm
theorem row_kept {w w' : World} {b : Nat} {t : TypeId} {n : Nat} {f : Nat → Value} {base : Nat} {e : TypeId} {size : Nat} {v : Value} {n' : Nat} {xs : List Value} (hr : w.rowIs b t n f) (ho : w.ownsRow base e size v n' xs) (hne : t ≠ e) (hg : w.grownBy w' v.ownBlock) : w'.rowIs b t n f :=
  hr.of_block (hg.block b hr.lt fun h => row_off hr ho hne h.symm)
theorem own_off {v : Value} {b : Nat} (h : v.ownBlock ≠ some b) : v.ownBlock = none ∨ v.ownBlock ≠ some b := Or.inr h

structure LwM (w0 wr : World) (N bK : Nat) (vA vS : Value) (A S : List (Int × Int)) (f : Nat → Nat) : Prop where
  hb : Below w0.heap.size w0 wr
  all : OwnE wr w0.heap.size vA A
  sg : OwnE wr w0.heap.size vS S
  ne : ∀ g, vA.ownBlock = some g → vS.ownBlock ≠ some g
  cnt : wr.rowIs bK 3 N (rn f)
  lo : w0.heap.size ≤ bK
section
variable {w0 wr w' : World} {N bK bI : Nat} {vA vS v' : Value} {A S A' : List (Int × Int)} {f f' : Nat → Nat} {I : Nat → Bool}
theorem OwnE.off {w : World} {b base : Nat} {t : TypeId} {n : Nat} {f : Nat → Value} {v : Value} {l : List (Int × Int)} (ho : OwnE w base v l) (hr : w.rowIs b t n f) (hne : t ≠ 61) : v.ownBlock ≠ some b := row_off (e := 61) (size := 2) hr ho hne
theorem LwM.below (h : LwM w0 wr N bK vA vS A S f) (hb : Below wr.heap.size wr w') : LwM w0 w' N bK vA vS A S f :=
  ⟨h.hb.trans (hb.mono h.hb.size), h.all.below hb, h.sg.below hb, h.ne, h.cnt.of_block (hb.block _ h.cnt.lt), h.lo⟩
theorem LwM.congr (h : LwM w0 wr N bK vA vS A S f) (e : ∀ q, q < N → f q = f' q) : LwM w0 wr N bK vA vS A S f' := ⟨h.hb, h.all, h.sg, h.ne, row_rn h.cnt e, h.lo⟩
theorem LwM.appA (h : LwM w0 wr N bK vA vS A S f) (ho : OwnE w' w0.heap.size v' A') (hg : wr.grownBy w' vA.ownBlock) (hat : v'.ownBlock = vA.ownBlock ∨ v'.ownBlock = some wr.heap.size) : LwM w0 w' N bK v' vS A' S f where
  hb := h.hb.grown hg h.hb.size (fun g e => (World.ownsRow.lt h.all g e).1)
  all := ho
  sg := World.ownsRow.kept (e := 61) (size := 2) h.sg hg (by
    cases e : vS.ownBlock with
    | none => exact Or.inl rfl
    | some g => exact Or.inr fun e2 => h.ne g e2.symm e)
  ne g hgv e := by
    rcases hat with k | k
    · exact h.ne g (k ▸ hgv) e
    · rw [k] at hgv
      cases hgv
      have := (World.ownsRow.lt h.sg _ e).2
      omega
  cnt := row_kept (e := 61) (size := 2) h.cnt h.all (by decide) hg
  lo := h.lo
theorem LwM.appS (h : LwM w0 wr N bK vA vS A S f) (ho : OwnE w' w0.heap.size v' A') (hg : wr.grownBy w' vS.ownBlock) (hat : v'.ownBlock = vS.ownBlock ∨ v'.ownBlock = some wr.heap.size) : LwM w0 w' N bK vA v' A A' f where
  hb := h.hb.grown hg h.hb.size (fun g e => (World.ownsRow.lt h.sg g e).1)
  all := World.ownsRow.kept (e := 61) (size := 2) h.all hg (by
    cases e : vA.ownBlock with
    | none => exact Or.inl rfl
    | some g => exact Or.inr fun e2 => h.ne g e e2.symm)
  sg := ho
  ne g hgv e := by
    rcases hat with k | k
    · exact h.ne g hgv (k ▸ e)
    · rw [k] at e
      cases e
      have := (World.ownsRow.lt h.all _ hgv).2
      omega
  cnt := row_kept (e := 61) (size := 2) h.cnt h.sg (by decide) hg
  lo := h.lo
theorem LwM.setI (h : LwM w0 wr N bK vA vS A S f) (hr : wr.rowIs bI 4 N (rb I)) (hlo : w0.heap.size ≤ bI) (k : Nat) (x : Bool) : LwM w0 (wr.setCell ⟨bI, k, none⟩ (.bool x)) N bK vA vS A S f where
  hb := h.hb.setCell (p := ⟨bI, k, none⟩) hlo _
  all := World.ownsRow.kept (e := 61) (size := 2) h.all (grown_set wr bI k _) (own_off (h.all.off hr (by decide)))
  sg := World.ownsRow.kept (e := 61) (size := 2) h.sg (grown_set wr bI k _) (own_off (h.sg.off hr (by decide)))
  ne := h.ne
  cnt := h.cnt.setOther (a := ⟨bI, k, none⟩) (fun e => by
    obtain ⟨c1, h1, -⟩ := h.cnt
    obtain ⟨c2, h2, -⟩ := hr
    rw [e] at h1
    rw [h1] at h2
    simp at h2) _
  lo := h.lo
theorem LwM.setK (h : LwM w0 wr N bK vA vS A S f) (k x : Nat) : LwM w0 (wr.setCell ⟨bK, k, none⟩ (.int .i64 (x : Int))) N bK vA vS A S (fun q => if q = k then x else f q) where
  hb := h.hb.setCell (p := ⟨bK, k, none⟩) h.lo _
  all := World.ownsRow.kept (e := 61) (size := 2) h.all (grown_set wr bK k _) (own_off (h.all.off h.cnt (by decide)))
  sg := World.ownsRow.kept (e := 61) (size := 2) h.sg (grown_set wr bK k _) (own_off (h.sg.off h.cnt (by decide)))
  ne := h.ne
  cnt := row_set_rn h.cnt k x
  lo := h.lo
theorem LwM.offK (h : LwM w0 wr N bK vA vS A S f) (hr : wr.rowIs bI 4 N (rb I)) : bI ≠ bK := fun e => by
  obtain ⟨c1, h1, -⟩ := h.cnt
  obtain ⟨c2, h2, -⟩ := hr
  rw [← e] at h1
  rw [h1] at h2
  simp at h2
end
end Go.Proofs.Ytmhcnekbfngafaa
