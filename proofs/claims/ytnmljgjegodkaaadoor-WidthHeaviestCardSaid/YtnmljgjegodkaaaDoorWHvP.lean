/- The law of WidthHeaviest: its fault, step by step; 'append' in a drawn region. No walk. -/
import Derived.Test.YtnmljgjegodkaaaDoorHeaW
import Derived.Test.YtnmljgjegodkaaaDoorRHea
import Derived.Test.YtnmljgjegodkaaaDoorLBox
import Derived.Test.YtnmljgjegodkaaaDoorGOwn
namespace Go.Proofs.YtnmljgjegodkaaaDoor
open Go Go.RowKit

theorem step_append_has {P : Program} {ops : Array Oper} {o : Oper} {a : Act} {w : World} {K : Act → World → Prop} {Q : Exit → Act → World → Prop} {E : Prop} (hg : o.guard = none) (s x : Operand) (t : TypeId)
    (ho : o.op = .call { callee := .builtin .append, args := #[s, x], argTypes := #[t, t] }) (base : Nat) (e : TypeId) (z : Value) (bytes : Nat) (ht : P.underlying t = some (.slice e)) (hinfo : (P.info? e).map (fun i => (i.zero, i.size, i.bytes)) = some (some z, 1, bytes)) (hz1 : z.cells.size = 1)
    (v : Value) (n : Nat) (xs : List Value) (hs : a.eval s = v) (hown : w.ownsRow base e 1 v n xs) (src : Value) (m : Nat) (news : List Value) (hx : a.eval x = src) (hsrc : HasCells w src m news)
    (h63 : n + m ≤ 9223372036854775807) (hbytes : (n + m) * bytes ≤ 140737488355328) (hbase : base ≤ w.heap.size)
    (hK : ∀ a' c' w', w'.ownsRow base e 1 (.slice a' (n + m) c') (n + m) (xs ++ news) → w.grownBy w' v.ownBlock → K (a.put o.dst (.slice a' (n + m) c')) w') :
    if Region.wanted o (yielded ops a.tmps) = true then Oper.wp P o a w K Q else E := by
  have hw : Region.wanted o (yielded ops a.tmps) = true := by simp [Region.wanted, hg]
  rw [if_pos hw]
  obtain ⟨i, hi, hz0, hsz, hby⟩ := info_parts hinfo
  obtain ⟨ao, cap, rfl, hl, hnone, hcells, hone⟩ := hsrc
  cases ao with
  | none =>
    obtain ⟨rfl, rfl⟩ := hnone rfl
    have hn : news = [] := List.eq_nil_of_length_eq_zero hl
    subst hn
    have hrun := run_append_owned_none (P := P) (w := w) base t o.type e i 1 ht hi v _ _ hown
    obtain ⟨a', c', rfl⟩ := ownsRow_form hown
    unfold Oper.wp
    simp [execOp, ho, resolve, invoke, builtin, hs, hx, hrun, Result.andThen]
    have h5 := hK a' c' w (by simpa using hown) (World.grownBy.refl _ _)
    simp only [Nat.add_zero] at h5
    exact h5
  | some ad =>
    refine wp_append_own w s x t ho base e i z 1 bytes ht hi hz0 hsz hby hz1 (by omega) v n xs hs hown ad m cap news hx (by omega) (hcells ad rfl) hone (by unfold maxLen; omega) hbytes hbase fun v' w' h1 h2 _ => ?_
    obtain ⟨a', c', rfl⟩ := ownsRow_form h1
    exact hK a' c' w' h1 h2
theorem bcellH {W w1 : World} (hb : Below W.heap.size W w1) : (∀ b o, b < W.heap.size → w1.cell? ⟨b, o, none⟩ = W.cell? ⟨b, o, none⟩) ∧ (∀ b o, b < W.heap.size → w1.frozen? ⟨b, o, none⟩ = W.frozen? ⟨b, o, none⟩) :=
  ⟨fun b o h => hb.cell (p := ⟨b, o, none⟩) h, fun b o h => hb.frozen (p := ⟨b, o, none⟩) h⟩
/-- A fault has been found, or all is well so far. -/
def Stg (n : Int) (l : List (Int × Int)) (ws : List Int) (m : List (List Int)) (u : List Int) (X : Prop) (c a : Int) : Prop := (HeaSpec n l ws m u c a ∧ c ≠ 0) ∨ (c = 0 ∧ a = 0 ∧ X)
/-- The weights are fine up to i. -/
def WtX (n : Int) (l : List (Int × Int)) (ws : List Int) (m : List (List Int)) (u : List Int) (i : Nat) : Prop := FitsSpec n l m u 0 0 ∧ (ws.length : Int) = n ∧ ∀ j, j < i → WtOk (ws.getD j 0)
/-- The bags are small up to i. -/
def BgX (n : Int) (l : List (Int × Int)) (ws : List Int) (m : List (List Int)) (u : List Int) (i : Nat) : Prop := WtX n l ws m u ws.length ∧ OvP n l m u ∧ ∀ j, j < i → (m.getD j []).length ≤ 12
section
variable {n : Int} {l : List (Int × Int)} {ws : List Int} {m : List (List Int)} {u : List Int}
theorem Stg.start {c a : Int} (h : FitsSpec n l m u c a) : Stg n l ws m u (FitsSpec n l m u 0 0) c a := by
  by_cases e : c = 0
  · subst e
    obtain ⟨rfl, _⟩ := h.good
    exact .inr ⟨rfl, rfl, h⟩
  · exact .inl ⟨.inl ⟨h, e⟩, e⟩
theorem stg_size (h : FitsSpec n l m u 0 0) (hn : (ws.length : Int) ≠ n) : HeaSpec n l ws m u 6 1 := .inr ⟨h, .inl ⟨hn, rfl, rfl⟩⟩
theorem stg_wt {i : Nat} (h : WtX n l ws m u i) (hi : i < ws.length) (hx : ¬ WtOk (ws.getD i 0)) : HeaSpec n l ws m u 3 (i : Int) := .inr ⟨h.1, .inr ⟨h.2.1, .inl ⟨i, hi, h.2.2, hx, rfl, rfl⟩⟩⟩
theorem stg_ov (h : WtX n l ws m u ws.length) (hx : ¬ OvP n l m u) : HeaSpec n l ws m u 7 0 := .inr ⟨h.1, .inr ⟨h.2.1, .inr ⟨h.2.2, .inl ⟨hx, rfl, rfl⟩⟩⟩⟩
theorem stg_bag {i : Nat} (h : BgX n l ws m u i) (hi : i < m.length) (hx : 12 < (m.getD i []).length) : HeaSpec n l ws m u 2 (i : Int) := .inr ⟨h.1.1, .inr ⟨h.1.2.1, .inr ⟨h.1.2.2, .inr ⟨h.2.1, .inl ⟨i, hi, h.2.2, hx, rfl, rfl⟩⟩⟩⟩⟩
theorem Stg.done {c a : Int} (h : Stg n l ws m u (BgX n l ws m u m.length) c a) : HeaSpec n l ws m u c a := by
  rcases h with h | ⟨rfl, rfl, h⟩
  · exact h.1
  · exact .inr ⟨h.1.1, .inr ⟨h.1.2.1, .inr ⟨h.1.2.2, .inr ⟨h.2.1, .inr ⟨h.2.2, rfl, rfl⟩⟩⟩⟩⟩
end
/-- The graphs, the bags, the weights and the links up. -/
structure HB (w wr : World) (n : Int) (v v2 : Value) (l : List (Int × Int)) (B : Nat) (m : List (List Int)) (bv rv : Value) (ws : List Int) (wv : Value) (u : List Int) (uv : Value) : Prop where
  lb : LB w wr n v v2 l B
  hm : IsRows wr bv m
  hr : IsRows wr rv m
  hw : IsInts wr wv ws
  hu : IsInts wr uv u
theorem HB.below {w wr w' : World} {n : Int} {v v2 : Value} {l : List (Int × Int)} {B : Nat} {m : List (List Int)} {bv rv : Value} {ws : List Int} {wv : Value} {u : List Int} {uv : Value} (h : HB w wr n v v2 l B m bv rv ws wv u uv) (hb : Below wr.heap.size wr w') : HB w w' n v v2 l B m bv rv ws wv u uv :=
  ⟨h.lb.below hb, h.hm.below hb, h.hr.below hb, h.hw.below hb, h.hu.below hb⟩
/-- The fault's variable lies behind world w6. -/
structure HvW (w6 wx : World) (c a : Int) : Prop where
  fv : FV wx w6.heap.size c a
  hb : Below w6.heap.size w6 wx
theorem HvW.below {w6 wx w' : World} {c a : Int} (h : HvW w6 wx c a) (hb : Below wx.heap.size wx w') : HvW w6 w' c a := ⟨h.fv.below hb, h.hb.trans (hb.mono h.hb.size)⟩
theorem HvW.put {w6 wx : World} {c a : Int} (h : HvW w6 wx c a) (c' a' : Int) (o : Obj) : HvW w6 (((wx.setCell ⟨w6.heap.size, 0, none⟩ (.int .i64 c')).setCell ⟨w6.heap.size, 1, none⟩ (.int .i64 a')).alloc o) c' a' :=
  HvW.below ⟨h.fv.put c' a', (h.hb.setCell (p := ⟨w6.heap.size, 0, none⟩) (Nat.le_refl _) _).setCell (p := ⟨w6.heap.size, 1, none⟩) (Nat.le_refl _) _⟩ (below1 _ _)
theorem below_grownN {w w' : World} (h : w.grownBy w' none) : Below w.heap.size w w' := ⟨h.os, h.tape, h.output, h.size, fun k hk => h.block k hk (by simp)⟩
theorem filt_at {g : Nat → Bool} {N i : Nat} (hi : i < ((List.range N).filter g).length) : ((List.range N).filter g).getD i 0 < N ∧ g (((List.range N).filter g).getD i 0) = true := by
  have h1 := at_mem hi
  rw [List.mem_filter, List.mem_range] at h1
  exact h1
theorem filt_up (g : Nat → Bool) (N : Nat) : ∀ i, i + 1 < ((List.range N).filter g).length → ((List.range N).filter g).getD i 0 < ((List.range N).filter g).getD (i + 1) 0 := fun i hi => by
  have hp : ((List.range N).filter g).Pairwise (· < ·) := List.Pairwise.filter _ List.pairwise_lt_range
  have h1 : i < ((List.range N).filter g).length := by omega
  have e0 : ((List.range N).filter g).getD i 0 = ((List.range N).filter g)[i] := by rw [List.getD, List.getElem?_eq_getElem h1]; rfl
  have e1 : ((List.range N).filter g).getD (i + 1) 0 = ((List.range N).filter g)[i + 1] := by rw [List.getD, List.getElem?_eq_getElem hi]; rfl
  rw [e0, e1]
  exact List.pairwise_iff_getElem.1 hp i (i + 1) h1 hi (by omega)
theorem filt_len (g : Nat → Bool) (N : Nat) : ((List.range N).filter g).length ≤ N := by
  have h1 := List.length_filter_le g (List.range N)
  rwa [List.length_range] at h1
theorem filt_sum {W : Nat → Int} {g : Nat → Bool} {N : Nat} : sumI (fun q => W (((List.range N).filter g).getD q 0)) ((List.range N).filter g).length = nS W N (fun v => g v = true) := by
  have h1 := lsum_nS (W := W) (N := N) (b := (List.range N).filter g) (fun _ => True) (List.Pairwise.filter _ List.nodup_range) (fun v hv => by rw [List.mem_filter, List.mem_range] at hv; exact hv.1) (fun _ => True) (fun _ _ => Iff.rfl)
  simp only [if_true] at h1
  rw [h1]
  exact nS_congr fun v hv => by
    rw [List.mem_filter, List.mem_range]
    exact ⟨fun h => h.1.2, fun h => ⟨⟨hv, h⟩, trivial⟩⟩
/-- Behind the call of Heaviest: its fault's variable, the total, the nodes. -/
def HvCut (w11 wx : World) (n : Int) (l : List (Int × Int)) (ws : List Int) (c1 a1 : Int) (s14 s15 s16 : Value) : Prop :=
  ∃ (Gb : Nat) (tot : Int) (base : Nat) (vl : Value), s16 = .pointer (some ⟨Gb, 0, none⟩) ∧ s14 = .int .i64 tot ∧ vl = s15 ∧ FV wx Gb c1 a1 ∧ ((c1 ≠ 0 ∧ tot = 0 ∧ vl = .slice none 0 0) ∨ (c1 = 0 ∧ HeaGood n l ws base wx tot vl)) ∧ Below w11.heap.size w11 wx
theorem HeaGood.kept {n : Int} {l : List (Int × Int)} {ws : List Int} {B : Nat} {w w' : World} {tot : Int} {vl : Value} {row : Option Nat} (h : HeaGood n l ws B w tot vl) (hg : w.grownBy w' row) (hr : ∀ g, row = some g → g < B) : HeaGood n l ws B w' tot vl := by
  obtain ⟨N, g, h1, h2, h3, h4, h5⟩ := h
  refine ⟨N, g, h1, h2.kept hg ?_, h3, h4, h5⟩
  cases hv : vl.ownBlock with
  | none => exact .inl rfl
  | some q => exact .inr fun e => by have := (h2.lt q hv).1; have := hr q e.symm; omega
theorem FV.dr {w : World} {b : Nat} {c a : Int} (h : FV w b c a) : FV w.drew b c a := ⟨h.r⟩
theorem HvCut.fresh {w11 wH : World} {n : Int} {l : List (Int × Int)} {ws : List Int} {c1 a1 tot : Int} {vl : Value} {base : Nat} (hb : Below w11.heap.size w11 wH) (h : (c1 ≠ 0 ∧ tot = 0 ∧ vl = .slice none 0 0) ∨ (c1 = 0 ∧ a1 = 0 ∧ HeaGood n l ws base wH tot vl)) :
    HvCut w11 (wH.alloc (Obj.cells #[.int .i64 c1, .int .i64 a1] 27)) n l ws c1 a1 (.int .i64 tot) vl (.pointer (some ⟨wH.heap.size, 0, none⟩)) :=
  ⟨_, tot, base, vl, rfl, rfl, rfl, FV.new wH c1 a1, h.imp id (fun ⟨e, _, g⟩ => ⟨e, g.kept (World.grownBy_alloc wH _ none) (fun _ e => by cases e)⟩), upc hb (below1 _ _)⟩
theorem HvCut.set {w11 wH : World} {n : Int} {l : List (Int × Int)} {ws : List Int} {c1 a1 tot c0 a0 : Int} {vl : Value} {base X : Nat} (hb : Below w11.heap.size w11 wH) (h : (c1 ≠ 0 ∧ tot = 0 ∧ vl = .slice none 0 0) ∨ (c1 = 0 ∧ a1 = 0 ∧ HeaGood n l ws base wH tot vl))
    (hf : FV wH X c0 a0) (hX : w11.heap.size ≤ X) (hX2 : X < base) : HvCut w11 ((wH.setCell ⟨X, 0, none⟩ (.int .i64 c1)).setCell ⟨X, 1, none⟩ (.int .i64 a1)) n l ws c1 a1 (.int .i64 tot) vl (.pointer (some ⟨X, 0, none⟩)) :=
  ⟨_, tot, base, vl, rfl, rfl, rfl, hf.put c1 a1, h.imp id (fun ⟨e, _, g⟩ => ⟨e, (g.kept (grown_set wH X 0 _) (fun _ e => by cases e; exact hX2)).kept (grown_set _ X 1 _) (fun _ e => by cases e; exact hX2)⟩), (hb.setCell (p := ⟨X, 0, none⟩) hX _).setCell (p := ⟨X, 1, none⟩) hX _⟩
/-- The heaviest of the document's answer is the heaviest. -/
theorem hv_best {N : Nat} {G : Nat → Nat → Bool} {W : Nat → Int} {g : Nat → Bool} {b tot : Int} (h : HvI G W N (2 ^ N) b) (hsy : ∀ x y, G x y = G y x) (hirr : ∀ x, G x x = false) (htot : tot = nS W N (fun v => g v = true)) (hl : ∀ x y, x < N → y < N → g x = true → g y = true → G x y = false)
    (hbest : ∀ X : Nat → Prop, (∀ x y, X x → X y → G x y = false) → nS W N X ≤ tot) : b = tot := by
  obtain ⟨h1, h2, h3⟩ := h
  have hwt : ∀ s, wtM W N s = nS W N (fun v => v < N ∧ s.testBit v = true) := fun s => by
    unfold wtM nS
    refine sumI_congr fun v hv => ?_
    by_cases e : s.testBit v = true
    · rw [if_pos e, if_pos ⟨hv, e⟩]
    · rw [if_neg e, if_neg fun k => e k.2]
  have hle : ∀ s, FreeM G N s → wtM W N s ≤ tot := fun s hs => by
    rw [hwt]
    refine hbest _ fun x y hx hy => ?_
    rcases Nat.lt_trichotomy x y with e | e | e
    · have := hs y x hy.1 e
      cases hg : G x y with
      | false => rfl
      | true => exact absurd ⟨hy.2, hx.2, by rw [hsy]; exact hg⟩ this
    · subst e; exact hirr x
    · have := hs x y hx.1 e
      cases hg : G x y with
      | false => rfl
      | true => exact absurd ⟨hx.2, hy.2, hg⟩ this
  have hge : tot ≤ b := by
    have hbit : ∀ v, (maskOf g N).testBit v = (decide (v < N) && g v) := fun v => maskOf_bit g N v
    have hfr : FreeM G N (maskOf g N) := fun v x hv hx hh => by
      rw [hbit, hbit, decide_eq_true hv, decide_eq_true (show x < N by omega), Bool.true_and, Bool.true_and] at hh
      have := hl v x hv (by omega) hh.1 hh.2.1
      rw [hh.2.2] at this
      cases this
    have h4 := h3 (maskOf g N) (few_of_bit fun i hi => by rw [hbit, Bool.and_eq_true, decide_eq_true_eq] at hi; exact hi.1) hfr
    rw [hwt] at h4
    have h5 : nS W N (fun v => v < N ∧ (maskOf g N).testBit v = true) = tot := by
      rw [htot]
      exact nS_congr fun v hv => by rw [hbit, decide_eq_true hv, Bool.true_and]; exact ⟨fun h => h.2, fun h => ⟨hv, h⟩⟩
    omega
  rcases h2 with h2 | ⟨s, _, hs, e⟩
  · have h0 : nS W N (fun _ => False) ≤ tot := hbest _ fun _ _ h => h.elim
    rw [nS_none (fun _ _ h => h)] at h0
    omega
  · have := hle s hs
    omega
end Go.Proofs.YtnmljgjegodkaaaDoor
