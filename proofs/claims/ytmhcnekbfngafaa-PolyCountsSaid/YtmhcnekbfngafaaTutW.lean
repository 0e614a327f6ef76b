/- poly.tutte. -/
import Derived.Test.YtmhcnekbfngafaaTAdd
import Derived.Test.YtmhcnekbfngafaaHangs
import Derived.Test.YtmhcnekbfngafaaGraph
namespace Go.Proofs.Ytmhcnekbfngafaa
open Go Go.RowKit Go.Maps

/-- 'l[1:]' of edges. -/
def cut2 (b o m : Nat) : Option Addr := if m = 0 then some ⟨b, o, none⟩ else some ⟨b, o + 2, none⟩
theorem run_slice_two {P : Program} {t e : TypeId} {i : TypeInfo} (ht : P.underlying t = some (.slice e)) (hi : P.info? e = some i) (hs : i.size = 2) (b off n cap : Nat) (h : n + 1 ≤ cap) (w : World) :
    (Instr.slice t (.slice (some ⟨b, off, none⟩) (n + 1) cap) (some (.int .i64 1)) none none).run P w = .ok (.slice (cut2 b off (cap - 1)) n (cap - 1)) w := by
  have hb : (Instr.sliceBound (.int .i64 1) (n + 1) .sliceB).run P w = .ok 1 w := run_sliceBound w .i64 1 (n + 1) .sliceB (by omega) (by omega)
  simp [Instr.slice, run_underlying ht, Instr.sliceBounds, hb, sizeOf, typeInfo, hi, hs, cut2]
  by_cases e : cap - 1 = 0
  · rw [if_pos e, if_pos (by omega)]
  · rw [if_neg e, if_neg (by omega)]; simp [Addr.add]
theorem IsEdges.cut {w : World} {v : Value} {e : Int × Int} {l : List (Int × Int)} (h : IsEdges w v (e :: l)) : ∃ b o cap, v = .slice (some ⟨b, o, none⟩) (l.length + 1) cap ∧ l.length + 1 ≤ cap ∧ IsEdges w (.slice (cut2 b o (cap - 1)) l.length (cap - 1)) l ∧
    w.cell? ⟨b, o, none⟩ = some (.int .i64 e.1) ∧ w.cell? ⟨b, o + 1, none⟩ = some (.int .i64 e.2) := by
  obtain ⟨a, cap, b, o, h1, h2, h3, h4, h5, h6⟩ := h
  obtain rfl := h4 (by simp)
  have h0 := h6 0 (by simp)
  simp only [List.length_cons] at h2
  refine ⟨b, o, cap, h1, h2, ⟨_, _, b, o + 2, rfl, by omega, by omega, fun hp => ?_, fun hn => ?_, fun j hj => ?_⟩, by simpa using h0.1, by simpa using h0.2⟩
  · unfold cut2; rw [if_neg (by omega)]
  · unfold cut2 at hn; split at hn <;> cases hn
  · have := h6 (j + 1) (by simp; omega)
    rw [show o + (j + 1) * 2 = o + 2 + j * 2 by omega] at this
    simpa using this
/-- A table comes back. -/
def TutPost (l : List (Int × Int)) (c : Nat → Nat) (w : World) (e : Ending) (w' : World) : Prop :=
  ∃ b, e = .returned (.map (some b)) ∧ w.heap.size ≤ b ∧ TabIs w' b (2 ^ l.length) l.length (tutN c (elN l)) ∧ Below w.heap.size w w'
theorem TabIs.congr {w : World} {b n K n' K' : Nat} {T T' : Nat → Nat → Int} (h : TabIs w b n K T) (hn : n ≤ n') (hK : K ≤ K') (e : ∀ i j, T i j = T' i j) : TabIs w b n' K' T' := by
  obtain ⟨D, h1, h2⟩ := h
  exact ⟨D, h1.mono hn, (h2.mono hK).congr e⟩
theorem TabIs.put {w : World} {b n K : Nat} {T : Nat → Nat → Int} (h : TabIs w b n K T) {i j : Nat} (hi : i ≤ K) (hj : j ≤ K) (hK : K ≤ 1000) (hn : n ≤ 1000000) {x : Int} (hx : (Lit.int .i64 x).wf = true) :
    ∃ w', (Instr.mapUpdate 75 (.map (some b)) (.agg #[.int .i64 (i : Int), .int .i64 (j : Int)]) (.int .i64 x)).run Try.prog w = .ok () w' ∧ TabIs w' b (n + 1) K (fun i' j' => if i' = i ∧ j' = j then x else T i' j') ∧ w.grownBy w' (some b) := by
  obtain ⟨D, h1, h2⟩ := h
  obtain ⟨l, hl⟩ := key_ex (i := i) (j := j) (by omega) (by omega)
  obtain ⟨w', hr, ho, hg⟩ := h1.update pairKeyed Try.underlying75 (by unfold maxLen; omega) (show keyOf _ _ _ = some l from hl) (plainElem_int Try.underlying3 hx)
  exact ⟨w', hr, ⟨_, ho, h2.put h1.isMap hl (Nat.le_refl _) hi hj x⟩, hg⟩

/-- A row stays where another block turns. -/
theorem ints_far {w w' : World} {g n cap A : Nat} {L : List Int} (h : IsInts w (.slice (some ⟨g, 0, none⟩) n cap) L) (hc : Chg (· = A) w w') (hA : A ≠ g) : IsInts w' (.slice (some ⟨g, 0, none⟩) n cap) L := by
  obtain ⟨a, cap', b, o, h1, h2, h3, h4, h5, h6⟩ := h
  refine ⟨a, cap', b, o, h1, h2, h3, h4, h5, fun j hj => hc.cell (h6 j hj) fun e => ?_⟩
  have e1 := h4 (by omega)
  simp only [Value.slice.injEq] at h1
  rw [e1] at h1
  have := Option.some.inj h1.1
  simp only [Addr.mk.injEq] at this
  exact hA (e.symm.trans this.1.symm)
theorem upL_set (N : Nat) (u : Nat → Nat) {k : Nat} (hk : k < N) (y : Nat) : ((upL N u).map (Value.int .i64)).set k (.int .i64 (y : Int)) = (upL N (fun v => if v = k then y else u v)).map (Value.int .i64) := by
  refine List.ext_getElem (by simp [upL]) fun i h1 h2 => ?_
  rw [List.getElem_set]
  simp only [upL, List.getElem_map, List.getElem_range]
  by_cases e : k = i
  · subst e; simp
  · rw [if_neg e, if_neg (Ne.symm e)]
/-- One's own copy, turned at one node. -/
theorem melted_is {w : World} {base N : Nat} {u : Nat → Nat} {a1 : Option Addr} {c1 : Nat} (h : w.ownsRow base 3 1 (.slice a1 N c1) N ((upL N u).map (Value.int .i64))) {k : Nat} (hk : k < N) (y : Nat) :
    ∃ g, a1 = some ⟨g, 0, none⟩ ∧ base ≤ g ∧ g < w.heap.size ∧ w.cell? ⟨g, k, none⟩ = some (.int .i64 (u k : Int)) ∧ w.frozen? ⟨g, k, none⟩ = false ∧ IsInts (w.setCell ⟨g, k, none⟩ (.int .i64 (y : Int))) (.slice (some ⟨g, 0, none⟩) N c1) (upL N (fun v => if v = k then y else u v)) := by
  obtain ⟨g, rfl⟩ : ∃ g, a1 = some ⟨g, 0, none⟩ := by
    rcases h.2 with ⟨h0, h1⟩ | ⟨g, _, _, h0, _⟩
    · omega
    · simp only [Value.slice.injEq] at h0
      exact ⟨g, h0.1⟩
  have hlt := h.lt g rfl
  refine ⟨g, rfl, hlt.1, hlt.2, ?_, h.frozenAt k, ?_⟩
  · rw [h.cellAt k (by omega)]
    simp [upL, hk]
  · have := h.stored k (.int .i64 (y : Int))
    rw [upL_set N u hk y] at this
    exact IsInts.owned this.1
theorem pow_few {l : List (Int × Int)} (hl : l.length ≤ 12) : 2 ^ l.length ≤ 4096 := by
  have : (2 : Nat) ^ l.length ≤ 2 ^ 12 := Nat.pow_le_pow_right (by omega) hl
  omega
theorem tut_bound {c : Nat → Nat} {l : List (Int × Int)} (hl : l.length ≤ 12) (i j : Nat) : 0 ≤ tutN c (elN l) i j ∧ tutN c (elN l) i j ≤ 1000000000 := by
  have h1 := tut_few (elN l) c i j
  have h2 := pow_few hl
  rw [elN_length] at h1
  omega
theorem tut_farl (c : Nat → Nat) (l : List (Int × Int)) (i j : Nat) (h : l.length < i ∨ l.length < j) : tutN c (elN l) i j = 0 := tut_far (elN l) c i j (by rw [elN_length]; exact h)

set_option maxHeartbeats 6400000 in
set_option maxRecDepth 100000 in
theorem tutte_nil {N : Nat} (c : Nat → Nat) (uv ev : Value) (w : World) (he : IsEdges w ev []) : Calls Try.prog 49 #[uv, ev] w (TutPost [] c w) := by
  obtain ⟨ad, cap, bb, o, rfl, -, -, -, -, -⟩ := he
  have hmm := @run_makeMap Try.prog
  have hb1 := below1 w (.map #[] 0)
  obtain ⟨w2, hput, ht2, hg2⟩ := (TabIs.made w).put (i := 0) (j := 0) (Nat.le_refl _) (Nat.le_refl _) (by omega) (by omega) (x := 1) (by decide)
  have Ht := Lib.hid ht2
  have Hb := Lib.hid (hb1.grown hg2 (by simp) (fun g e => by cases e; exact Nat.le_refl _))
  clear ht2 hg2 hb1
  have hput : (Instr.mapUpdate 75 (.map (some w.heap.size)) (.agg #[.int .i64 0, .int .i64 0]) (.int .i64 1)).run Try.prog (w.alloc (.map #[] 0)) = .ok () w2 := hput
  go_enter Try.func49, Try.ntmps49
  go_wp2
  go_ret
  refine ⟨_, rfl, Nat.le_refl _, Ht.out.congr (by simp) (by simp) fun i j => ?_, Hb.out⟩
  simp [elN, tutN]

set_option maxHeartbeats 6400000 in
set_option maxRecDepth 100000 in
theorem tutte_any {N : Nat} (hN : N ≤ 100) : ∀ (l : List (Int × Int)) (u c : Nat → Nat) (uv ev : Value) (w : World), Forest N u c → EndsN N l → l.length ≤ 12 → IsInts w uv (upL N u) → IsEdges w ev l →
    Calls Try.prog 49 #[uv, ev] w (TutPost l c w) := by
  intro l
  induction l with
  | nil => intro u c uv ev w _ _ _ _ he; exact tutte_nil (N := N) c uv ev w he
  | cons e l ih =>
    intro u c uv ev w hF hE hl hu he
    obtain ⟨x, y, hxy, hx, hy⟩ := hE.at (k := 0) (by simp)
    simp only [List.getD_cons_zero] at hxy
    subst hxy
    obtain ⟨eb, eo, cap, rfl, hcap, htl, cx, cy⟩ := he.cut
    simp only at cx cy
    simp only [List.length_cons] at hl
    obtain ⟨i2, hi2, hz2, hsz2, hby2⟩ := info_parts info2
    have hsl := run_slice_two (P := Try.prog) Try.underlying22 hi2 hsz2 eb eo l.length cap hcap
    have IH := Lib.hid ih; have HF := Lib.hid hF; have HE := Lib.hid (show EndsN N l from fun e he => hE e (by simp [he])); have Hu := Lib.hid hu; have Htl := Lib.hid htl
    have n1 := World.new_ne w ⟨eb, eo, none⟩ cx
    have n2 := World.new_ne w ⟨eb, eo + 1, none⟩ cy
    clear ih hF hE hu he htl
    go_enter Try.func49, Try.ntmps49
    go_wp2
    go_region_held3 (fun w' => w'.cell? ⟨eb, eo, none⟩ = some (.int .i64 (x : Int)) ∧ w'.cell? ⟨eb, eo + 1, none⟩ = some (.int .i64 (y : Int))) (go_keep) (fail)
    rename_i hh
    clear hh n1 n2 hsl
    have cells := two_cells w (.int .i64 (x : Int)) (.int .i64 (y : Int)) 61
    have B2 := Lib.hid ((below1 w (.cells #[.int .i64 (x : Int), .int .i64 (y : Int)] 61)).drew)
    have k0 : (w.alloc (Obj.cells #[.int .i64 (x : Int), .int .i64 (y : Int)] 61)).drew.cell? ⟨w.heap.size, 0, none⟩ = some (.int .i64 (x : Int)) := cells.1
    have k1 : (w.alloc (Obj.cells #[.int .i64 (x : Int), .int .i64 (y : Int)] 61)).drew.cell? ⟨w.heap.size, 1, none⟩ = some (.int .i64 (y : Int)) := cells.2
    clear cells cx cy
    generalize (w.alloc (Obj.cells #[.int .i64 (x : Int), .int .i64 (y : Int)] 61)).drew = w2 at *
    have P1 := Lib.hid (fun n : Nat => top_any HF.out hN hx uv (w2.drewN n) ((Hu.out.below B2.out).drewN n))
    have P2 := Lib.hid (fun n : Nat => top_any HF.out hN hy uv (w2.drewN n) ((Hu.out.below B2.out).drewN n))
    go_upto_region 4 with fail
    go_quiet ((first | with_reducible exact Calls.quiet_of_same (P1.out _) | with_reducible exact Calls.quiet_of_same (P2.out _)))
    have hmm := @run_makeMap Try.prog
    have B3 := Lib.hid (show Below w.heap.size w (w2.drewN nq) from Below.drewN' B2.out nq)
    clear P1 P2 B2 k0 k1
    have lx := HF.out.can.lt x hx
    have ly := HF.out.can.lt y hy
    have Hbd := Lib.hid (fun c => tut_bound (c := c) (l := l) (by omega))
    have Hfar := Lib.hid (fun c => tut_farl c l)
    generalize w2.drewN nq = w3 at *
    have T3 := Lib.hid (TabIs.made w3)
    have B4 := Lib.hid (upp0 B3.out (below1 w3 (.map #[] 0)))
    have hA : w3.heap.size < (w3.alloc (.map #[] 0)).heap.size := by simp
    have hwA : w.heap.size ≤ w3.heap.size := B3.out.size
    by_cases hxy : c x = c y
    · have q : ((c x : Int) == (c y : Int)) = true := by simp [hxy]
      have Hxy := Lib.hid hxy
      clear hxy
      go_upto_region 7 with fail
      generalize w3.alloc (.map #[] 0) = w4 at *
      generalize w3.heap.size = A at *
      clear hmm
      go_wp2_with fail
      refine (IH.out u c uv _ w4 HF.out HE.out (by omega) (Hu.out.below B4.out) (Htl.out.below B4.out)).mono ?_
      rintro e w5 ⟨b, rfl, hb, ht, hbw⟩
      have T5 := Lib.hid (T3.out.below (hbw.block _ T3.out.lt))
      have B5 := Lib.hid (upp0 B4.out hbw)
      have Ht := Lib.hid ht
      have hAb : A ≠ b := by omega
      clear ht hbw
      go_wp2_with fail
      refine (tadd_any (dx := 0) (dy := 1) (K := l.length + 1) w5 T5.out Ht.out hAb (by omega) (by omega) (by have := pow_few (l := l) (by omega); omega) (by omega) (Nat.le_refl _) (by omega) (fun _ _ => ⟨Int.le_refl _, by omega⟩) (Hbd.out c) (Hfar.out c)).mono ?_
      rintro e w6 ⟨rfl, ht6, hc6⟩
      have T6 := Lib.hid ht6
      have B6 := Lib.hid (B5.out.trans (hc6.toBelow B5.out.size (fun k hk e => by omega)))
      clear ht6 hc6
      go_wp2
      go_ret
      refine ⟨A, rfl, hwA, T6.out.congr (by rw [List.length_cons, Nat.pow_succ]; omega) (by simp) fun i j => ?_, B6.out⟩
      rw [show elN ((↑x, ↑y) :: l) = (x, y) :: elN l from by simp [elN], tutN, if_pos Hxy.out]
      unfold addT
      by_cases ej : j = 0
      · subst ej; rw [if_neg (by omega), if_pos rfl]; rfl
      · rw [if_pos (by omega), if_neg ej]; simp
    · have q : ((c x : Int) == (c y : Int)) = false := by simp; omega
      have Hxy := Lib.hid hxy
      have hsz4 : (w3.alloc (.map #[] 0)).heap.size = w3.heap.size + 1 := by simp
      go_upto_region 9 with fail
      generalize w3.alloc (.map #[] 0) = w4 at *
      generalize w3.heap.size = A at *
      clear hmm
      have hi4 := (Hu.out.below B4.out).cells
      rw [upL_length] at hi4
      have Hi4 := Lib.hid hi4
      clear hi4
      go_upto_region 10 with (at_builtin; refine wpList_append_has rfl (.const (.slice none 0 0)) (.tmp 40) 39 rfl w4.heap.size 3 (.int .i64 0) 8 Try.underlying39 info3 rfl _ 0 [] rfl (World.ownsRow_nil _ _ _ _) _ N ((upL N u).map (Value.int .i64)) rfl Hi4.out (by omega) (by omega) (by omega) ?_; intro a1 c1 w5 hown1 hg1; simp only [Nat.zero_add, List.nil_append] at hown1; have Hown1 := Lib.hid hown1; have Hg1 := Lib.hid hg1; clear hown1 hg1)
      obtain ⟨g, rfl, hg0, hg1, hgc, hgf, him⟩ := melted_is Hown1.out lx (c y)
      have Bx := Lib.hid (show Below w4.heap.size w4 w5 from ⟨Hg1.out.os, Hg1.out.tape, Hg1.out.output, Hg1.out.size, fun i hi => Hg1.out.block i hi (fun e => by cases e)⟩)
      have Bm := Lib.hid (Bx.out.setCell (p := ⟨g, c x, none⟩) hg0 (.int .i64 (c y : Int)))
      have Him := Lib.hid him
      clear him
      have hcx : (0 : Int) ≤ (c x : Int) ∧ (c x : Int) < (N : Int) := by omega
      go_upto_region 11 with fail
      generalize w5.setCell ⟨g, c x, none⟩ (.int .i64 (c y : Int)) = w6 at *
      have B6 := Lib.hid (upp0 B4.out Bm.out)
      have T6 := Lib.hid (T3.out.below (Bm.out.block _ T3.out.lt))
      have hs6 := Bm.out.size
      clear hgc hgf Bx
      go_wp2_with fail
      refine (hangs_any HF.out hN HE.out (by omega) lx ly uv _ w6 (Hu.out.below B6.out) (Htl.out.below B6.out)).mono ?_
      rintro e w7 ⟨rfl, hb7⟩
      have hang : Hang c (elN l) (c x, c y) ↔ Hang c (elN l) (x, y) := by
        unfold Hang
        simp only
        rw [fold_root HF.out.can hx, fold_root HF.out.can hy]
      have B7 := Lib.hid (upp0 B6.out hb7)
      have T7 := Lib.hid (T6.out.below (hb7.block _ T6.out.lt))
      have I7 := Lib.hid (Him.out.below hb7)
      have hs7 := hb7.size
      have FM := Lib.hid (HF.out.melt hx hy Hxy.out)
      clear hb7
      by_cases hh : Hang c (elN l) (x, y)
      · have q2 : decide (Hang c (elN l) (c x, c y)) = true := by simpa [hang] using hh
        have Hh := Lib.hid hh
        clear hh hang
        go_wp2_with fail
        refine (IH.out u c uv _ w7 HF.out HE.out (by omega) (Hu.out.below B7.out) (Htl.out.below B7.out)).mono ?_
        rintro e w8 ⟨b, rfl, hb, ht, hbw⟩
        have T8 := Lib.hid (T7.out.below (hbw.block _ T7.out.lt))
        have B8 := Lib.hid (upp0 B7.out hbw)
        have I8 := Lib.hid (I7.out.below hbw)
        have Ht := Lib.hid ht
        have hAb : A ≠ b := by omega
        have hs8 := hbw.size
        clear ht hbw
        go_wp2_with fail
        refine (tadd_any (dx := 0) (dy := 0) (K := l.length + 1) w8 T8.out Ht.out hAb (by omega) (by omega) (by have := pow_few (l := l) (by omega); omega) (by omega) (Nat.le_refl _) (by omega) (fun _ _ => ⟨Int.le_refl _, by omega⟩) (Hbd.out c) (Hfar.out c)).mono ?_
        rintro e w9 ⟨rfl, ht9, hc9⟩
        have T9 := Lib.hid ht9
        have B9 := Lib.hid (B8.out.trans (hc9.toBelow B8.out.size (fun k hk e => by omega)))
        have hAg : A < g := by omega
        have I9 := Lib.hid (ints_far I8.out hc9 (by omega))
        have hs9 := hc9.size
        clear ht9 hc9
        go_wp2_with fail
        refine (IH.out _ _ _ _ w9 FM.out HE.out (by omega) I9.out (Htl.out.below B9.out)).mono ?_
        rintro e w10 ⟨b2, rfl, hb2, ht2, hbw2⟩
        have T10 := Lib.hid (T9.out.below (hbw2.block _ T9.out.lt))
        have B10 := Lib.hid (upp0 B9.out hbw2)
        have Ht2 := Lib.hid ht2
        have hAb2 : A ≠ b2 := by omega
        clear ht2 hbw2
        go_wp2_with fail
        refine (tadd_any (dx := 0) (dy := 0) (K := l.length + 1) w10 T10.out Ht2.out hAb2 (by omega) (by omega) (by have := pow_few (l := l) (by omega); omega) (by omega) (Nat.le_refl _) (by omega) (fun i j => by rw [show addT (fun _ _ => 0) (tutN c (elN l)) 0 0 i j = tutN c (elN l) i j by simp [addT]]; exact Hbd.out c i j) (Hbd.out _) (Hfar.out _)).mono ?_
        rintro e w11 ⟨rfl, ht11, hc11⟩
        have T11 := Lib.hid ht11
        have B11 := Lib.hid (B10.out.trans (hc11.toBelow B10.out.size (fun k hk e => by omega)))
        clear ht11 hc11
        go_wp2
        go_ret
        refine ⟨A, rfl, hwA, T11.out.congr (by rw [List.length_cons, Nat.pow_succ]; omega) (by simp) fun i j => ?_, B11.out⟩
        · rw [show elN ((↑x, ↑y) :: l) = (x, y) :: elN l from by simp [elN], tutN, if_neg Hxy.out, if_pos Hh.out]
          unfold addT
          simp
      · have q2 : decide (Hang c (elN l) (c x, c y)) = false := by simpa [hang] using hh
        have Hh := Lib.hid hh
        clear hh hang
        go_wp2_with fail
        refine (IH.out _ _ _ _ w7 FM.out HE.out (by omega) I7.out (Htl.out.below B7.out)).mono ?_
        rintro e w8 ⟨b, rfl, hb, ht, hbw⟩
        have T8 := Lib.hid (T7.out.below (hbw.block _ T7.out.lt))
        have B8 := Lib.hid (upp0 B7.out hbw)
        have Ht := Lib.hid ht
        have hAb : A ≠ b := by omega
        clear ht hbw
        go_wp2_with fail
        refine (tadd_any (dx := 1) (dy := 0) (K := l.length + 1) w8 T8.out Ht.out hAb (by omega) (by omega) (by have := pow_few (l := l) (by omega); omega) (by omega) (Nat.le_refl _) (by omega) (fun _ _ => ⟨Int.le_refl _, by omega⟩) (Hbd.out _) (Hfar.out _)).mono ?_
        rintro e w9 ⟨rfl, ht9, hc9⟩
        have T9 := Lib.hid ht9
        have B9 := Lib.hid (B8.out.trans (hc9.toBelow B8.out.size (fun k hk e => by omega)))
        clear ht9 hc9
        go_wp2
        go_ret
        refine ⟨A, rfl, hwA, T9.out.congr (by rw [List.length_cons, Nat.pow_succ]; omega) (by simp) fun i j => ?_, B9.out⟩
        rw [show elN ((↑x, ↑y) :: l) = (x, y) :: elN l from by simp [elN], tutN, if_neg Hxy.out, if_neg Hh.out]
        unfold addT
        by_cases ei : i = 0
        · subst ei; rw [if_neg (by omega), if_pos rfl]; rfl
        · rw [if_pos (by omega), if_neg ei]; simp

end Go.Proofs.Ytmhcnekbfngafaa
