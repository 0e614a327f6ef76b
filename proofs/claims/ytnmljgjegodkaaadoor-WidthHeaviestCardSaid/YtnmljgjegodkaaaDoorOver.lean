/- arborref.Over: does a graph lie over bags? -/
import Derived.Test.YtnmljgjegodkaaaDoorParts
import Derived.Test.YtnmljgjegodkaaaDoorGridOf
import Derived.Test.YtnmljgjegodkaaaDoorHasGrid
import Derived.Test.YtnmljgjegodkaaaDoorPM
import Derived.Test.YtnmljgjegodkaaaDoorFitF
import Derived.BigQuiet
namespace Go.Proofs.YtnmljgjegodkaaaDoor
open Go.RowKit

/-- The links up. -/
def linksL (u : List Int) : Nat → List (Int × Int)
  | 0 => []
  | k + 1 => linksL u k ++ if u.getD k 0 = -1 then [] else [((k : Int), u.getD k 0)]
def rootsN (u : List Int) : Nat → Nat
  | 0 => 0
  | k + 1 => rootsN u k + if u.getD k 0 = -1 then 1 else 0
def UpAt (u : List Int) (k : Nat) : Prop := u.getD k 0 = -1 ∨ (0 ≤ u.getD k 0 ∧ u.getD k 0 < (u.length : Int) ∧ u.getD k 0 ≠ (k : Int))
def anyN (f : Nat → Bool) : Nat → Bool
  | 0 => false
  | k + 1 => anyN f k || f k
theorem anyN_iff {f : Nat → Bool} : ∀ {k : Nat}, anyN f k = true ↔ ∃ i, i < k ∧ f i = true
  | 0 => ⟨fun h => (by cases h), fun ⟨i, hi, _⟩ => absurd hi (Nat.not_lt_zero _)⟩
  | k + 1 => by
    rw [anyN, Bool.or_eq_true, anyN_iff]
    constructor
    · rintro (⟨i, hi, h⟩ | h)
      · exact ⟨i, by omega, h⟩
      · exact ⟨k, by omega, h⟩
    · rintro ⟨i, hi, h⟩
      by_cases e : i = k
      · subst e; exact .inr h
      · exact .inl ⟨i, by omega, h⟩
def hasB (bs : List (List Nat)) (v i : Nat) : Bool := (bs.getD i []).contains v
def shutB (bs : List (List Nat)) (v i : Nat) : Bool := decide (i < bs.length) && !hasB bs v i
theorem roots_le (u : List Int) : ∀ k, rootsN u k ≤ k
  | 0 => Nat.le_refl _
  | k + 1 => by have := roots_le u k; rw [rootsN]; split <;> omega
theorem links_len (u : List Int) : ∀ k, (linksL u k).length ≤ k
  | 0 => Nat.le_refl _
  | k + 1 => by have := links_len u k; rw [linksL]; split <;> simp <;> omega
theorem links_ok {u : List Int} : ∀ {k : Nat}, k ≤ u.length → (∀ i, i < k → UpAt u i) → ∀ p ∈ linksL u k, EndsOk (u.length : Int) p ∧ p.1 ≠ p.2
  | 0, _, _, p, hp => by cases hp
  | k + 1, hk, h, p, hp => by
    rw [linksL, List.mem_append] at hp
    rcases hp with hp | hp
    · exact links_ok (by omega) (fun i hi => h i (by omega)) p hp
    · split at hp
      · cases hp
      · rename_i hne
        rw [List.mem_singleton] at hp
        subst hp
        rcases h k (by omega) with e | ⟨e1, e2, e3⟩
        · exact absurd e hne
        · exact ⟨⟨by simp <;> omega, e1, by simp <;> omega, e2⟩, fun e => e3 e.symm⟩
/-- A graph lies over bags. -/
structure OverT (N : Nat) (l : List (Int × Int)) (bs : List (List Nat)) (u : List Int) : Prop where
  up : ∀ i, i < u.length → UpAt u i
  root : 0 < bs.length → rootsN u u.length = 1
  one : 0 < bs.length → partsF bs.length (adj (linksL u u.length)) (fun _ => false) = 1
  edge : ∀ j, j < l.length → ∃ i, i < bs.length ∧ hasB bs (l.getD j (0, 0)).1.toNat i = true ∧ hasB bs (l.getD j (0, 0)).2.toNat i = true
  node : ∀ v, v < N → (∃ i, i < bs.length ∧ hasB bs v i = true) ∧ partsF bs.length (adj (linksL u u.length)) (shutB bs v) = 1
theorem IsEdges.atF {w : World} {a : Option Addr} {len c : Nat} {l : List (Int × Int)} (h : IsEdges w (.slice a len c) l) {k : Nat} (hk : k < l.length) : ∃ b o, a = some ⟨b, o, none⟩ ∧ w.cell? ⟨b, o + k * 2, none⟩ = some (.int .i64 (l.getD k (0, 0)).1) ∧ w.cell? ⟨b, o + k * 2 + 1, none⟩ = some (.int .i64 (l.getD k (0, 0)).2) := by
  obtain ⟨a2, c2, b, o, e, h1, h2, h3, h4, h5⟩ := h
  simp only [Value.slice.injEq] at e
  obtain ⟨rfl, rfl, rfl⟩ := e
  exact ⟨b, o, h3 (by omega), (h5 k hk).1, (h5 k hk).2⟩
theorem has2_still {l : List Nat} {s : Value} {v : Nat} {w : World} {b : Bool} (h : IsInts w s (ints l)) (hb : l.contains v = b) :
    Calls Tryd.prog 36 #[s, .int .i64 (v : Int)] w fun e w' => e = .returned (.bool b) ∧ w' = w := by
  subst hb
  exact (has2_any l s v w h).mono fun _ _ ⟨h1, h2⟩ => ⟨h1, h2.symm⟩
theorem map_ints_getD (bs : List (List Nat)) (q : Nat) : (bs.map ints).getD q [] = ints (bs.getD q []) := by
  rw [List.getD, List.getD, List.getElem?_map]
  cases bs[q]? <;> rfl
/-- Shut ones, in a row. -/
structure ShR (w wr : World) (b M : Nat) (f : Nat → Bool) : Prop where
  hb : Below w.heap.size w wr
  lo : w.heap.size ≤ b
  r : wr.rowIs b 4 M (rb f)
theorem ShR.shut {w wr : World} {b M : Nat} {f S : Nat → Bool} (h : ShR w wr b M f) (hM : M ≤ 100) (e : ∀ k, k < M → f k = S k) (e2 : ∀ k, M ≤ k → S k = false) : HasShut wr (.slice (some ⟨b, 0, none⟩) M M) S :=
  ⟨some ⟨b, 0, none⟩, M, M, b, 0, rfl, Nat.le_refl _, by omega, fun _ => rfl, fun j hj => by
    have := h.r.cell hj
    rw [Nat.zero_add, ← e j hj]
    exact this, e2⟩
theorem cnt_none {f : Nat → Bool} {n : Nat} : cnt f n ≠ 0 ↔ ∃ x, x < n ∧ f x = true := by
  induction n with
  | zero => exact ⟨fun h => absurd rfl h, fun ⟨x, hx, _⟩ => absurd hx (Nat.not_lt_zero _)⟩
  | succ n ih =>
    rw [cnt]
    constructor
    · intro h
      by_cases e : f n = true
      · exact ⟨n, by omega, e⟩
      · rw [if_neg e] at h
        obtain ⟨x, hx, hf⟩ := ih.1 h
        exact ⟨x, by omega, hf⟩
    · rintro ⟨x, hx, hf⟩
      by_cases e : x = n
      · subst e; rw [if_pos hf]; omega
      · have := ih.2 ⟨x, by omega, hf⟩
        omega
/-- What Over answers. -/
def OverPost (N : Nat) (l : List (Int × Int)) (bs : List (List Nat)) (u : List Int) (w : World) (e : Ending) (w' : World) : Prop := ∃ b : Bool, (b = true ↔ OverT N l bs u) ∧ e = .returned (.bool b) ∧ Below w.heap.size w w'
theorem OverPost.no {N : Nat} {l : List (Int × Int)} {bs : List (List Nat)} {u : List Int} {w w' : World} (h : ¬ OverT N l bs u) (hb : Below w.heap.size w w') : OverPost N l bs u w (.returned (.bool false)) w' := ⟨false, ⟨fun h => (by cases h), fun k => absurd k h⟩, rfl, hb⟩
theorem OverPost.yes {N : Nat} {l : List (Int × Int)} {bs : List (List Nat)} {u : List Int} {w w' : World} (h : OverT N l bs u) (hb : Below w.heap.size w w') : OverPost N l bs u w (.returned (.bool true)) w' := ⟨true, ⟨fun _ => h, fun _ => rfl⟩, rfl, hb⟩

set_option maxHeartbeats 2000000 in
set_option maxRecDepth 100000 in
theorem over_any (N : Nat) (l : List (Int × Int)) (bs : List (List Nat)) (u : List Int) (sv bv uv : Value) (w : World) (h : IsEdges w sv l) (hm : IsRows w bv (bs.map ints)) (hu : IsInts w uv u)
    (hN : N ≤ 100) (hok : ∀ j, j < l.length → EndsOk (N : Int) (l.getD j (0, 0)) ∧ (l.getD j (0, 0)).1 ≠ (l.getD j (0, 0)).2) (hM : bs.length ≤ 100) (hul : u.length = bs.length) :
    Calls Tryd.prog 12 #[.agg #[.int .i64 (N : Int), sv], bv, uv] w (OverPost N l bs u w) := by
  obtain ⟨ad, cap, rfl⟩ : ∃ ad cap, sv = .slice ad l.length cap := by
    obtain ⟨a, c, _, _, rfl, _⟩ := h
    exact ⟨a, c, rfl⟩
  obtain ⟨ab, cb, rfl⟩ : ∃ ab cb, bv = .slice ab bs.length cb := by
    obtain ⟨a, c, _, _, rfl, _⟩ := hm
    exact ⟨a, c, by rw [List.length_map]⟩
  obtain ⟨au, cu, rfl⟩ : ∃ au cu, uv = .slice au bs.length cu := by
    obtain ⟨a, c, _, _, rfl, _⟩ := hu
    exact ⟨a, c, by rw [hul]⟩
  have b1 := below1 w (Obj.cells #[.int .i64 (N : Int), .slice ad l.length cap] 24)
  have c0 := two_cells w (.int .i64 (N : Int)) (.slice ad l.length cap) 24
  have cn := c0.1
  have cs := c0.2
  have He := Lib.hid (h.below b1); have Hm := Lib.hid (hm.below b1); have Hu := Lib.hid (hu.below b1)
  have Hok := Lib.hid hok; have Hb1 := Lib.hid b1; have Hul := Lib.hid hul
  have hMmk := run_make_row' (P := Tryd.prog) 52 4 (.bool false) 1 Tryd.underlying52 info4 rfl .i64 .i64 bs.length (by omega) (by omega)
  have Hmk := Lib.hid hMmk
  clear hMmk
  have hz1 : (w.alloc (Obj.cells #[.int .i64 (N : Int), .slice ad l.length cap] 24)).heap.size = w.heap.size + 1 := World.size_alloc _ _
  obtain ⟨M, hMe⟩ : ∃ M, bs.length = M := ⟨_, rfl⟩
  have HM := Lib.hid hMe
  rw [hMe] at hM
  rw [hMe]
  clear h hm hu hok b1 c0 hul hMe
  go_enter Tryd.func12, Tryd.ntmps12
  go_upto_region 1 with fail
  generalize w.alloc (Obj.cells #[.int .i64 (N : Int), .slice ad l.length cap] 24) = w1 at *
  have Cn := Lib.hid cn; have Cs := Lib.hid cs
  go_upto_region 4 with fail
  clear cn cs
  go_loopg [7, 8, 9] M (fun g s7 s8 s9 wr => ∃ i : Nat, i ≤ M ∧ g = M - i ∧ s9 = .int .i64 (i : Int) ∧ s8 = .int .i64 (rootsN u i : Int) ∧ OwnE wr w1.heap.size s7 (linksL u i) ∧ (∀ j, j < i → UpAt u j) ∧ Below w1.heap.size w1 wr)
  case atStart => exact ⟨0, Nat.zero_le _, rfl, rfl, rfl, OwnE.nil _ _, fun j hj => absurd hj (Nat.not_lt_zero _), Below.refl _ _⟩
  case round =>
    obtain ⟨i, hi, rfl, rfl, rfl, ho, hall, hb⟩ := hrel
    have Ho := Lib.hid ho; have Hall := Lib.hid hall; have Hb := Lib.hid hb
    obtain ⟨aO, cO, rfl⟩ := ho.form
    have hrl := roots_le u i
    have hll := links_len u i
    have hsz := hb.size
    by_cases hlt : i < M
    · obtain ⟨b2, o2, rfl, cx⟩ := (Hu.out.below hb).atF (k := i) (by rw [Hul.out, HM.out]; exact hlt)
      have Hl1 := Lib.hid (show linksL u (i + 1) = linksL u i ++ if u.getD i 0 = -1 then [] else [((i : Int), u.getD i 0)] from rfl)
      have Hr1 := Lib.hid (show rootsN u (i + 1) = rootsN u i + if u.getD i 0 = -1 then 1 else 0 from rfl)
      have HU := Lib.hid (show UpAt u i ↔ u.getD i 0 = -1 ∨ (0 ≤ u.getD i 0 ∧ u.getD i 0 < (M : Int) ∧ u.getD i 0 ≠ (i : Int)) from by rw [← HM.out, ← Hul.out]; exact Iff.rfl)
      generalize u.getD i 0 = x at *
      clear ho hall hb
      by_cases hx : x = -1
      · subst hx
        rw [if_pos rfl] at Hl1 Hr1
        rw [List.append_nil] at Hl1
        have hst := Hall.out
        have Hst := Lib.hid (show ∀ j, j < i + 1 → UpAt u j from fun j hj => by
          by_cases e : j = i
          · subst e; exact HU.out.2 (.inl rfl)
          · exact hst j (by omega))
        clear hst
        generalize hro : rootsN u i = ro at *
        have Hro := Lib.hid hro
        clear hro
        go_wp2
        go_roundg (M - (i + 1))
        case measure => go_light; omega
        case rel => exact ⟨i + 1, by omega, rfl, by go_num, by rw [Hr1.out]; go_num, by rw [Hl1.out]; exact Ho.out, Hst.out, Hb.out⟩
      · have hxb : (x == -1) = false := by simp [hx]
        rw [if_neg hx] at Hl1 Hr1
        by_cases hg : 0 ≤ x ∧ x < (M : Int) ∧ x ≠ (i : Int)
        · obtain ⟨g1, g2, g3⟩ := hg
          have g3b : (x == (i : Int)) = false := by simp [g3]
          have Hst := Lib.hid (show ∀ j, j < i + 1 → UpAt u j from fun j hj => by
            by_cases e : j = i
            · subst e; exact HU.out.2 (.inr ⟨g1, g2, g3⟩)
            · exact Hall.out j (by omega))
          have Hb5 := Lib.hid (below1 wr (Obj.cells #[.int .i64 (i : Int), .int .i64 x] 63))
          have HoB := Lib.hid (Ho.out.below Hb5.out)
          have HbB := Lib.hid (Hb.out.trans (Hb5.out.mono Hb.out.size))
          have hszB := HbB.out.size
          generalize hLc : linksL u i = Lc at *
          have HLc := Lib.hid hLc
          clear hLc
          go_upto_region 8 with fail
          go_upto_region 10 with fail
          have ce1 := HoB
          go_wp2_with (at_builtin; refine wpList_append_edges rfl (.tmp 53) (.tmp 60) 22 rfl w1.heap.size Tryd.underlying22 info2 _ Lc rfl HoB.out _ [((i : Int), x)] rfl (edge_one _ _ _ _ rfl) _ rfl (by simp; omega) hszB ?_; intro a5 c5 w6 ho5 hg5; have Hn6 := Lib.hid ho5; have Hbn := Lib.hid (HbB.out.grown hg5 hszB (fun g e => (World.ownsRow.lt HoB.out g e).1)); clear hg5 ho5)
          go_roundg (M - (i + 1))
          case measure => go_light; omega
          case rel => exact ⟨i + 1, by omega, rfl, by go_num, by rw [Hr1.out, Nat.add_zero], by have h9 := Hn6.out; rw [Hl1.out]; simpa only [List.length_append, List.length_cons, List.length_nil, Nat.zero_add] using h9, Hst.out, Hbn.out⟩
        · have Hbad := Lib.hid (show ¬ OverT N l bs u from fun hO => by
            rcases HU.out.1 (hO.up i (by rw [Hul.out, HM.out]; exact hlt)) with e | e
            · exact hx e
            · exact hg e)
          have Hfin := Lib.hid (Hb1.out.trans (Hb.out.mono Hb1.out.size))
          by_cases g1 : 0 ≤ x
          · by_cases g2 : x < (M : Int)
            · obtain rfl : x = (i : Int) := by
                by_cases e : x = (i : Int)
                · exact e
                · exact absurd ⟨g1, g2, e⟩ hg
              go_wp2
              exact bodyPost_ret (v := .bool false) (by simp [results, Tryd.results12, go_sem]) rfl (OverPost.no Hbad.out Hfin.out)
            · have g2' : (M : Int) ≤ x := by omega
              go_wp2
              exact bodyPost_ret (v := .bool false) (by simp [results, Tryd.results12, go_sem]) rfl (OverPost.no Hbad.out Hfin.out)
          · have g1' : x < 0 := by omega
            go_wp2
            exact bodyPost_ret (v := .bool false) (by simp [results, Tryd.results12, go_sem]) rfl (OverPost.no Hbad.out Hfin.out)
    · obtain rfl : i = M := by omega
      have hME : bs.length = i := HM.out
      have hUE : u.length = i := by rw [Hul.out, hME]
      have Hup := Lib.hid (show ∀ j, j < u.length → UpAt u j by rw [hUE]; exact Hall.out)
      have HT := Lib.hid (show OverT N l bs u ↔ (0 < i → rootsN u i = 1) ∧ (0 < i → partsF i (adj (linksL u i)) (fun _ => false) = 1) ∧ (∀ j, j < l.length → ∃ q, q < i ∧ hasB bs (l.getD j (0, 0)).1.toNat q = true ∧ hasB bs (l.getD j (0, 0)).2.toNat q = true) ∧ ∀ v, v < N → (∃ q, q < i ∧ hasB bs v q = true) ∧ partsF i (adj (linksL u i)) (shutB bs v) = 1 from by
        constructor
        · rintro ⟨h1, h2, h3, h4, h5⟩
          rw [hME, hUE] at h2 h3
          rw [hME] at h4
          rw [hME, hUE] at h5
          exact ⟨h2, h3, h4, h5⟩
        · rintro ⟨h2, h3, h4, h5⟩
          exact ⟨Hup.out, by rw [hME, hUE]; exact h2, by rw [hME, hUE]; exact h3, by rw [hME]; exact h4, by rw [hME, hUE]; exact h5⟩)
      have Hlk := Lib.hid (show ∀ j, j < (linksL u i).length → EndsOk (i : Int) ((linksL u i).getD j (0, 0)) ∧ ((linksL u i).getD j (0, 0)).1 ≠ ((linksL u i).getD j (0, 0)).2 from fun j hj => by
        have h1 := links_ok (u := u) (k := i) (by rw [hUE]; exact Nat.le_refl _) Hall.out ((linksL u i).getD j (0, 0)) (by rw [List.getD, List.getElem?_eq_getElem hj]; exact List.getElem_mem hj)
        rwa [hUE] at h1)
      have HE := Lib.hid (show IsEdges wr (.slice aO (linksL u i).length cO) (linksL u i) from ho.edges)
      have Hb1r := Lib.hid (show Below w.heap.size w wr from Hb1.out.trans (hb.mono Hb1.out.size))
      have HbA := Lib.hid hb
      clear ho hall hb Hall Ho hME hUE
      generalize linksL u i = Lk at *
      generalize rootsN u i = ro at *
      by_cases hr : 0 < i ∧ ro ≠ 1
      · obtain ⟨hr0, hr1⟩ := hr
        have hr2 : ((ro : Int) != 1) = true := by simp; omega
        have hr3 : (0 : Int) < (i : Int) := by omega
        have Hbad := Lib.hid (show ¬ OverT N l bs u from fun h => hr1 ((HT.out.1 h).1 hr0))
        go_wp2
        exact bodyPost_ret (v := .bool false) (by simp [results, Tryd.results12, go_sem]) rfl (OverPost.no Hbad.out Hb1r.out)
      · have Hroot := Lib.hid (show 0 < i → ro = 1 from fun h => by
          by_cases e : ro = 1
          · exact e
          · exact absurd ⟨h, e⟩ hr)
        clear hr
        have Hg := Lib.hid (gridOf_any Lk i (.slice aO Lk.length cO) wr HE.out (by omega) Hlk.out)
        obtain ⟨w4, rfl⟩ : ∃ w4 : World, w4 = wr := ⟨_, rfl⟩
        obtain ⟨d, hd⟩ : ∃ d, partsF i (adj Lk) (fun _ => false) = d := ⟨_, rfl⟩
        have Hd := Lib.hid hd
        clear hd
        have hcase : ¬ (0 : Int) < (i : Int) ∨ (0 < i ∧ d ≠ 1) ∨ (0 < i ∧ d = 1) := by omega
        rcases hcase with hi0 | ⟨hi0, hp⟩ | ⟨hi0, hp⟩
        case inr.inl =>
          have hr3 : (0 : Int) < (i : Int) := by omega
          have hr1 : ro = 1 := Hroot.out hi0
          subst hr1
          have Hbad := Lib.hid (show ¬ OverT N l bs u from fun h => hp (Hd.out ▸ (HT.out.1 h).2.1 hi0))
          have hp2 : ((d : Int) != 1) = true := by simp; omega
          go_upto_region 14 with (go_at_call 15; refine Hg.out.mono ?_; rintro e w5 ⟨vG, rfl, hgG, hbG⟩; have HgG := Lib.hid hgG; have HbG := Lib.hid hbG; clear hgG hbG)
          go_wp2_with (go_at_call 35; refine (parts_any i (adj Lk) (fun _ => false) vG _ w5 (by omega) ⟨_, HgG.out⟩ (HasShut.nil w5)).mono ?_; rintro e w6 ⟨rfl, hb6⟩; rw [Hd.out]; have Hb6 := Lib.hid hb6; clear hb6)
          exact bodyPost_ret (v := .bool false) (by simp [results, Tryd.results12, go_sem]) rfl (OverPost.no Hbad.out (Hb1r.out.trans ((HbG.out.trans (Hb6.out.mono HbG.out.size)).mono Hb1r.out.size)))
        case' inl =>
          have hr3 := hi0
          have hz : ∀ q : Nat, q < i → False := fun q hq => hi0 (by omega)
          go_upto_region 14 with (go_at_call 15; refine Hg.out.mono ?_; rintro e w5 ⟨vG, rfl, hgG, hbG⟩; have HgG := Lib.hid hgG; have HbG := Lib.hid hbG; clear hgG hbG)
          obtain ⟨w6, rfl⟩ : ∃ w6 : World, w6 = w5 := ⟨_, rfl⟩
          have HB6 := Lib.hid HbG.out
          have HG6 := Lib.hid (show HasGrid w6 vG i (adj Lk) from ⟨_, HgG.out⟩)
          have Hone := Lib.hid (show 0 < i → d = 1 from fun h => absurd (Int.ofNat_lt.2 h) (Int.not_lt.2 hi0))
          go_upto_region 16 with fail
        case' inr.inr =>
          have hr3 : (0 : Int) < (i : Int) := by omega
          have hz : True := trivial
          have hr1 : ro = 1 := Hroot.out hi0
          subst hr1
          have Hone := Lib.hid (show 0 < i → d = 1 from fun h => hp)
          subst hp
          go_upto_region 14 with (go_at_call 15; refine Hg.out.mono ?_; rintro e w5 ⟨vG, rfl, hgG, hbG⟩; have HgG := Lib.hid hgG; have HbG := Lib.hid hbG; clear hgG hbG)
          go_upto_region 16 with (go_at_call 35; refine (parts_any i (adj Lk) (fun _ => false) vG _ w5 (by omega) ⟨_, HgG.out⟩ (HasShut.nil w5)).mono ?_; rintro e w6 ⟨rfl, hb6⟩; rw [Hd.out]; have HB6 := Lib.hid (HbG.out.trans (hb6.mono HbG.out.size)); have HG6 := Lib.hid (show HasGrid w6 vG i (adj Lk) from HasGrid.below ⟨_, HgG.out⟩ hb6); clear hb6)
        all_goals
          have Hw6 := Lib.hid (show Below w.heap.size w w6 from Hb1r.out.trans (HB6.out.mono Hb1r.out.size))
          have hz46 := HB6.out.size
          have Hb16 := Lib.hid (show Below w1.heap.size w1 w6 from HbA.out.trans (HB6.out.mono HbA.out.size))
          clear hi0 hr3
          try clear hr1
          have Hm6 := Lib.hid (Hm.out.below Hb16.out)
          have He6 := Lib.hid (He.out.below Hb16.out)
          have Cs6 := Lib.hid (below_cell Hb16.out Cs.out)
          have Cn6 := Lib.hid (below_cell Hb16.out Cn.out)
          clear HB6 Hg HbG HgG He Hm Cs Cn Hlk HE
          have hl63 : l.length ≤ 9223372036854775807 := by
            obtain ⟨_, cp, _, _, _, h1, h2, _⟩ := He6.out
            omega
          go_upto_region 17 with fail
          go_loopg [11] l.length (fun g s11 wr => ∃ j : Nat, j ≤ l.length ∧ g = l.length - j ∧ s11 = .int .i64 (j : Int) ∧ (∀ j', j' < j → ∃ q, q < i ∧ hasB bs (l.getD j' (0, 0)).1.toNat q = true ∧ hasB bs (l.getD j' (0, 0)).2.toNat q = true) ∧ Below w6.heap.size w6 wr)
          case atStart => exact ⟨0, Nat.zero_le _, rfl, rfl, fun j hj => absurd hj (Nat.not_lt_zero _), Below.refl _ _⟩
          case round =>
            obtain ⟨j, hj, rfl, rfl, hall, hb⟩ := hrel
            have Hall := Lib.hid hall; have Hb := Lib.hid hb
            have cs := below_cell hb Cs6.out
            by_cases hlt : j < l.length
            · obtain ⟨be, oe, rfl, cx0, cy0⟩ := He6.out.atF hlt
              obtain ⟨X, Y, hX, hY, hXe, hYe⟩ : ∃ X Y : Nat, X < N ∧ Y < N ∧ (l.getD j (0, 0)).1 = (X : Int) ∧ (l.getD j (0, 0)).2 = (Y : Int) := by
                obtain ⟨⟨x0, y0, x1, y1⟩, -⟩ := Hok.out j hlt
                exact ⟨(l.getD j (0, 0)).1.toNat, (l.getD j (0, 0)).2.toNat, by omega, by omega, by omega, by omega⟩
              rw [hXe] at cx0
              rw [hYe] at cy0
              have Hlt := Lib.hid hlt
              have Cx := Lib.hid cx0; have Cy := Lib.hid cy0
              have HXe := Lib.hid (show (l.getD j (0, 0)).1.toNat = X by omega)
              have HYe := Lib.hid (show (l.getD j (0, 0)).2.toNat = Y by omega)
              clear hall hb cx0 cy0 hXe hYe
              obtain ⟨w7, rfl⟩ : ∃ w7 : World, w7 = wr := ⟨_, rfl⟩
              go_upto_region 21 with fail
              clear cs
              go_loopg [12, 13] i (fun g s12 s13 wr => ∃ q : Nat, q ≤ i ∧ g = i - q ∧ s13 = .int .i64 (q : Int) ∧ s12 = .bool (anyN (fun q => hasB bs X q && hasB bs Y q) q) ∧ Below w7.heap.size w7 wr)
              case atStart => exact ⟨0, Nat.zero_le _, rfl, rfl, rfl, Below.refl _ _⟩
              case round =>
                obtain ⟨q, hq, rfl, rfl, rfl, hb⟩ := hrel
                have Hb7 := Lib.hid hb
                have hb6 := Hb.out.trans (hb.mono Hb.out.size)
                have cs := below_cell hb6 Cs6.out
                have cx := below_cell hb6 Cx.out
                have cy := below_cell hb6 Cy.out
                by_cases hqi : q < i
                · first
                  | exact (hz _ hqi).elim
                  | obtain ⟨bb, ob, r, rfl, cr, hri⟩ := (Hm6.out.below hb6).atF (k := q) (by rw [List.length_map, HM.out]; exact hqi)
                    rw [map_ints_getD] at hri
                    have Hs := Lib.hid (show anyN (fun q => hasB bs X q && hasB bs Y q) (q + 1) = (anyN (fun q => hasB bs X q && hasB bs Y q) q || (hasB bs X q && hasB bs Y q)) from rfl)
                    generalize anyN (fun q => hasB bs X q && hasB bs Y q) q = o at *
                    have H1 := Lib.hid (fun n => has2_still (b := hasB bs X q) (hri.drewN n) rfl)
                    have H2 := Lib.hid (fun n => has2_still (b := hasB bs Y q) (hri.drewN n) rfl)
                    generalize hasB bs X q = c1 at *
                    generalize hasB bs Y q = c2 at *
                    have HbD := Lib.hid (fun n => Below.drewN' Hb7.out n)
                    clear hri hb6 hb
                    cases o with
                    | true =>
                      go_upto_region 23 with fail
                      go_quiet (fail)
                      go_wp2
                      go_roundg (i - (q + 1))
                      case measure => go_light; omega
                      case rel => exact ⟨q + 1, by omega, rfl, by go_num, by rw [Hs.out]; rfl, HbD.out _⟩
                    | false =>
                      cases c1 with
                      | false =>
                        go_upto_region 23 with fail
                        go_big_quiet ((go_at_call 36; exact Calls.quiet_of_same (H1.out _)))
                        go_wp2
                        go_roundg (i - (q + 1))
                        case measure => go_light; omega
                        case rel => exact ⟨q + 1, by omega, rfl, by go_num, by rw [Hs.out]; rfl, HbD.out _⟩
                      | true =>
                        go_upto_region 23 with fail
                        go_big_quiet ((go_at_call 36; first | with_reducible exact Calls.quiet_of_same (H1.out _) | with_reducible exact Calls.quiet_of_same (H2.out _)))
                        go_wp2
                        go_roundg (i - (q + 1))
                        case measure => go_light; omega
                        case rel => exact ⟨q + 1, by omega, rfl, by go_num, by rw [Hs.out]; rfl, HbD.out _⟩
                · obtain rfl : q = i := by omega
                  have Hb8 := Lib.hid (Hb.out.trans (hb.mono Hb.out.size))
                  have Hiff := Lib.hid (show anyN (fun q => hasB bs X q && hasB bs Y q) q = true ↔ ∃ p, p < q ∧ hasB bs X p = true ∧ hasB bs Y p = true from by rw [anyN_iff]; simp only [Bool.and_eq_true])
                  generalize anyN (fun q => hasB bs X q && hasB bs Y q) q = o at *
                  clear hb hb6
                  cases o with
                  | true =>
                    have Hst := Lib.hid (show ∀ j', j' < j + 1 → ∃ p, p < q ∧ hasB bs (l.getD j' (0, 0)).1.toNat p = true ∧ hasB bs (l.getD j' (0, 0)).2.toNat p = true from fun j' hj' => by
                      by_cases e : j' = j
                      · subst e; rw [HXe.out, HYe.out]; exact Hiff.out.1 rfl
                      · exact Hall.out j' (by omega))
                    go_wp2
                    go_roundg (l.length - (j + 1))
                    case measure => go_light; omega
                    case rel => exact ⟨j + 1, by omega, rfl, by go_num, Hst.out, Hb8.out⟩
                  | false =>
                    have Hbad := Lib.hid (show ¬ OverT N l bs u from fun h => by
                      have h1 := (HT.out.1 h).2.2.1 j Hlt.out
                      rw [HXe.out, HYe.out] at h1
                      have := Hiff.out.2 h1
                      cases this)
                    go_wp2
                    exact bodyPost_ret (v := .bool false) (by simp [results, Tryd.results12, go_sem]) rfl (OverPost.no Hbad.out (Hw6.out.trans (Hb8.out.mono Hw6.out.size)))
            · have Hedge := Lib.hid (show ∀ j', j' < l.length → ∃ q, q < i ∧ hasB bs (l.getD j' (0, 0)).1.toNat q = true ∧ hasB bs (l.getD j' (0, 0)).2.toNat q = true from fun j' hj' => Hall.out j' (by omega))
              have hz6r := hb.size
              clear hall hb Hall
              obtain ⟨w8, rfl⟩ : ∃ w8 : World, w8 = wr := ⟨_, rfl⟩
              go_upto_region 27 with fail
              clear cs
              go_loopg [14] N (fun g s14 wr => ∃ v : Nat, v ≤ N ∧ g = N - v ∧ s14 = .int .i64 (v : Int) ∧ (∀ v', v' < v → (∃ q, q < i ∧ hasB bs v' q = true) ∧ partsF i (adj Lk) (shutB bs v') = 1) ∧ Below w6.heap.size w6 wr)
              case atStart => exact ⟨0, Nat.zero_le _, rfl, rfl, fun v hv => absurd hv (Nat.not_lt_zero _), Hb.out⟩
              case round =>
                clear Hb
                obtain ⟨v, hv, rfl, rfl, hall, hb⟩ := hrel
                have Hall := Lib.hid hall; have Hb := Lib.hid hb
                have cn := below_cell hb Cn6.out
                by_cases hvN : v < N
                · have hmk := Hmk.out
                  rw [HM.out] at hmk
                  have hr0 := (World.rowIs_made wr (.bool false) i 4).congr (g := rb fun _ => false) fun _ _ => rfl
                  have S0 := Lib.hid (show ShR wr (wr.alloc (.cells (madeCells #[.bool false] i) 4)) wr.heap.size i (fun _ => false) from ⟨below1 _ _, Nat.le_refl _, hr0⟩)
                  have HvN := Lib.hid hvN
                  clear hall hb hr0
                  go_upto_region 30 with fail
                  clear hmk cn
                  generalize wr.alloc (.cells (madeCells #[.bool false] i) 4) = w9 at *
                  obtain ⟨wv, rfl⟩ : ∃ wv : World, wv = wr := ⟨_, rfl⟩
                  go_upto_region 32 with fail
                  go_loopg [16, 17] i (fun g s16 s17 wr => ∃ q : Nat, q ≤ i ∧ g = i - q ∧ s17 = .int .i64 (q : Int) ∧ s16 = .int .i64 (cnt (hasB bs v) q : Int) ∧ ShR wv wr wv.heap.size i (fun p => decide (p < q) && !hasB bs v p))
                  case atStart => exact ⟨0, Nat.zero_le _, rfl, rfl, rfl, S0.out.hb, S0.out.lo, row_rb S0.out.r fun p _ => by simp⟩
                  case round =>
                    clear S0
                    obtain ⟨q, hq, rfl, rfl, rfl, hs⟩ := hrel
                    have Hs := Lib.hid hs
                    have hb6 := Hb.out.trans (hs.hb.mono Hb.out.size)
                    have hcq := cnt_le (hasB bs v) q
                    by_cases hqi : q < i
                    · first
                      | exact (hz _ hqi).elim
                      | obtain ⟨bb, ob, r, rfl, cr, hri⟩ := (Hm6.out.below hb6).atF (k := q) (by rw [List.length_map, HM.out]; exact hqi)
                        rw [map_ints_getD] at hri
                        have Hc1 := Lib.hid (show cnt (hasB bs v) (q + 1) = cnt (hasB bs v) q + (if hasB bs v q = true then 1 else 0) from rfl)
                        have H1 := Lib.hid (has2_still (v := v) (b := hasB bs v q) hri rfl)
                        have HS1 := Lib.hid (show ShR wv (wr.setCell ⟨wv.heap.size, q, none⟩ (.bool (!hasB bs v q))) wv.heap.size i (fun p => decide (p < q + 1) && !hasB bs v p) from ⟨hs.hb.setCell (p := ⟨wv.heap.size, q, none⟩) (Nat.le_refl _) _, Nat.le_refl _, row_rb (row_set_rb hs.r q (!hasB bs v q)) fun p _ => by
                          by_cases e : p = q
                          · subst e; simp
                          · have : (p < q + 1) ↔ p < q := by omega
                            simp [e, this]⟩)
                        obtain ⟨z, cq⟩ : ∃ z, wr.cell? ⟨wv.heap.size, q, none⟩ = some (.bool z) := ⟨_, hs.r.cell hqi⟩
                        have fq := hs.r.frozen q
                        have lq := hs.r.lt
                        generalize cnt (hasB bs v) q = n at *
                        clear hs hri hb6
                        cases hh : hasB bs v q with
                        | true =>
                          rw [hh] at Hc1 H1 HS1
                          clear hh
                          go_wp2_with (go_at_call 36; refine H1.out.mono ?_; rintro e w5 ⟨rfl, hw5⟩; rw [hw5]; clear hw5)
                          go_roundg (i - (q + 1))
                          case measure => go_light; omega
                          case rel => exact ⟨q + 1, by omega, rfl, by go_num, by rw [Hc1.out]; go_num, HS1.out⟩
                        | false =>
                          rw [hh] at Hc1 H1 HS1
                          clear hh
                          go_wp2_with (go_at_call 36; refine H1.out.mono ?_; rintro e w5 ⟨rfl, hw5⟩; rw [hw5]; clear hw5)
                          go_roundg (i - (q + 1))
                          case measure => go_light; omega
                          case rel => exact ⟨q + 1, by omega, rfl, by go_num, by rw [Hc1.out]; go_num, HS1.out⟩
                    · obtain rfl : q = i := by omega
                      have hMq : bs.length = q := HM.out
                      have Hsh := Lib.hid (show HasShut wr (.slice (some ⟨wv.heap.size, 0, none⟩) q q) (shutB bs v) from hs.shut (by omega) (fun k hk => by simp [shutB, hMq, hk]) (fun k hk => by rw [shutB, hMq, decide_eq_false (by omega)]; rfl))
                      have Hcn := Lib.hid (show cnt (hasB bs v) q ≠ 0 ↔ ∃ p, p < q ∧ hasB bs v p = true from cnt_none)
                      have HG9 := Lib.hid (HG6.out.below hb6)
                      have HbF := Lib.hid hb6
                      obtain ⟨d2, hd2⟩ : ∃ d2, partsF q (adj Lk) (shutB bs v) = d2 := ⟨_, rfl⟩
                      have Hd2 := Lib.hid hd2
                      generalize cnt (hasB bs v) q = n at *
                      clear hs hb6 hd2 hMq
                      by_cases hn0 : n = 0
                      · subst hn0
                        have Hbad := Lib.hid (show ¬ OverT N l bs u from fun h => absurd rfl (Hcn.out.2 ((HT.out.1 h).2.2.2 v HvN.out).1))
                        go_wp2
                        exact bodyPost_ret (v := .bool false) (by simp [results, Tryd.results12, go_sem]) rfl (OverPost.no Hbad.out (Hw6.out.trans (HbF.out.mono Hw6.out.size)))
                      · have hnb : ((n : Int) == 0) = false := by simp; omega
                        by_cases hd1 : d2 = 1
                        · subst hd1
                          have Hst := Lib.hid (show ∀ v', v' < v + 1 → (∃ p, p < q ∧ hasB bs v' p = true) ∧ partsF q (adj Lk) (shutB bs v') = 1 from fun v' hv' => by
                            by_cases e : v' = v
                            · subst e; exact ⟨Hcn.out.1 hn0, Hd2.out⟩
                            · exact Hall.out v' (by omega))
                          go_wp2_with (go_at_call 35; refine (parts_any q (adj Lk) (shutB bs v) vG _ _ (by omega) HG9.out Hsh.out).mono ?_; rintro e w10 ⟨rfl, hb10⟩; rw [Hd2.out]; have Hb10 := Lib.hid (HbF.out.trans (hb10.mono HbF.out.size)); clear hb10)
                          go_roundg (N - (v + 1))
                          case measure => go_light; omega
                          case rel => exact ⟨v + 1, by omega, rfl, by go_num, Hst.out, Hb10.out⟩
                        · have hd1b : ((d2 : Int) != 1) = true := by simp; omega
                          have Hbad := Lib.hid (show ¬ OverT N l bs u from fun h => hd1 (Hd2.out ▸ ((HT.out.1 h).2.2.2 v HvN.out).2))
                          go_wp2_with (go_at_call 35; refine (parts_any q (adj Lk) (shutB bs v) vG _ _ (by omega) HG9.out Hsh.out).mono ?_; rintro e w10 ⟨rfl, hb10⟩; rw [Hd2.out]; have Hb10 := Lib.hid (HbF.out.trans (hb10.mono HbF.out.size)); clear hb10)
                          exact bodyPost_ret (v := .bool false) (by simp [results, Tryd.results12, go_sem]) rfl (OverPost.no Hbad.out (Hw6.out.trans (Hb10.out.mono Hw6.out.size)))
                · obtain rfl : v = N := by omega
                  have Hyes := Lib.hid (show OverT v l bs u from HT.out.2 ⟨Hroot.out, fun h => (by first | exact Hd.out | exact Hd.out.trans (Hone.out h)), Hedge.out, Hall.out⟩)
                  have Hfin := Lib.hid (Hw6.out.trans (hb.mono Hw6.out.size))
                  go_wp2
                  exact bodyPost_ret (v := .bool true) (by simp [results, Tryd.results12, go_sem]) rfl (OverPost.yes Hyes.out Hfin.out)
end Go.Proofs.YtnmljgjegodkaaaDoor
