/- width.tree: does one come out from everywhere, by one root? The table of bags under way. slices.IndexFunc, slices.ContainsFunc at rows of bools; the function literal of width.Fits. width.Fits: its fault, and what Over answers. -/
import Derived.Test.YtnmljgjegodkaaaDoorPJ
import Derived.BigQuiet
import Derived.Test.YtnmljgjegodkaaaDoorGCheck
import Derived.Test.YtnmljgjegodkaaaDoorHasGrid
import Derived.Shelf.Abstract
import Derived.Deep.Draws
import Derived.Test.YtnmljgjegodkaaaDoorPF
namespace Go.Proofs.YtnmljgjegodkaaaDoor
open Go.RowKit

def TreeT (u : List Int) : Prop := (∀ i, i < u.length → ClimbOk u i) ∧ rootsN u u.length = min 1 u.length
def TreePost (u : List Int) (w : World) (e : Ending) (w' : World) : Prop := ∃ b : Bool, (b = true ↔ TreeT u) ∧ e = .returned (.bool b) ∧ Below w.heap.size w w'
theorem TreePost.no {u : List Int} {w w' : World} (h : ¬ TreeT u) (hb : Below w.heap.size w w') : TreePost u w (.returned (.bool false)) w' := ⟨false, ⟨fun h => (by cases h), fun k => absurd k h⟩, rfl, hb⟩

set_option maxHeartbeats 1600000 in
set_option maxRecDepth 100000 in
theorem tree_any (u : List Int) (uv : Value) (w : World) (hu : IsInts w uv u) (hM : u.length ≤ 100) :
    Calls Tryd.prog 40 #[uv] w (TreePost u w) := by
  obtain ⟨au, cu, rfl⟩ : ∃ au cu, uv = .slice au u.length cu := by
    obtain ⟨a, c, _, _, rfl, _⟩ := hu
    exact ⟨a, c, rfl⟩
  have Hu := Lib.hid hu
  clear hu
  obtain ⟨M, hMe⟩ : ∃ M, u.length = M := ⟨_, rfl⟩
  have HM := Lib.hid hMe
  rw [hMe] at hM
  rw [hMe]
  clear hMe
  go_enter Tryd.func40, Tryd.ntmps40
  go_upto_region 3 with fail
  go_loopg [3, 9] M (fun g s3 s9 wr => ∃ i : Nat, i ≤ M ∧ g = M - i ∧ s9 = .int .i64 (i : Int) ∧ s3 = .int .i64 (rootsN u i : Int) ∧ (∀ j, j < i → ClimbOk u j) ∧ Below w.heap.size w wr)
  case atStart => exact ⟨0, Nat.zero_le _, rfl, rfl, rfl, fun j hj => absurd hj (Nat.not_lt_zero _), Below.refl _ _⟩
  case round =>
    obtain ⟨i, hi, rfl, rfl, rfl, hall, hb⟩ := hrel
    have Hall := Lib.hid hall; have Hb := Lib.hid hb
    have hr1 := roots_le u i
    by_cases hlt : i < M
    · obtain ⟨b2, o2, rfl, cx⟩ := (Hu.out.below hb).atF (show i < u.length by rw [HM.out]; exact hlt)
      obtain ⟨r1, hr⟩ : ∃ r1, rootsN u (i + 1) = r1 := ⟨_, rfl⟩
      have Hr := Lib.hid hr
      rw [rootsN] at hr
      generalize rootsN u i = r at *
      generalize u.getD i 0 = x at *
      obtain ⟨wo, rfl⟩ : ∃ wo : World, wo = wr := ⟨_, rfl⟩
      clear hall hb
      go_upto_if 16 with fail
      go_cut [3] from 17 to 18 (fun s3 wx => s3 = .int .i64 (r1 : Int) ∧ wx = wo)
      case first =>
        by_cases hx : x = -1
        · rw [if_pos hx] at hr
          subst hx
          go_wp2
          go_meet
          exact ⟨by simp only [Value.int.injEq, true_and]; omega, rfl⟩
        · rw [if_neg hx] at hr
          have hxb : (x == -1) = false := by simp [hx]
          go_wp2
          go_meet
          exact ⟨by simp only [Value.int.injEq, true_and]; omega, rfl⟩
      case rest =>
      obtain ⟨rfl, rfl⟩ := hcut
      clear cx hr hr1
      go_upto_region 8 with fail
      go_loopg [5, 6] (M + 2) (fun g s5 s6 wi => ∃ s : Nat, s ≤ M + 1 ∧ g = M + 2 - s ∧ s5 = .int .i64 (itU u (i : Int) s) ∧ s6 = .int .i64 (s : Int) ∧ (∀ r, r < s → InU u (itU u (i : Int) r)) ∧ Below w.heap.size w wi)
      case atStart => exact ⟨0, Nat.zero_le _, rfl, rfl, rfl, fun j hj => absurd hj (Nat.not_lt_zero _), Hb.out⟩
      case round =>
        obtain ⟨s, hs, rfl, rfl, rfl, hin, hb⟩ := hrel
        have Hin := Lib.hid hin; have Hb2 := Lib.hid hb
        obtain ⟨z, hz⟩ : ∃ z, itU u (i : Int) s = z := ⟨_, rfl⟩
        have Hz := Lib.hid hz
        rw [hz]
        clear hin hz
        by_cases hz1 : z = -1
        · subst hz1
          have Hst := Lib.hid (show ∀ j, j < i + 1 → ClimbOk u j from fun j hj => by
            by_cases e : j = i
            · subst e; exact ⟨s, by rw [HM.out]; exact hs, Hz.out, Hin.out⟩
            · exact Hall.out j (by omega))
          clear hb
          go_wp2
          go_roundg (M - (i + 1))
          case measure => go_light; omega
          case rel => exact ⟨i + 1, by omega, rfl, by go_num, by rw [Hr.out], Hst.out, Hb2.out⟩
        · have hzb : (z != -1) = true := by simp [hz1]
          by_cases hbad : z < 0 ∨ (M : Int) ≤ z ∨ (M : Int) < (s : Int)
          · have Hno := Lib.hid (show ¬ TreeT u from fun h => climb_no Hin.out (by rw [Hz.out]; exact hz1) (by
              rw [Hz.out, HM.out]
              rcases hbad with h | h | h
              · exact .inl fun k => by have := k.1; omega
              · exact .inl fun k => by have := k.2; rw [HM.out] at this; omega
              · exact .inr (by omega)) (h.1 i (by rw [HM.out]; exact hlt)))
            clear hb
            by_cases h1 : z < 0
            · go_wp2
              exact bodyPost_ret (v := .bool false) (by simp [results, Tryd.results40, go_sem]) rfl (TreePost.no Hno.out Hb2.out)
            · by_cases h2 : (M : Int) ≤ z
              · go_wp2
                exact bodyPost_ret (v := .bool false) (by simp [results, Tryd.results40, go_sem]) rfl (TreePost.no Hno.out Hb2.out)
              · have h3 : (M : Int) < (s : Int) := by omega
                go_wp2
                exact bodyPost_ret (v := .bool false) (by simp [results, Tryd.results40, go_sem]) rfl (TreePost.no Hno.out Hb2.out)
          · have h1 : ¬ z < 0 := fun h => hbad (.inl h)
            have h2 : ¬ (M : Int) ≤ z := fun h => hbad (.inr (.inl h))
            have h3 : ¬ (M : Int) < (s : Int) := fun h => hbad (.inr (.inr h))
            obtain ⟨Z, rfl⟩ := Int.eq_ofNat_of_zero_le (show 0 ≤ z by omega)
            obtain ⟨b3, o3, e3, cx⟩ := (Hu.out.below hb).atF (show Z < u.length by rw [HM.out]; omega)
            simp only [Option.some.injEq, Addr.mk.injEq, and_true] at e3
            obtain ⟨rfl, rfl⟩ := e3
            have Hst := Lib.hid (show itU u (i : Int) (s + 1) = u.getD Z 0 from by rw [itU, Hz.out, Int.toNat_natCast])
            have Hin2 := Lib.hid (show ∀ r, r < s + 1 → InU u (itU u (i : Int) r) from fun r hr => by
              by_cases e : r = s
              · subst e; rw [Hz.out]; exact ⟨by omega, by rw [HM.out]; omega⟩
              · exact Hin.out r (by omega))
            clear hb hbad
            go_wp2
            go_roundg (M + 2 - (s + 1))
            case measure => go_light; omega
            case rel => exact ⟨s + 1, by omega, rfl, by rw [Hst.out]; rfl, by go_num, Hin2.out, Hb2.out⟩
    · obtain rfl : i = M := by omega
      have hfin : (rootsN u i = min 1 i) ↔ TreeT u := by
        unfold TreeT
        rw [HM.out]
        exact ⟨fun h => ⟨Hall.out, h⟩, fun h => h.2⟩
      have Hfin := Lib.hid hfin
      have Hroot := roots_le u i
      generalize rootsN u i = r at *
      clear hall hb hfin
      go_wp2
      all_goals first
        | exact bodyPost_ret (v := .bool ((r : Int) == (i : Int))) (by simp [results, Tryd.results40, go_sem]) rfl ⟨_, by rw [← Hfin.out, beq_iff_eq]; omega, rfl, Hb.out⟩
        | exact bodyPost_ret (v := .bool ((r : Int) == 1)) (by simp [results, Tryd.results40, go_sem]) rfl ⟨_, by rw [← Hfin.out, beq_iff_eq]; omega, rfl, Hb.out⟩
end Go.Proofs.YtnmljgjegodkaaaDoor
namespace Go.Proofs.YtnmljgjegodkaaaDoor
open Go.RowKit

/-- k rows of N bools hang at block D; they lie behind it. -/
structure InT (w0 wr : World) (D M N k : Nat) (f : Nat → Nat → Bool) : Prop where
  hb : Below w0.heap.size w0 wr
  lo : w0.heap.size ≤ D
  size : wr.heap.size = D + 1 + k
  head : wr.rowIs D 52 M (fun i => if i < k then .slice (some ⟨D + 1 + i, 0, none⟩) N N else .slice none 0 0)
  row : ∀ i, i < k → wr.rowIs (D + 1 + i) 4 N (rb (f i))
section
variable {w0 wr w' : World} {D M N k : Nat} {f : Nat → Nat → Bool}
theorem InT.start (w0 : World) (M N : Nat) (f : Nat → Nat → Bool) : InT w0 (w0.alloc (.cells (madeCells #[.slice none 0 0] M) 52)) w0.heap.size M N 0 f := by
  have h1 := World.rowIs_made w0 (.slice none 0 0) M 52
  exact ⟨below1 _ _, Nat.le_refl _, by rw [World.size_alloc], h1.congr fun i _ => by simp, fun i hi => absurd hi (Nat.not_lt_zero _)⟩
theorem InT.draw (h : InT w0 wr D M N k f) : InT w0 wr.drew D M N k f := ⟨h.hb.drew, h.lo, h.size, h.head, h.row⟩
theorem InT.congr {g : Nat → Nat → Bool} (h : InT w0 wr D M N k f) (e : ∀ i j, i < k → j < N → f i j = g i j) : InT w0 wr D M N k g :=
  ⟨h.hb, h.lo, h.size, h.head, fun i hi => row_rb (h.row i hi) fun j hj => e i j hi hj⟩
theorem InT.step (h : InT w0 wr D M N k f) :
    InT w0 ((wr.alloc (.cells (madeCells #[.bool false] N) 4)).setCell ⟨D, k, none⟩ (.slice (some ⟨wr.heap.size, 0, none⟩) N N)) D M N (k + 1) (fun i j => if i = k then false else f i j) := by
  have hsz := h.size
  have hlo := h.lo
  have hb1 := below1 wr (.cells (madeCells #[.bool false] N) 4)
  have hr := World.rowIs_made wr (.bool false) N 4
  refine ⟨(h.hb.alloc h.hb.size _).setCell (p := ⟨D, k, none⟩) h.lo _, h.lo, ?_, ?_, fun i hi => ?_⟩
  · rw [size_setCell, World.size_alloc, hsz]; omega
  · refine ((h.head.of_block (hb1.block _ (by omega))).set k _).congr fun i _ => ?_
    by_cases e : i = k
    · subst e; rw [if_pos rfl, if_pos (by omega), hsz]
    · rw [if_neg e]
      by_cases e2 : i < k
      · rw [if_pos e2, if_pos (by omega)]
      · rw [if_neg e2, if_neg (by omega)]
  · by_cases e : i = k
    · subst e
      have h2 := hr.setOther (a := ⟨D, i, none⟩) (show wr.heap.size ≠ D by omega) (.slice (some ⟨wr.heap.size, 0, none⟩) N N)
      have h3 : wr.heap.size = D + 1 + i := hsz
      rw [← h3]
      exact h2.congr fun j _ => by simp [rb]
    · have h2 := ((h.row i (by omega)).of_block (hb1.block _ (by omega))).setOther (a := ⟨D, k, none⟩) (show D + 1 + i ≠ D by omega) (.slice (some ⟨wr.heap.size, 0, none⟩) N N)
      exact row_rb h2 fun j _ => by simp [e]
theorem InT.set (h : InT w0 wr D M N k f) {x : Nat} (hx : x < k) (y : Nat) (c : Bool) :
    InT w0 (wr.setCell ⟨D + 1 + x, y, none⟩ (.bool c)) D M N k (fun i j => if i = x ∧ j = y then c else f i j) := by
  have hlo := h.lo
  refine ⟨h.hb.setCell (p := ⟨D + 1 + x, y, none⟩) (show w0.heap.size ≤ D + 1 + x by omega) _, h.lo, by rw [size_setCell, h.size], ?_, fun i hi => ?_⟩
  · exact h.head.setOther (a := ⟨D + 1 + x, y, none⟩) (show D ≠ D + 1 + x by omega) (.bool c)
  · by_cases e : i = x
    · subst e
      exact row_rb (row_set_rb (h.row i hi) y c) fun j _ => by by_cases e : j = y <;> simp [e]
    · have h2 := (h.row i hi).setOther (a := ⟨D + 1 + x, y, none⟩) (show D + 1 + i ≠ D + 1 + x by omega) (.bool c)
      exact row_rb h2 fun j _ => by simp [e]
end
/-- The table is done; it is read. -/
structure InR (wr : World) (D M N : Nat) (f : Nat → Nat → Bool) : Prop where
  head : ∀ i, i < M → wr.cell? ⟨D, i, none⟩ = some (.slice (some ⟨D + 1 + i, 0, none⟩) N N)
  cell : ∀ i j, i < M → j < N → wr.cell? ⟨D + 1 + i, j, none⟩ = some (.bool (f i j))
theorem InT.read {w0 wr : World} {D M N : Nat} {f : Nat → Nat → Bool} (h : InT w0 wr D M N M f) : InR wr D M N f :=
  ⟨fun i hi => by have := h.head.cell hi; rw [this, if_pos hi], fun i j hi hj => (h.row i hi).cell hj⟩
theorem InR.below {w w' : World} {D M N : Nat} {f : Nat → Nat → Bool} (h : InR w D M N f) (hb : Below w.heap.size w w') : InR w' D M N f :=
  ⟨fun i hi => below_cell hb (h.head i hi), fun i j hi hj => below_cell hb (h.cell i j hi hj)⟩
/-- What width.Fits answers. -/
def FitsPost (n : Int) (l : List (Int × Int)) (m : List (List Int)) (u : List Int) (w : World) (e : Ending) (w' : World) : Prop :=
  ∃ (ok : Bool) (c a : Int), e = .returned (.tuple #[.bool ok, .agg #[.int .i64 c, .int .i64 a]]) ∧ FitsSpec n l m u c a ∧ Below w.heap.size w w' ∧ (c ≠ 0 → ok = false) ∧
    (c = 0 → ∃ (N : Nat) (bs : List (List Nat)), n = N ∧ m = bs.map ints ∧ (ok = true ↔ OverT N l bs u))
theorem FitsPost.bad {n : Int} {l : List (Int × Int)} {m : List (List Int)} {u : List Int} {w w' : World} {c a : Int} (h : FitsSpec n l m u c a) (hc : c ≠ 0) (hb : Below w.heap.size w w') :
    FitsPost n l m u w (.returned (.tuple #[.bool false, .agg #[.int .i64 c, .int .i64 a]])) w' := ⟨false, c, a, rfl, h, hb, fun _ => rfl, fun e => absurd e hc⟩
theorem FitsPost.zero {N : Nat} {l : List (Int × Int)} {m : List (List Int)} {u : List Int} {w w' : World} {bs : List (List Nat)} {ok : Bool} (h : FitsSpec (N : Int) l m u 0 0) (hm : m = bs.map ints) (hok : ok = true ↔ OverT N l bs u) (hb : Below w.heap.size w w') :
    FitsPost (N : Int) l m u w (.returned (.tuple #[.bool ok, .agg #[.int .i64 0, .int .i64 0]])) w' := ⟨ok, 0, 0, rfl, h, hb, fun e => absurd rfl e, fun _ => ⟨N, bs, rfl, hm, hok⟩⟩
theorem FitsPost.no {N : Nat} {l : List (Int × Int)} {m : List (List Int)} {u : List Int} {w w' : World} {bs : List (List Nat)} (h : FitsSpec (N : Int) l m u 0 0) (hm : m = bs.map ints) (hok : ¬ OverT N l bs u) (hb : Below w.heap.size w w') :
    FitsPost (N : Int) l m u w (.returned (.tuple #[.bool false, .agg #[.int .i64 0, .int .i64 0]])) w' := .zero h hm ⟨fun e => (by cases e), fun k => absurd k hok⟩ hb
/-- Bags of nodes. -/
theorem bags_back {n : Int} {m : List (List Int)} (h : ∀ i, i < m.length → BagOk n (m.getD i [])) : m = (m.map (List.map Int.toNat)).map ints := by
  rw [List.map_map]
  refine List.ext_getElem (by simp) fun i h1 h2 => ?_
  rw [List.getElem_map]
  have hb := h i h1
  rw [List.getD, List.getElem?_eq_getElem h1] at hb
  show m[i] = ints (m[i].map Int.toNat)
  unfold ints
  rw [List.map_map]
  refine List.ext_getElem (by simp) fun j h3 h4 => ?_
  have h5 := (hb j h3).1.1
  simp only [Option.getD_some] at h5
  rw [List.getD, List.getElem?_eq_getElem h3] at h5
  simp only [List.getElem_map, Function.comp]
  exact (Int.toNat_of_nonneg h5).symm
theorem graph_good {n : Int} {l : List (Int × Int)} (h : GraphSpec n l 0 0) : 0 ≤ n ∧ n ≤ 100 ∧ l.length ≤ 1000 ∧ ∀ j, j < l.length → EndsOk n (l.getD j (0, 0)) ∧ (l.getD j (0, 0)).1 ≠ (l.getD j (0, 0)).2 := by
  rcases h with ⟨_, h, _⟩ | ⟨hb, ⟨_, _, _, hw, _⟩ | ⟨h, _, _⟩⟩
  · cases h
  · exact absurd rfl hw.ne0
  · unfold TooBig at hb
    exact ⟨by omega, by omega, by omega, fun j hj => ⟨(h j hj).1, (h j hj).2.1⟩⟩
def hasI (m : List (List Int)) (i j : Nat) : Bool := decide ((j : Int) ∈ m.getD i [])
theorem hasI_hasB (bs : List (List Nat)) (i j : Nat) : hasI (bs.map ints) i j = hasB bs j i := by
  unfold hasI hasB
  rw [map_ints_getD, Bool.eq_iff_iff, decide_eq_true_eq, List.contains_iff_mem, ints, List.mem_map]
  exact ⟨fun ⟨a, h1, h2⟩ => by obtain rfl : a = j := by omega
                               exact h1, fun h => ⟨j, h, rfl⟩⟩
end Go.Proofs.YtnmljgjegodkaaaDoor
namespace Go.Proofs.YtnmljgjegodkaaaDoor
open Go Go.RowKit

/-- Where a function value answers yes. -/
def IdxPost (f : Nat → Bool) (M : Nat) (w : World) (e : Ending) (w' : World) : Prop := ∃ z : Int, e = .returned (.int .i64 z) ∧ (0 ≤ z ↔ anyN f M = true) ∧ ∃ n, w' = w.drewN n
set_option maxHeartbeats 1600000 in
set_option maxRecDepth 100000 in
theorem idxf_any {M D : Nat} (f : Nat → Bool) (row : Nat → Value) (g : Nat) (lb : Array Value) (w : World) (eg : ∀ args w, (callFunc g args).run Tryd.prog w = .ok (.enter g args) w) (hM : M ≤ 100) (hh : ∀ q, q < M → w.cell? ⟨D, q, none⟩ = some (row q))
    (hp : ∀ q n, q < M → Calls Tryd.prog g (#[row q] ++ lb) (w.drewN n) fun e w' => e = .returned (.bool (f q)) ∧ ∃ k, w' = (w.drewN n).drewN k) :
    Calls Tryd.prog 57 #[.slice (some ⟨D, 0, none⟩) M M, .func (.func g) #[] lb] w (IdxPost f M w) := by
  have Hh := Lib.hid hh; have Hp := Lib.hid hp
  clear hh hp
  go_enter Tryd.func57, Tryd.ntmps57
  go_upto_region 2 with fail
  go_loopg [8] M (fun gm s8 wr => ∃ q n : Nat, q ≤ M ∧ gm = M - q ∧ s8 = .int .i64 (q : Int) ∧ wr = w.drewN n ∧ anyN f q = false)
  case atStart => exact ⟨0, 0, Nat.zero_le _, rfl, rfl, rfl, rfl⟩
  case round =>
    obtain ⟨q, n, hq, rfl, rfl, rfl, hno⟩ := hrel
    have Hno := Lib.hid hno
    clear hno
    by_cases hlt : q < M
    · have cr : w.cell? ⟨D, q, none⟩ = some (row q) := Hh.out q hlt
      have hcall := Hp.out q n hlt
      have Hs := Lib.hid (show anyN f (q + 1) = (anyN f q || f q) from rfl)
      generalize row q = r at *
      cases hf : f q with
      | true =>
        rw [hf] at hcall
        have Hyes := Lib.hid (show anyN f M = true from anyN_iff.2 ⟨q, hlt, hf⟩)
        clear hf
        go_wp2_with (go_at_fn g; refine hcall.mono ?_; rintro e w' ⟨rfl, q', rfl⟩)
        go_ret
        exact ⟨_, rfl, ⟨fun _ => Hyes.out, fun _ => by omega⟩, _, rfl⟩
      | false =>
        rw [hf] at hcall
        have Hst := Lib.hid (show anyN f (q + 1) = false by rw [Hs.out, Hno.out, hf]; rfl)
        clear hf
        go_wp2_with (go_at_fn g; refine hcall.mono ?_; rintro e w' ⟨rfl, q', rfl⟩)
        go_roundg (M - (q + 1))
        case measure => go_light; omega
        case rel => exact ⟨q + 1, _, by omega, rfl, by go_num, rfl, Hst.out⟩
    · obtain rfl : q = M := by omega
      go_wp2
      go_ret
      exact ⟨_, rfl, ⟨fun h => absurd h (by omega), fun h => by rw [Hno.out] at h; cases h⟩, _, rfl⟩
set_option maxRecDepth 100000 in
theorem hasf_any {M D : Nat} (f : Nat → Bool) (row : Nat → Value) (g : Nat) (lb : Array Value) (w : World) (eg : ∀ args w, (callFunc g args).run Tryd.prog w = .ok (.enter g args) w) (hM : M ≤ 100) (hh : ∀ q, q < M → w.cell? ⟨D, q, none⟩ = some (row q))
    (hp : ∀ q n, q < M → Calls Tryd.prog g (#[row q] ++ lb) (w.drewN n) fun e w' => e = .returned (.bool (f q)) ∧ ∃ k, w' = (w.drewN n).drewN k) :
    Calls Tryd.prog 41 #[.slice (some ⟨D, 0, none⟩) M M, .func (.func g) #[] lb] w fun e w' => e = .returned (.bool (anyN f M)) ∧ ∃ n, w' = w.drewN n := by
  have Hc := Lib.hid (idxf_any f row g lb w eg hM hh hp)
  clear hh hp eg
  go_enter Tryd.func41, Tryd.ntmps41
  go_wp2_with fail
  apply Calls.mono Hc.out
  rintro e w' ⟨z, rfl, hz, n, rfl⟩
  have Hz := Lib.hid hz
  clear hz
  go_wp2
  go_ret
  refine ⟨?_, n, rfl⟩
  have e : decide (0 ≤ z) = anyN f M := by rw [Bool.eq_iff_iff, decide_eq_true_eq]; exact Hz.out
  rw [← e]
  first | rfl | simp

set_option maxRecDepth 100000 in
/-- The function literal: are both ends in a bag? -/
theorem fits1_any {N X Y : Nat} (f : Nat → Bool) (r E : Nat) (w : World) (hX : X < N) (hY : Y < N) (hr : ∀ j, j < N → w.cell? ⟨r, j, none⟩ = some (.bool (f j))) (h0 : w.cell? ⟨E, 0, none⟩ = some (.int .i64 (X : Int))) (h1 : w.cell? ⟨E, 1, none⟩ = some (.int .i64 (Y : Int))) :
    Calls Tryd.prog 42 #[.slice (some ⟨r, 0, none⟩) N N, .pointer (some ⟨E, 0, none⟩)] w fun e w' => e = .returned (.bool (f X && f Y)) ∧ ∃ q, w' = w.drewN q := by
  have cx := hr X hX
  have cy := hr Y hY
  clear hr
  generalize f X = a at *
  generalize f Y = b at *
  cases a with
  | true =>
    go_enter Tryd.func42, Tryd.ntmps42
    go_wp2
    go_ret
    exact ⟨by simp, 0, rfl⟩
  | false =>
    go_enter Tryd.func42, Tryd.ntmps42
    go_wp2
    go_ret
    exact ⟨by simp, 0, rfl⟩
theorem cell_drewN (w : World) (n : Nat) (a : Addr) : (w.drewN n).cell? a = w.cell? a := rfl
/-- Is there a bag with both ends? -/
theorem has_both {M N X Y D E : Nat} (f : Nat → Nat → Bool) (w : World) (hX : X < N) (hY : Y < N) (hM : M ≤ 100) (h : InR w D M N f) (h0 : w.cell? ⟨E, 0, none⟩ = some (.int .i64 (X : Int))) (h1 : w.cell? ⟨E, 1, none⟩ = some (.int .i64 (Y : Int))) :
    Calls Tryd.prog 41 #[.slice (some ⟨D, 0, none⟩) M M, .func (.func 42) #[] #[.pointer (some ⟨E, 0, none⟩)]] w
      fun e w' => e = .returned (.bool (anyN (fun q => f q X && f q Y) M)) ∧ ∃ q, w' = w.drewN q := by
  have eg : ∀ args w, (callFunc 42 args).run Tryd.prog w = .ok (.enter 42 args) w := enters_of Tryd.func42 (by kernel_rfl) rfl
  exact hasf_any (fun q => f q X && f q Y) (fun q => .slice (some ⟨D + 1 + q, 0, none⟩) N N) _ _ w eg hM h.head fun q n hq => fits1_any (f q) (D + 1 + q) E (w.drewN n) hX hY (fun j hj => h.cell q j hq hj) h0 h1
end Go.Proofs.YtnmljgjegodkaaaDoor
namespace Go.Proofs.YtnmljgjegodkaaaDoor
open Go Go.RowKit

set_option maxHeartbeats 6400000 in
set_option maxRecDepth 100000 in
theorem fits_any (n : Int) (l : List (Int × Int)) (m : List (List Int)) (u : List Int) (sv bv uv : Value) (w : World) (h : IsEdges w sv l) (hm : IsRows w bv m) (hu : IsInts w uv u) :
    Calls Tryd.prog 17 #[.agg #[.int .i64 n, sv], bv, uv] w (FitsPost n l m u w) := by
  obtain ⟨ad, cap, rfl⟩ : ∃ ad cap, sv = .slice ad l.length cap := by
    obtain ⟨a, c, _, _, rfl, _⟩ := h
    exact ⟨a, c, rfl⟩
  obtain ⟨ab, cb, rfl, hmM⟩ : ∃ ab cb, bv = .slice ab m.length cb ∧ m.length ≤ 9223372036854775807 := by
    obtain ⟨a, c, _, _, rfl, _, _, _, _, _⟩ := hm
    exact ⟨a, c, rfl, by omega⟩
  obtain ⟨au, cu, rfl, huM⟩ : ∃ au cu, uv = .slice au u.length cu ∧ u.length ≤ 9223372036854775807 := by
    obtain ⟨a, c, _, _, rfl, _, _, _, _, _⟩ := hu
    exact ⟨a, c, rfl, by omega⟩
  have hg := GRes.start w n (.slice ad l.length cap)
  have He := Lib.hid h; have Hg := Lib.hid hg; have Hm := Lib.hid hm; have Hu := Lib.hid hu
  have cn := hg.cn
  have cs := hg.cs
  clear h hg hm hu
  go_enter Tryd.func17, Tryd.ntmps17
  go_upto_region 1 with fail
  generalize (w.alloc (Obj.cells #[.int .i64 n, .slice ad l.length cap] 24)).alloc (Obj.cells #[Value.int IntKind.i64 0, Value.int IntKind.i64 0] 27) = w1 at *
  go_upto_region 2 with (go_at_call 25; refine (gcheck_any l n _ w1 (He.out.below Hg.out.hb)).mono ?_; rintro e w2 ⟨c, a, hsp, rfl, hb2⟩; have Hsp := Lib.hid hsp; have H3 := Lib.hid (Hg.out.below (upc hb2 (below1 w2 (Obj.cells #[.int .i64 c, .int .i64 a] 27)))); have F3 := Lib.hid (FV.new w2 c a); clear hsp hb2)
  generalize w2.alloc (Obj.cells #[.int .i64 c, .int .i64 a] 27) = w3 at *
  generalize w2.heap.size = F at *
  clear cn cs Hg
  have cn := H3.out.cn
  have cs := H3.out.cs
  have hAB := H3.out.hA
  obtain ⟨f0, f1, -, -, -⟩ := F3.out.facts
  have b0 := H3.out.hz.cell (show 0 < 2 by omega)
  have b1 := H3.out.hz.cell (show 1 < 2 by omega)
  have d0 := H3.out.hz.frozen 0
  have d1 := H3.out.hz.frozen 1
  have hBl := H3.out.hz.lt
  by_cases hc : c = 0
  · subst hc
    obtain rfl := spec_zero Hsp.out
    by_cases hm1 : 100 < m.length
    · have hm2 : (100 : Int) < (m.length : Int) := by omega
      go_wp2_with (go_at_call 26; refine (wfault_any _ _ _).mono ?_; rintro e wf ⟨rfl, rfl⟩)
      obtain ⟨e0, e1, e2⟩ := H3.out.putA (.int .i64 2) (.int .i64 0) (Obj.cells #[Value.int .i64 2, .int .i64 0] 27)
      exact bodyPost_ret (v := .tuple #[.bool false, .agg #[.int .i64 2, .int .i64 0]]) (by simp [results, Tryd.results17, go_sem, e0, e1]) rfl (FitsPost.bad (Or.inr ⟨Hsp.out, Or.inl ⟨hm1, rfl, rfl⟩⟩) (by decide) e2)
    by_cases hu1 : u.length = m.length
    · rw [hu1]
      have hm2 : ¬ (100 : Int) < (m.length : Int) := by omega
      have Hu1 := Lib.hid hu1
      have Hm1 := Lib.hid hm1
      clear hu1 huM
      generalize hM : m.length = M at *
      have HM := Lib.hid hM
      have hM100 : M ≤ 100 := by omega
      obtain ⟨hn0, hn100, hl1000, hok⟩ := graph_good Hsp.out
      have Hok := Lib.hid hok
      obtain ⟨N, rfl⟩ := Int.eq_ofNat_of_zero_le hn0
      have hmk := run_make_row' (P := Tryd.prog) 39 52 (.slice none 0 0) 24 Tryd.underlying39 infoG rfl .i64 .i64 M (by omega) (by omega)
      have I4 := Lib.hid (InT.start w3 M N (hasI m))
      clear hM hok hn0 hm1 hmM
      go_upto_region 9 with fail
      clear f0 f1 b0 b1 d0 d1 cn cs hmk
      generalize w3.alloc (.cells (madeCells #[.slice none 0 0] M) 52) = w4 at *
      generalize w3.heap.size = D at *
      go_upto_region 10 with fail
      have hmk2 := run_make_row' (P := Tryd.prog) 52 4 (.bool false) 1 Tryd.underlying52 info4 rfl .i64 .i64 N (by omega) (by omega)
      have Hmk2 := Lib.hid hmk2
      clear hmk2
      go_loopg [41] M (fun g s41 wr => ∃ k : Nat, k ≤ M ∧ g = M - k ∧ s41 = .int .i64 (k : Int) ∧ (∀ j, j < k → BagOk (N : Int) (m.getD j [])) ∧ InT w3 wr D M N k (hasI m))
      case atStart => exact ⟨0, Nat.zero_le _, rfl, rfl, fun j hj => absurd hj (Nat.not_lt_zero _), I4.out⟩
      case round =>
        clear I4
        obtain ⟨k, hk, rfl, rfl, hall, hI⟩ := hrel
        have Hall := Lib.hid hall
        have H4 := Lib.hid (H3.out.below hI.hb)
        have HI := Lib.hid hI
        by_cases hlt : k < M
        · obtain ⟨bb, ob, r, rfl, cr0, hri⟩ := Hm.out.atF (k := k) (by rw [HM.out]; exact hlt)
          have cr := below_cell H4.out.hb cr0
          obtain ⟨ar, cr', rfl, hl1, hl2⟩ : ∃ ar cr', r = .slice ar (m.getD k []).length cr' ∧ (m.getD k []).length ≤ cr' ∧ cr' ≤ 9223372036854775807 := by
            obtain ⟨ar, cr', br, or', er, hl1, hl2, -, -, -⟩ := hri
            exact ⟨ar, cr', er, hl1, by omega⟩
          have Hri := Lib.hid hri
          generalize hbg : m.getD k [] = bg at *
          have Hbg := Lib.hid hbg
          generalize hnb : bg.length = nb at *
          have Hnb := Lib.hid hnb
          have cn := H4.out.cn
          have ch := hI.head.cell hlt
          have fh := hI.head.frozen k
          have lh := hI.head.lt
          have hn := hI.step
          rw [World.setCell_alloc_past _ _ _ _ lh] at hn
          have Hn := Lib.hid (hn.congr (g := fun i j => if i = k then decide ((j : Int) ∈ bg.take 0) else hasI m i j) fun i j _ _ => by by_cases e : i = k <;> simp [e])
          have hmk2 := Hmk2.out
          clear hall hbg hnb hri hI hn cr0
          go_upto_region 14 with fail
          clear hmk2 cr ch fh cn
          have hz5 := Hn.out.size
          generalize (wr.setCell ⟨D, k, none⟩ (.slice (some ⟨wr.heap.size, 0, none⟩) N N)).alloc (.cells (madeCells #[.bool false] N) 4) = w5 at *
          go_loopg [54] nb (fun g s54 wi => ∃ q : Nat, q ≤ nb ∧ g = nb - q ∧ s54 = .int .i64 (q : Int) ∧ (∀ j, j < q → SlotOk (N : Int) bg j) ∧ InT w3 wi D M N (k + 1) (fun i j => if i = k then decide ((j : Int) ∈ bg.take q) else hasI m i j))
          case atStart => exact ⟨0, Nat.zero_le _, rfl, rfl, fun j hj => absurd hj (Nat.not_lt_zero _), Hn.out⟩
          case round =>
            clear HI Hn hz5
            obtain ⟨q, hq, rfl, rfl, hsl, hI⟩ := hrel
            have Hsl := Lib.hid hsl
            have H5 := Lib.hid (H3.out.below hI.hb)
            have b0 := H5.out.hz.cell (show 0 < 2 by omega)
            have b1 := H5.out.hz.cell (show 1 < 2 by omega)
            have d0 := H5.out.hz.frozen 0
            have d1 := H5.out.hz.frozen 1
            have hBl5 := H5.out.hz.lt
            have cn := H5.out.cn
            by_cases hq1 : q < nb
            · obtain ⟨b2, o2, rfl, cx⟩ := (Hri.out.below H5.out.hb).atF (show q < bg.length by rw [Hnb.out]; exact hq1)
              obtain ⟨x, hx⟩ : ∃ x, bg.getD q 0 = x := ⟨_, rfl⟩
              have Hx := Lib.hid hx
              have HSl := Lib.hid (show SlotOk (N : Int) bg q ↔ (0 ≤ x ∧ x < (N : Int)) ∧ ¬ x ∈ bg.take q by rw [← hx]; exact Iff.rfl)
              rw [hx] at cx
              clear hsl hx
              by_cases hx0 : x < 0 ∨ (N : Int) ≤ x
              · have HS := Lib.hid (show FitsSpec (N : Int) l m u 3 (k : Int) from Or.inr ⟨Hsp.out, Or.inr ⟨by rw [HM.out]; omega, Or.inr ⟨by rw [Hu1.out, HM.out], Or.inl ⟨k, by rw [HM.out]; exact hlt, Hall.out, q, by rw [Hbg.out, Hnb.out]; exact hq1, by rw [Hbg.out]; exact Hsl.out, by rw [Hbg.out]; exact fun h => absurd (HSl.out.1 h).1 (by omega), rfl, by rw [Hbg.out, Hx.out, if_neg (by omega)]⟩⟩⟩⟩)
                clear hI
                by_cases hx1 : x < 0
                · go_wp2_with (go_at_call 26; refine (wfault_any _ _ _).mono ?_; rintro e wf ⟨rfl, rfl⟩)
                  obtain ⟨e0, e1, e2⟩ := H5.out.putA (.int .i64 3) (.int .i64 (k : Int)) (Obj.cells #[Value.int .i64 3, .int .i64 (k : Int)] 27)
                  exact bodyPost_ret (v := .tuple #[.bool false, .agg #[.int .i64 3, .int .i64 (k : Int)]]) (by simp [results, Tryd.results17, go_sem, e0, e1]) rfl (FitsPost.bad HS.out (by decide) e2)
                · have hx2 : (N : Int) ≤ x := by omega
                  go_wp2_with (go_at_call 26; refine (wfault_any _ _ _).mono ?_; rintro e wf ⟨rfl, rfl⟩)
                  obtain ⟨e0, e1, e2⟩ := H5.out.putA (.int .i64 3) (.int .i64 (k : Int)) (Obj.cells #[Value.int .i64 3, .int .i64 (k : Int)] 27)
                  exact bodyPost_ret (v := .tuple #[.bool false, .agg #[.int .i64 3, .int .i64 (k : Int)]]) (by simp [results, Tryd.results17, go_sem, e0, e1]) rfl (FitsPost.bad HS.out (by decide) e2)
              · obtain ⟨X, rfl⟩ := Int.eq_ofNat_of_zero_le (show 0 ≤ x by omega)
                have hXN : X < N := by omega
                have hx1 : ¬ (X : Int) < 0 := by omega
                have hx2 : ¬ (N : Int) ≤ (X : Int) := by omega
                have ch : wr.cell? ⟨D, k, none⟩ = some (.slice (some ⟨D + 1 + k, 0, none⟩) N N) := by
                  have := hI.head.cell hlt
                  rwa [if_pos (by omega)] at this
                have cX : wr.cell? ⟨D + 1 + k, X, none⟩ = some (.bool (decide ((X : Int) ∈ bg.take q))) := by
                  have := (hI.row k (by omega)).cell hXN
                  simpa [rb] using this
                have fX := (hI.row k (by omega)).frozen X
                have lX := (hI.row k (by omega)).lt
                by_cases hmem : (X : Int) ∈ bg.take q
                · have HS := Lib.hid (show FitsSpec (N : Int) l m u 5 (k : Int) from Or.inr ⟨Hsp.out, Or.inr ⟨by rw [HM.out]; omega, Or.inr ⟨by rw [Hu1.out, HM.out], Or.inl ⟨k, by rw [HM.out]; exact hlt, Hall.out, q, by rw [Hbg.out, Hnb.out]; exact hq1, by rw [Hbg.out]; exact Hsl.out, by rw [Hbg.out]; exact fun h => (HSl.out.1 h).2 hmem, rfl, by rw [Hbg.out, Hx.out, if_pos ⟨by omega, by omega⟩]⟩⟩⟩⟩)
                  rw [decide_eq_true hmem] at cX
                  clear hI hmem
                  go_wp2_with (go_at_call 26; refine (wfault_any _ _ _).mono ?_; rintro e wf ⟨rfl, rfl⟩)
                  obtain ⟨e0, e1, e2⟩ := H5.out.putA (.int .i64 5) (.int .i64 (k : Int)) (Obj.cells #[Value.int .i64 5, .int .i64 (k : Int)] 27)
                  exact bodyPost_ret (v := .tuple #[.bool false, .agg #[.int .i64 5, .int .i64 (k : Int)]]) (by simp [results, Tryd.results17, go_sem, e0, e1]) rfl (FitsPost.bad HS.out (by decide) e2)
                · have Hst := Lib.hid (show ∀ j, j < q + 1 → SlotOk (N : Int) bg j from fun j hj => by
                    by_cases e : j = q
                    · subst e; exact HSl.out.2 ⟨⟨by omega, by omega⟩, hmem⟩
                    · exact Hsl.out j (by omega))
                  have HI2 := Lib.hid ((hI.set (x := k) (by omega) X true).congr (g := fun i j => if i = k then decide ((j : Int) ∈ bg.take (q + 1)) else hasI m i j) fun i j _ _ => by
                    by_cases e : i = k
                    · subst e
                      have hql : q < bg.length := by rw [Hnb.out]; exact hq1
                      have e2 : bg[q] = (X : Int) := by have := Hx.out; rwa [List.getD, List.getElem?_eq_getElem hql] at this
                      rw [List.take_succ_eq_append_getElem hql, e2]
                      by_cases e3 : j = X
                      · subst e3; simp
                      · have e4 : ¬ (j : Int) = (X : Int) := by omega
                        simp [e3, e4]
                    · simp [e])
                  rw [decide_eq_false hmem] at cX
                  clear hI hmem
                  go_wp2
                  go_roundg (nb - (q + 1))
                  case measure => go_light; omega
                  case rel => exact ⟨q + 1, by omega, rfl, by go_num, Hst.out, HI2.out⟩
            · obtain rfl : q = nb := by omega
              have Hst := Lib.hid (show ∀ j, j < k + 1 → BagOk (N : Int) (m.getD j []) from fun j hj => by
                by_cases e : j = k
                · subst e; rw [Hbg.out]; exact fun p hp => Hsl.out p (by rw [← Hnb.out]; exact hp)
                · exact Hall.out j (by omega))
              have HI2 := Lib.hid (hI.congr (g := hasI m) fun i j _ _ => by
                by_cases e : i = k
                · subst e
                  rw [if_pos rfl, ← Hnb.out, List.take_length, hasI, Hbg.out]
                · rw [if_neg e])
              clear hsl hI
              go_wp2
              go_roundg (M - (k + 1))
              case measure => go_light; omega
              case rel => exact ⟨k + 1, by omega, rfl, by go_num, Hst.out, HI2.out⟩
        · obtain rfl : M = k := by omega
          obtain ⟨bs, hbs⟩ : ∃ bs : List (List Nat), m = bs.map ints := ⟨_, bags_back (n := (N : Int)) fun i hi => Hall.out i (by rw [← HM.out]; exact hi)⟩
          have HS := Lib.hid (show FitsSpec (N : Int) l m u 0 0 from Or.inr ⟨Hsp.out, Or.inr ⟨by rw [HM.out]; omega, Or.inr ⟨by rw [Hu1.out, HM.out], Or.inr ⟨by rw [HM.out]; exact Hall.out, rfl, rfl⟩⟩⟩⟩)
          have hlen : bs.length = M := by have := HM.out; rw [hbs, List.length_map] at this; exact this
          have R := Lib.hid (show InR wr D M N (fun i j => hasB bs j i) from by
            have h1 := hI.read
            rw [hbs] at h1
            exact ⟨h1.head, fun i j hi hj => by rw [← hasI_hasB]; exact h1.cell i j hi hj⟩)
          have HO := Lib.hid (fits_over (N := N) (l := l) (bs := bs) (u := u) (by rw [Hu1.out, hlen]))
          have hDs : D + M < wr.heap.size := by rw [hI.size]; omega
          have Hbs := Lib.hid hbs; have Hlen := Lib.hid hlen
          have Hu0 := Lib.hid (show IsInts w (.slice au M cu) u from by have h1 := Hu.out; rw [Hu1.out] at h1; exact h1)
          have Hu4 := Lib.hid (Hu0.out.below H4.out.hb)
          obtain ⟨w5, rfl⟩ : ∃ w5 : World, w5 = wr := ⟨_, rfl⟩
          clear hI hall HI Hall hbs hlen Hmk2
          go_wp2_with fail
          refine (tree_any u _ _ Hu4.out (by rw [Hu1.out]; exact hM100)).mono ?_
          rintro e w6 ⟨bt, hbt, rfl, hb6⟩
          have Hbt := Lib.hid hbt
          have H6 := Lib.hid (H4.out.below hb6)
          have R6 := Lib.hid (R.out.below hb6)
          have hDs6 : D + M < w6.heap.size := Nat.lt_of_lt_of_le hDs hb6.size
          clear hbt hb6 H4 R Hu4 hDs
          have b0 := H6.out.hz.cell (show 0 < 2 by omega)
          have b1 := H6.out.hz.cell (show 1 < 2 by omega)
          have d0 := H6.out.hz.frozen 0
          have d1 := H6.out.hz.frozen 1
          have hBl6 := H6.out.hz.lt
          cases bt with
          | false =>
            have Hno := Lib.hid (show ¬ OverT N l bs u from fun h => by
              have h1 := HO.out.2 h
              have := Hbt.out.2 ⟨h1.climb, h1.root⟩
              cases this)
            go_wp2
            obtain ⟨e0, e1, e2⟩ := H6.out.put (.int .i64 0) (.int .i64 0)
            exact bodyPost_ret (v := .tuple #[.bool false, .agg #[.int .i64 0, .int .i64 0]]) (by simp [results, Tryd.results17, go_sem, e0, e1]) rfl (FitsPost.no HS.out Hbs.out Hno.out e2)
          | true =>
            have HT := Lib.hid (Hbt.out.1 rfl)
            clear Hbt b0 b1 d0 d1 hBl6
            have cs := H6.out.cs
            go_upto_region 26 with fail
            clear cs
            go_loopg [92] l.length (fun g s92 wr => ∃ j : Nat, j ≤ l.length ∧ g = l.length - j ∧ s92 = .int .i64 (j : Int) ∧ (∀ j', j' < j → ∃ i, i < bs.length ∧ hasB bs (l.getD j' (0, 0)).1.toNat i = true ∧ hasB bs (l.getD j' (0, 0)).2.toNat i = true) ∧ Below w6.heap.size w6 wr)
            case atStart => exact ⟨0, Nat.zero_le _, rfl, rfl, fun j hj => absurd hj (Nat.not_lt_zero _), Below.refl _ _⟩
            case round =>
              obtain ⟨j, hj, rfl, rfl, hall, hb⟩ := hrel
              have Hall := Lib.hid hall; have Hb := Lib.hid hb
              have H7 := Lib.hid (H6.out.below hb)
              have hDs7 : D + M < wr.heap.size := Nat.lt_of_lt_of_le hDs6 hb.size
              by_cases hlt : j < l.length
              · obtain ⟨be, oe, rfl, cx0, cy0⟩ := (He.out.below H7.out.hb).atF hlt
                obtain ⟨X, Y, hX, hY, hXe, hYe⟩ : ∃ X Y : Nat, X < N ∧ Y < N ∧ (l.getD j (0, 0)).1 = (X : Int) ∧ (l.getD j (0, 0)).2 = (Y : Int) := by
                  obtain ⟨⟨x0, y0, x1, y1⟩, -⟩ := Hok.out j hlt
                  exact ⟨(l.getD j (0, 0)).1.toNat, (l.getD j (0, 0)).2.toNat, by omega, by omega, by omega, by omega⟩
                rw [hXe] at cx0
                rw [hYe] at cy0
                have HXe := Lib.hid (show (l.getD j (0, 0)).1.toNat = X by omega)
                have HYe := Lib.hid (show (l.getD j (0, 0)).2.toNat = Y by omega)
                have hb8 := below1 wr (Obj.cells #[.int .i64 (X : Int), .int .i64 (Y : Int)] 63)
                have ce := two_cells wr (.int .i64 (X : Int)) (.int .i64 (Y : Int)) 63
                have R8 := Lib.hid ((R6.out.below hb).below hb8)
                have Hb8 := Lib.hid (hb.trans (hb8.mono hb.size))
                have hz8 : (wr.alloc (Obj.cells #[.int .i64 (X : Int), .int .i64 (Y : Int)] 63)).heap.size = wr.heap.size + 1 := World.size_alloc _ _
                have Ce := Lib.hid ce
                clear hall hb hXe hYe hb8 ce
                go_upto_region 28 with fail
                clear cx0 cy0
                generalize wr.alloc (Obj.cells #[.int .i64 (X : Int), .int .i64 (Y : Int)] 63) = w8 at *
                have Hcon := Lib.hid (has_both (D := D) (E := wr.heap.size) (fun i j => hasB bs j i) w8 hX hY hM100 R8.out Ce.out.1 Ce.out.2)
                have Hiff := Lib.hid (show anyN (fun q => hasB bs X q && hasB bs Y q) M = true ↔ ∃ p, p < M ∧ hasB bs X p = true ∧ hasB bs Y p = true from by rw [anyN_iff]; simp only [Bool.and_eq_true])
                generalize anyN (fun q => hasB bs X q && hasB bs Y q) M = o at *
                cases o with
                | true =>
                  have Hst := Lib.hid (show ∀ j', j' < j + 1 → ∃ i, i < bs.length ∧ hasB bs (l.getD j' (0, 0)).1.toNat i = true ∧ hasB bs (l.getD j' (0, 0)).2.toNat i = true from fun j' hj' => by
                    by_cases e : j' = j
                    · subst e; rw [HXe.out, HYe.out, Hlen.out]; exact Hiff.out.1 rfl
                    · exact Hall.out j' (by omega))
                  go_wp2_with (go_at_call 41; refine Hcon.out.mono ?_; rintro e w9 ⟨rfl, q, rfl⟩)
                  go_roundg (l.length - (j + 1))
                  case measure => go_light; omega
                  case rel => exact ⟨j + 1, by omega, rfl, by go_num, Hst.out, Below.drewN' Hb8.out _⟩
                | false =>
                  have Hno := Lib.hid (show ¬ OverT N l bs u from fun h => by
                    have h1 := h.edge j hlt
                    rw [HXe.out, HYe.out, Hlen.out] at h1
                    have := Hiff.out.2 h1
                    cases this)
                  have H8 := Lib.hid (H6.out.below Hb8.out)
                  go_wp2_with (go_at_call 41; refine Hcon.out.mono ?_; rintro e w9 ⟨rfl, q, rfl⟩; have H9 := Lib.hid (H8.out.below (Below.drewN' (Below.refl _ _) q)); have b0 := H9.out.hz.cell (show 0 < 2 by omega); have b1 := H9.out.hz.cell (show 1 < 2 by omega); have d0 := H9.out.hz.frozen 0; have d1 := H9.out.hz.frozen 1; have hBl9 := H9.out.hz.lt; generalize w8.drewN q = w9 at *)
                  obtain ⟨e0, e1, e2⟩ := H9.out.put (.int .i64 0) (.int .i64 0)
                  exact bodyPost_ret (v := .tuple #[.bool false, .agg #[.int .i64 0, .int .i64 0]]) (by simp [results, Tryd.results17, go_sem, e0, e1]) rfl (FitsPost.no HS.out Hbs.out Hno.out e2)
              · obtain rfl : l.length = j := by omega
                have Hedge := Lib.hid hall
                have cn := H7.out.cn
                obtain ⟨w7, rfl⟩ : ∃ w7 : World, w7 = wr := ⟨_, rfl⟩
                have R7 := Lib.hid (R6.out.below hb)
                clear hall hb Hall
                go_upto_region 32 with fail
                clear cn
                go_loopg [104] N (fun g s104 wr => ∃ v : Nat, v ≤ N ∧ g = N - v ∧ s104 = .int .i64 (v : Int) ∧ (∀ v', v' < v → cnt (topH bs u v') M = 1) ∧ Below w6.heap.size w6 wr)
                case atStart => exact ⟨0, Nat.zero_le _, rfl, rfl, fun v hv => absurd hv (Nat.not_lt_zero _), Hb.out⟩
                case round =>
                  clear Hb hDs7 R7
                  obtain ⟨v, hv, rfl, rfl, hall, hb⟩ := hrel
                  have Hall := Lib.hid hall; have Hb := Lib.hid hb
                  by_cases hvN : v < N
                  · clear hall hb
                    go_upto_region 36 with fail
                    go_loopg [17, 109] M (fun g s17 s109 wr => ∃ i : Nat, i ≤ M ∧ g = M - i ∧ s109 = .int .i64 (i : Int) ∧ s17 = .int .i64 (cnt (topH bs u v) i : Int) ∧ Below w6.heap.size w6 wr)
                    case atStart => exact ⟨0, Nat.zero_le _, rfl, rfl, rfl, Hb.out⟩
                    case round =>
                      clear Hb
                      obtain ⟨i, hi, rfl, rfl, rfl, hb⟩ := hrel
                      have Hb := Lib.hid hb
                      have hci := cnt_le (topH bs u v) i
                      by_cases hiM : i < M
                      · have H9 := H6.out.hb.trans (hb.mono H6.out.hb.size)
                        obtain ⟨b2, o2, rfl, cx⟩ := (Hu0.out.below H9).atF (show i < u.length by rw [Hu1.out]; exact hiM)
                        have R9 := R6.out.below hb
                        have ch := R9.head i hiM
                        have cv := R9.cell i v hiM hvN
                        obtain ⟨n1, hn1⟩ : ∃ n1, cnt (topH bs u v) (i + 1) = n1 := ⟨_, rfl⟩
                        have Hn1 := Lib.hid hn1
                        rw [cnt] at hn1
                        have Htop := Lib.hid (show topH bs u v i = (hasB bs v i && (decide (u.getD i 0 < 0) || !hasB bs v (u.getD i 0).toNat)) from rfl)
                        have Hup := Lib.hid (show UpAt u i from (climb_iff.1 (HT.out.1 i (by rw [Hu1.out]; exact hiM))).elim fun s h => clm_up h)
                        generalize topH bs u v i = tp at *
                        generalize cnt (topH bs u v) i = n at *
                        obtain ⟨p, hp⟩ : ∃ p, u.getD i 0 = p := ⟨_, rfl⟩
                        have Hp := Lib.hid hp
                        rw [hp] at cx
                        have HR9 := Lib.hid R9
                        obtain ⟨wo, rfl⟩ : ∃ wo : World, wo = wr := ⟨_, rfl⟩
                        clear hb hp R9 H9
                        go_upto_region 38 with fail
                        go_cut [134] from 114 to 134 (fun s134 wx => s134 = .bool tp ∧ wx = wo)
                        case first =>
                          cases hh : hasB bs v i with
                          | false =>
                            have e := Lib.hid (show tp = false by rw [Htop.out, hh]; rfl)
                            rw [hh] at cv
                            clear hh
                            go_wp2
                            go_meet
                            exact ⟨by rw [e.out], rfl⟩
                          | true =>
                            rw [hh] at cv
                            by_cases hp0 : p < 0
                            · have e := Lib.hid (show tp = true by rw [Htop.out, hh, Hp.out, decide_eq_true hp0]; rfl)
                              clear hh
                              go_wp2
                              go_meet
                              exact ⟨by rw [e.out], rfl⟩
                            · obtain ⟨P, rfl⟩ := Int.eq_ofNat_of_zero_le (show 0 ≤ p by omega)
                              have hPM : P < M := by
                                rcases Hup.out with h | ⟨-, h, -⟩
                                · rw [Hp.out] at h; omega
                                · rw [Hp.out, Hu1.out] at h; omega
                              have chP := HR9.out.head P hPM
                              have cvP := HR9.out.cell P v hPM hvN
                              have e := Lib.hid (show tp = !hasB bs v P by rw [Htop.out, hh, Hp.out, decide_eq_false hp0, Int.toNat_natCast]; rfl)
                              have hp1 : ¬ (P : Int) < 0 := hp0
                              generalize hasB bs v P = c at *
                              clear hh
                              go_wp2
                              go_meet
                              exact ⟨by rw [e.out], rfl⟩
                        case rest =>
                        obtain ⟨rfl, rfl⟩ := hcut
                        clear cx ch cv
                        cases tp with
                        | true =>
                          rw [if_pos rfl] at hn1
                          go_wp2
                          go_roundg (M - (i + 1))
                          case measure => go_light; omega
                          case rel => exact ⟨i + 1, by omega, rfl, by go_num, by rw [Hn1.out]; simp only [Value.int.injEq, true_and]; omega, Hb.out⟩
                        | false =>
                          rw [if_neg (by decide)] at hn1
                          go_wp2
                          go_roundg (M - (i + 1))
                          case measure => go_light; omega
                          case rel => exact ⟨i + 1, by omega, rfl, by go_num, by rw [Hn1.out]; simp only [Value.int.injEq, true_and]; omega, Hb.out⟩
                      · obtain rfl : M = i := by omega
                        obtain ⟨n1, hn1⟩ : ∃ n1, cnt (topH bs u v) M = n1 := ⟨_, rfl⟩
                        have Hn1 := Lib.hid hn1
                        rw [hn1]
                        rw [hn1] at hci
                        have H9 := Lib.hid (H6.out.below hb)
                        have b0 := H9.out.hz.cell (show 0 < 2 by omega)
                        have b1 := H9.out.hz.cell (show 1 < 2 by omega)
                        have d0 := H9.out.hz.frozen 0
                        have d1 := H9.out.hz.frozen 1
                        have hBl9 := H9.out.hz.lt
                        clear hb hn1
                        by_cases h1 : n1 = 1
                        · have Hst := Lib.hid (show ∀ v', v' < v + 1 → cnt (topH bs u v') M = 1 from fun v' hv' => by
                            by_cases e : v' = v
                            · subst e; rw [Hn1.out, h1]
                            · exact Hall.out v' (by omega))
                          subst h1
                          go_wp2
                          go_roundg (N - (v + 1))
                          case measure => go_light; omega
                          case rel => exact ⟨v + 1, by omega, rfl, by go_num, Hst.out, Hb.out⟩
                        · have Hno := Lib.hid (show ¬ OverT N l bs u from fun h => h1 (by rw [← Hn1.out, ← Hlen.out]; exact (HO.out.2 h).node v hvN))
                          have h1b : ((n1 : Int) != 1) = true := by simp; omega
                          go_wp2
                          obtain ⟨e0, e1, e2⟩ := H9.out.put (.int .i64 0) (.int .i64 0)
                          exact bodyPost_ret (v := .tuple #[.bool false, .agg #[.int .i64 0, .int .i64 0]]) (by simp [results, Tryd.results17, go_sem, e0, e1]) rfl (FitsPost.no HS.out Hbs.out Hno.out e2)
                  · obtain rfl : N = v := by omega
                    have Hyes := Lib.hid (show OverT N l bs u from HO.out.1 ⟨HT.out.1, HT.out.2, Hedge.out, fun v' hv' => by rw [Hlen.out]; exact Hall.out v' hv'⟩)
                    have H9 := Lib.hid (H6.out.below hb)
                    have b0 := H9.out.hz.cell (show 0 < 2 by omega)
                    have b1 := H9.out.hz.cell (show 1 < 2 by omega)
                    have d0 := H9.out.hz.frozen 0
                    have d1 := H9.out.hz.frozen 1
                    have hBl9 := H9.out.hz.lt
                    clear hb hall
                    go_wp2
                    obtain ⟨e0, e1, e2⟩ := H9.out.put (.int .i64 0) (.int .i64 0)
                    exact bodyPost_ret (v := .tuple #[.bool true, .agg #[.int .i64 0, .int .i64 0]]) (by simp [results, Tryd.results17, go_sem, e0, e1]) rfl (FitsPost.zero HS.out Hbs.out ⟨fun _ => Hyes.out, fun _ => rfl⟩ e2)
    · have hu2 : ¬ (u.length : Int) = (m.length : Int) := by omega
      have hub : ((u.length : Int) != (m.length : Int)) = true := by simp; omega
      have hm2 : ¬ (100 : Int) < (m.length : Int) := by omega
      go_wp2_with (go_at_call 26; refine (wfault_any _ _ _).mono ?_; rintro e wf ⟨rfl, rfl⟩)
      obtain ⟨e0, e1, e2⟩ := H3.out.putA (.int .i64 6) (.int .i64 0) (Obj.cells #[Value.int .i64 6, .int .i64 0] 27)
      exact bodyPost_ret (v := .tuple #[.bool false, .agg #[.int .i64 6, .int .i64 0]]) (by simp [results, Tryd.results17, go_sem, e0, e1]) rfl (FitsPost.bad (Or.inr ⟨Hsp.out, Or.inr ⟨by omega, Or.inl ⟨hu1, rfl, rfl⟩⟩⟩) (by decide) e2)
  · have q : (c != 0) = true := by simp [hc]
    have Hc := Lib.hid hc
    clear hc
    go_wp2
    go_region
    all_goals
      obtain ⟨e0, e1, e2⟩ := H3.out.put (.int .i64 c) (.int .i64 a)
      go_wp2
      exact bodyPost_ret (v := .tuple #[.bool false, .agg #[.int .i64 c, .int .i64 a]]) (by simp [results, Tryd.results17, go_sem, e0, e1]) rfl (FitsPost.bad (Or.inl ⟨Hsp.out, Hc.out⟩) Hc.out e2.drew)
end Go.Proofs.YtnmljgjegodkaaaDoor
