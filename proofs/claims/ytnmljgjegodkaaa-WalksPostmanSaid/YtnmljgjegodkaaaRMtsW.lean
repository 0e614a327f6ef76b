/- arborref.Mates: the least sum of pairs, by trying. -/
import Derived.Test.YtnmljgjegodkaaaPA
import Derived.Test.YtnmljgjegodkaaaWFarW
import Derived.Test.YtnmljgjegodkaaaPD
import Derived.Test.YtnmljgjegodkaaaPH
import Derived.BigQuiet
import Derived.Deep.RegionHeld3
namespace Go.Proofs.Ytnmljgjegodkaaa
open Go.RowKit

/-- The table's entries. -/
def entE (DD : List (List Int)) (u v : Nat) : Int := (DD.getD u []).getD v 0
/-- The first d of a list, without the one at c. -/
def rsT (t : List Nat) (c d : Nat) : List Nat := (t.take d).eraseIdx c
theorem rsT_zero (t : List Nat) (c : Nat) : rsT t c 0 = [] := by unfold rsT; simp
theorem rsT_same (t : List Nat) (c : Nat) : rsT t c (c + 1) = rsT t c c := by
  unfold rsT
  rw [List.eraseIdx_of_length_le (l := t.take c) (by rw [List.length_take]; omega)]
  by_cases h : c < t.length
  · rw [List.take_add_one, List.getElem?_eq_getElem h]
    simp only [Option.toList_some]
    rw [List.eraseIdx_append_of_length_le (by rw [List.length_take]; omega)]
    simp [List.length_take, Nat.min_eq_left (Nat.le_of_lt h)]
  · rw [List.take_of_length_le (by omega), List.take_of_length_le (by omega), List.eraseIdx_of_length_le (by omega)]
theorem rsT_other {t : List Nat} {c d : Nat} (hd : d < t.length) (h : d ≠ c) : rsT t c (d + 1) = rsT t c d ++ [t.getD d 0] := by
  unfold rsT
  rw [List.take_add_one, List.getD, List.getElem?_eq_getElem hd]
  simp only [Option.toList_some, Option.getD_some]
  rcases Nat.lt_or_gt_of_ne h with k | k
  · rw [List.eraseIdx_of_length_le (l := t.take d) (by rw [List.length_take]; omega), List.eraseIdx_of_length_le (by rw [List.length_append, List.length_take, List.length_singleton]; omega)]
  · rw [List.eraseIdx_append_of_lt_length (by rw [List.length_take]; omega)]
theorem rsT_all (t : List Nat) (c : Nat) : rsT t c t.length = t.eraseIdx c := by unfold rsT; rw [List.take_length]
theorem rsT_len (t : List Nat) (c d : Nat) : (rsT t c d).length ≤ t.length := by
  unfold rsT
  rw [List.length_eraseIdx, List.length_take]
  split <;> omega
theorem mateF_bd {D : Nat → Nat → Int} {M : List Nat → Int} {a : Nat} {t : List Nat} {B : Int} (hB : 0 ≤ B) (h : ∀ q, q < t.length → -1 ≤ D a (t.getD q 0) + M (t.eraseIdx q) ∧ D a (t.getD q 0) + M (t.eraseIdx q) ≤ B) : ∀ k, k ≤ t.length → -1 ≤ mateF D M a t k ∧ mateF D M a t k ≤ B
  | 0, _ => ⟨by simp [mateF], by simp [mateF]; omega⟩
  | k + 1, hk => by
    rw [mateF]
    have := mateF_bd hB h k (by omega)
    have := h k (by omega)
    split <;> omega
theorem matesP_bd {D : Nat → Nat → Int} : ∀ (f : Nat) (L : List Nat), (∀ u ∈ L, ∀ v ∈ L, 0 ≤ D u v ∧ D u v ≤ 1000) → -1 ≤ matesP D f L ∧ matesP D f L ≤ 1000 * f
  | _, [], _ => by simp [matesP]; omega
  | 0, _ :: _, _ => by simp [matesP]
  | f + 1, a :: t, h => by
    rw [matesP]
    refine mateF_bd (by omega) (fun q hq => ?_) _ (Nat.le_refl _)
    have h1 := matesP_bd f (t.eraseIdx q) fun u hu v hv => h u (List.mem_cons_of_mem _ (List.mem_of_mem_eraseIdx hu)) v (List.mem_cons_of_mem _ (List.mem_of_mem_eraseIdx hv))
    have hm : t.getD q 0 ∈ t := by rw [List.getD, List.getElem?_eq_getElem hq]; exact List.getElem_mem _
    have h2 := h a (by simp) _ (List.mem_cons_of_mem _ hm)
    push_cast
    omega

theorem uppM {a b c : World} (h : Below a.heap.size a b) (k : Below b.heap.size b c) : Below a.heap.size a c := h.trans (k.mono h.size)
set_option maxHeartbeats 6400000 in
set_option maxRecDepth 100000 in
theorem rmates_any (DD : List (List Int)) : ∀ (f : Nat) (L : List Nat), L.length ≤ f → f ≤ 12 → (∀ u ∈ L, u < DD.length ∧ ∀ v ∈ L, v < (DD.getD u []).length ∧ 0 ≤ entE DD u v ∧ entE DD u v ≤ 1000) →
    ∀ (dv lv : Value) (w : World), IsRows w dv DD → IsInts w lv (ints L) → Calls Try.prog 20 #[dv, lv] w fun e w' => e = .returned (.int .i64 (matesP (entE DD) f L)) ∧ Below w.heap.size w w' := by
  intro f
  induction f with
  | zero =>
    intro L hL _ _ dv lv w _ hl
    obtain rfl : L = [] := List.eq_nil_of_length_eq_zero (by omega)
    obtain ⟨al, cl, rfl⟩ : ∃ al cl, lv = .slice al 0 cl := by
      obtain ⟨a, c, _, _, rfl, _⟩ := hl; exact ⟨a, c, rfl⟩
    clear hl
    go_enter Try.func20, Try.ntmps20
    go_wp2
    exact bodyPost_ret (v := .int .i64 0) (by simp [results, Try.results20, go_sem]) rfl ⟨rfl, Below.refl _ _⟩
  | succ f ih =>
    intro L hL hf hD dv lv w hd hl
    cases L with
    | nil =>
      obtain ⟨al, cl, rfl⟩ : ∃ al cl, lv = .slice al 0 cl := by
        obtain ⟨a, c, _, _, rfl, _⟩ := hl; exact ⟨a, c, rfl⟩
      clear hl ih
      go_enter Try.func20, Try.ntmps20
      go_wp2
      exact bodyPost_ret (v := .int .i64 0) (by simp [results, Try.results20, go_sem]) rfl ⟨rfl, Below.refl _ _⟩
    | cons a t =>
      have hlt := hl
      obtain ⟨al, cl, rfl⟩ : ∃ al cl, lv = .slice al (a :: t).length cl := by
        obtain ⟨a, c, _, _, rfl, _⟩ := hl; exact ⟨a, c, by rw [ints_length]⟩
      obtain ⟨ad, cd, rfl⟩ : ∃ ad cd, dv = .slice ad DD.length cd := by
        obtain ⟨x, c, _, _, rfl, _⟩ := hd; exact ⟨x, c, rfl⟩
      have haD := (hD a (by simp)).1
      generalize hnd : DD.length = nd at *
      have Hnd := Lib.hid hnd
      clear hnd
      rw [List.length_cons] at hL
      have Ih := Lib.hid ih; have HD := Lib.hid hD; have Hd := Lib.hid hd; have Hl := Lib.hid hl
      clear ih hD hd hl hlt
      have ht : t.length ≤ 11 := by omega
      have Hlen := Lib.hid (show (a :: t).length = t.length + 1 from rfl)
      generalize hn : (a :: t).length = n at *
      have Hn := Lib.hid hn
      clear hn
      have hn1 : n = t.length + 1 := Hlen.out
      have hn0 : ((n : Int) == 0) = false := by rw [beq_eq_false_iff_ne]; omega
      clear Hlen
      generalize htl : t.length = m at *
      have Htl := Lib.hid htl
      clear htl
      subst hn1
      have HT := Lib.hid (show ∀ q, q < t.length → -1 ≤ entE DD a (t.getD q 0) + matesP (entE DD) f (t.eraseIdx q) ∧ entE DD a (t.getD q 0) + matesP (entE DD) f (t.eraseIdx q) ≤ 13000 from fun q hq => by
        have h1 := matesP_bd (D := entE DD) f (t.eraseIdx q) fun u hu v hv => ((HD.out u (List.mem_cons_of_mem _ (List.mem_of_mem_eraseIdx hu))).2 v (List.mem_cons_of_mem _ (List.mem_of_mem_eraseIdx hv))).2
        have hm : t.getD q 0 ∈ t := by rw [List.getD, List.getElem?_eq_getElem hq]; exact List.getElem_mem _
        have h2 := ((HD.out a (by simp)).2 _ (List.mem_cons_of_mem _ hm)).2
        omega)
      go_enter Try.func20, Try.ntmps20
      go_upto_region 5 with fail
      go_loopg [5, 6] m (fun g s5 s6 wr => ∃ c : Nat, c ≤ m ∧ g = m - c ∧ s6 = .int .i64 ((c : Int) + 1) ∧ s5 = .int .i64 (mateF (entE DD) (matesP (entE DD) f) a t c) ∧ Below w.heap.size w wr)
      case atStart => exact ⟨0, Nat.zero_le _, rfl, rfl, rfl, Below.refl _ _⟩
      case round =>
        obtain ⟨c, hc, rfl, rfl, rfl, hb⟩ := hrel
        have Hb := Lib.hid hb
        have Hsu := Lib.hid (show mateF (entE DD) (matesP (entE DD) f) a t (c + 1) = if mateF (entE DD) (matesP (entE DD) f) a t c < 0 ∨ entE DD a (t.getD c 0) + matesP (entE DD) f (t.eraseIdx c) < mateF (entE DD) (matesP (entE DD) f) a t c then entE DD a (t.getD c 0) + matesP (entE DD) f (t.eraseIdx c) else mateF (entE DD) (matesP (entE DD) f) a t c from rfl)
        have Hfin := Lib.hid (show matesP (entE DD) (f + 1) (a :: t) = mateF (entE DD) (matesP (entE DD) f) a t m by rw [matesP, Htl.out])
        have Hbd := Lib.hid (mateF_bd (D := entE DD) (M := matesP (entE DD) f) (a := a) (t := t) (B := 13000) (by omega) (HT.out) c (by rw [Htl.out]; exact hc))
        generalize hbest : mateF (entE DD) (matesP (entE DD) f) a t c = best at *
        have Hbest := Lib.hid hbest
        clear hbest
        by_cases hlt : c < m
        · have hlt2 : (c : Int) + 1 < (m : Int) + 1 := by omega
          clear hb
          go_upto_region 9 with fail
          obtain ⟨w5, rfl⟩ : ∃ w5 : World, w5 = wr := ⟨_, rfl⟩
          go_loopg [7, 8] m (fun g s7 s8 wi => ∃ d : Nat, d ≤ m ∧ g = m - d ∧ s8 = .int .i64 ((d : Int) + 1) ∧ wi.ownsRow w5.heap.size 3 1 s7 (rsT t c d).length (nvals (rsT t c d)) ∧ Below w5.heap.size w5 wi)
          case atStart => exact ⟨0, Nat.zero_le _, rfl, rfl, by rw [rsT_zero]; exact World.ownsRow_nil _ _ _ _, Below.refl _ _⟩
          case round =>
            obtain ⟨d, hd, rfl, rfl, ho, hb⟩ := hrel
            have Ho := Lib.hid ho; have Hb5 := Lib.hid hb
            have hrl := rsT_len t c d
            rw [Htl.out] at hrl
            have Hbw := Lib.hid (Hb.out.trans (hb.mono Hb.out.size))
            obtain ⟨aR, cR, rfl⟩ := ownsRow_form ho
            have hz5 := hb.size
            by_cases hdm : d < m
            · have hdm2 : (d : Int) + 1 < (m : Int) + 1 := by omega
              by_cases e : d = c
              · subst e
                have hne : (((d : Int) + 1) != ((d : Int) + 1)) = false := by simp
                have Hs := Lib.hid (rsT_same t d)
                clear ho hb
                go_wp2
                go_roundg (m - (d + 1))
                case measure => go_light; omega
                case rel => exact ⟨d + 1, by omega, rfl, by go_num, by rw [Hs.out]; exact Ho.out, Hb5.out⟩
              · have hne : (((d : Int) + 1) != ((c : Int) + 1)) = true := by rw [bne_iff_ne]; omega
                have Hs := Lib.hid (rsT_other (t := t) (show d < t.length by rw [Htl.out]; exact hdm) e)
                obtain ⟨bl, ol, rfl, cx⟩ := ints_at' Hl.out Hbw.out (show d + 1 < (a :: t).length by rw [List.length_cons, Htl.out]; omega)
                have hget : (a :: t).getD (d + 1) 0 = t.getD d 0 := rfl
                rw [hget] at cx
                generalize t.getD d 0 = x at *
                generalize rsT t c d = rs at *
                generalize hrn : rs.length = rn at *
                have Hrn := Lib.hid hrn
                clear ho hb hget hrn
                go_wp2_with (at_builtin; refine wpList_append_has rfl (.tmp 28) (.tmp 33) 29 rfl w5.heap.size 3 (.int .i64 0) 8 Try.underlying29 info3 rfl (.slice aR rn cR) rn (nvals rs) rfl (Ho.out.alloc _) _ 1 (nvals [x]) rfl (HasCells.one _ _ _ rfl) (by omega) (by omega) (by simp; omega) ?_; intro a8 c8 w8 ho8 hg8; have Ho8 := Lib.hid ho8; have Hb8 := Lib.hid ((Hb5.out.alloc Hb5.out.size (Obj.cells #[.int .i64 (x : Int)] 3)).grown hg8 (by simp; omega) (fun g e => (Ho.out.lt g e).1)); clear ho8 hg8)
                go_roundg (m - (d + 1))
                case measure => go_light; omega
                case rel => exact ⟨d + 1, by omega, rfl, by go_num, by rw [Hs.out, List.length_append, Hrn.out, show nvals (rs ++ [x]) = nvals rs ++ nvals [x] by simp [nvals, ints]]; exact Ho8.out, Hb8.out⟩
            · obtain rfl : m = d := by omega
              have hra : rsT t c m = t.eraseIdx c := by rw [← Htl.out]; exact rsT_all _ _
              rw [hra] at ho hrl
              rw [hra]
              have Ho := Lib.hid ho
              have hcl : c < t.length := by rw [Htl.out]; exact hlt
              have hmx : t.getD c 0 ∈ t := by rw [List.getD, List.getElem?_eq_getElem hcl]; exact List.getElem_mem _
              have hDa := HD.out a (by simp)
              have hDx := hDa.2 _ (List.mem_cons_of_mem _ hmx)
              have hterm := HT.out c hcl
              have hbd := Hbd.out
              obtain ⟨gd, od, rfl, gr, orr, cr, cRow, cVal⟩ := drow_at Hd.out Hbw.out (i := a) (by rw [Hnd.out]; exact haD) hDx.1
              obtain ⟨bl, ol, rfl, c0⟩ := ints_at' Hl.out Hbw.out (show 0 < (a :: t).length by simp)
              obtain ⟨bl', ol', eL, cx⟩ := ints_at' Hl.out Hbw.out (show c + 1 < (a :: t).length by rw [List.length_cons, Htl.out]; omega)
              simp only [Option.some.injEq, Addr.mk.injEq] at eL
              obtain ⟨rfl, rfl, -⟩ := eL
              have hget : (a :: t).getD (c + 1) 0 = t.getD c 0 := rfl
              have hget0 : (a :: t).getD 0 0 = a := rfl
              rw [hget] at cx
              rw [hget0] at c0
              have hxl := hDx.1
              have hent : entE DD a (t.getD c 0) = (DD.getD a []).getD (t.getD c 0) 0 := rfl
              rw [← hent] at cVal
              rw [Nat.add_zero] at c0
              have hmem : ∀ u, u ∈ t.eraseIdx c → u ∈ a :: t := fun u hu => List.mem_cons_of_mem _ (List.mem_of_mem_eraseIdx hu)
              have Hcall := Lib.hid (fun (wq : World) (hq : Below wr.heap.size wr wq) => Ih.out (t.eraseIdx c) (by rw [List.length_eraseIdx, if_pos hcl, Htl.out]; omega) (by omega) (fun u hu => ⟨(HD.out u (hmem u hu)).1, fun v hv => (HD.out u (hmem u hu)).2 v (hmem v hv)⟩) _ _ wq (Hd.out.below (uppM Hbw.out hq)) ((IsInts.owned (l := ints (t.eraseIdx c)) Ho.out).below hq))
              have hxN := Hnd.out
              clear ho hb hDa hDx hmx hcl hget hget0 hent hra hmem Ho Ih
              generalize matesP (entE DD) f (t.eraseIdx c) = mv at *
              generalize entE DD a (t.getD c 0) = ev at *
              generalize t.getD c 0 = x at *
              generalize (DD.getD a []).length = rl at *
              generalize (t.eraseIdx c).length = rn at *
              have hwa : IntKind.i64.wrap (ev + mv) = ev + mv := wrap_midF (by omega) (by omega)
              have hc1 : (0 : Int) ≤ (c : Int) + 1 := by omega
              clear hxN
              go_upto_region 13 with fail
              go_region_held3 (fun w' => w'.cell? ⟨bl, ol, none⟩ = some (.int .i64 (a : Int)) ∧ w'.cell? ⟨bl, ol + (c + 1), none⟩ = some (.int .i64 (x : Int)) ∧ w'.cell? ⟨gd, od + a, none⟩ = some (.slice (some ⟨gr, orr, none⟩) rl cr) ∧ w'.cell? ⟨gr, orr + x, none⟩ = some (.int .i64 ev))
                (first | go_keep | exact ⟨d0, d1, d2, d3⟩)
                (first | (go_at_call 20; refine (Hcall.out _ (by first | exact (Below.refl _ _).drew | exact Below.refl _ _)).mono ?_; rintro e w9 ⟨rfl, hb9⟩; have hcur : Below wr.heap.size wr w9 := uppM (by first | exact (Below.refl _ _).drew | exact Below.refl _ _) hb9; have d0 := below_cell hcur c0; have d1 := below_cell hcur cx; have d2 := below_cell hcur cRow; have d3 := below_cell hcur cVal))
              have Hend := Lib.hid (uppM Hbw.out hcur)
              clear c0 cx cRow cVal d0 d1 d2 d3 hcur hb9
              by_cases hneg : best < 0
              · go_wp2
                go_roundg (m - (c + 1))
                case measure => go_light; omega
                case rel => exact ⟨c + 1, by omega, rfl, by go_num, by rw [Hsu.out, if_pos (.inl (by first | exact hneg | omega))], Hend.out⟩
              · by_cases hless : ev + mv < best
                · go_wp2
                  go_roundg (m - (c + 1))
                  case measure => go_light; omega
                  case rel => exact ⟨c + 1, by omega, rfl, by go_num, by rw [Hsu.out, if_pos (.inr (by first | exact hless | omega))], Hend.out⟩
                · go_wp2
                  go_roundg (m - (c + 1))
                  case measure => go_light; omega
                  case rel => exact ⟨c + 1, by omega, rfl, by go_num, by rw [Hsu.out, if_neg (by omega)], Hend.out⟩
        · obtain rfl : c = m := by omega
          clear hb
          go_wp2
          exact bodyPost_ret (v := .int .i64 best) (by simp [results, Try.results20, go_sem]) rfl ⟨by rw [Hfin.out, Hbest.out], Hb.out⟩
end Go.Proofs.Ytnmljgjegodkaaa
