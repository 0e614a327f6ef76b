/- colour.edger: edge. -/
import Derived.Test.YtnhhohhhpaejmaaDoorTurW
namespace Go.Proofs.YtnhhohhhpaejmaaDoor
open Go Go.RowKit

section
variable {N D XB b : Nat} {R : Nat → Nat} {G : Nat → Nat → Bool} {C : Nat → Nat → Nat} {w : World}
theorem FirstC.uniq {v c c' : Nat} (h : FirstC N C v c) (k : FirstC N C v c') : c = c' := by
  rcases Nat.lt_trichotomy c c' with e | e | e
  · exact absurd h.free (k.least c h.pos e)
  · exact e
  · exact absurd k.free (h.least c' k.pos e)
theorem first_ex (N : Nat) (C : Nat → Nat → Nat) (v : Nat) : ∃ c, FirstC N C v c := by
  have key : ∀ n, (∃ c, c ≤ n ∧ FirstC N C v c) ∨ ∀ k, 1 ≤ k → k ≤ n → ¬ FreeC N C v k := by
    intro n
    induction n with
    | zero => exact .inr fun k h1 h2 => by omega
    | succ n ih =>
      rcases ih with ⟨c, hc, h⟩ | h
      · exact .inl ⟨c, by omega, h⟩
      · by_cases e : FreeC N C v (n + 1)
        · exact .inl ⟨n + 1, Nat.le_refl _, by omega, e, fun k h1 h2 => h k h1 (by omega)⟩
        · refine .inr fun k h1 h2 => ?_
          by_cases e2 : k = n + 1
          · rw [e2]; exact e
          · exact h k h1 (by omega)
  rcases key (N + 1) with ⟨c, -, h⟩ | h
  · exact ⟨c, h⟩
  · have h1 := used_le (C := C) (N := N) (v := v) (c := N + 2) fun k hk1 hk2 => h k hk1 (by omega)
    have h2 := cnt_le (fun u => decide (C v u ≠ 0 ∧ C v u < N + 2)) N
    omega
theorem efirst_is (hN : N ≤ 100) {v c : Nat} (hv : v < N) (hc : FirstC N C v c) (h : EdI w XB b N R C) :
    Calls Tryd.prog 40 #[.pointer (some ⟨XB, 0, none⟩), .int .i64 (v : Int)] w fun e w' => e = .returned (.int .i64 (c : Int)) ∧ w' = w :=
  (efirst_any hN hv h).mono fun e w' ⟨c', h1, h2, h3⟩ => by
    obtain rfl := h2.uniq hc
    exact ⟨h1, h3⟩
theorem FanI.few {v u : Nat} {F : List Nat} (h : FanI N G C v u F) : F.length ≤ N := by
  have h1 := h.room
  have h2 := cnt_le (fun u => decide (u ∈ F)) N
  omega
/-- The fan can't be made longer. -/
def FanX (N : Nat) (G : Nat → Nat → Bool) (C : Nat → Nat → Nat) (v : Nat) (F : List Nat) : Prop := ∀ z, z < N → G v z = true → C v z ≠ 0 → FreeC N C (F.getD (F.length - 1) 0) (C v z) → z ∈ F
theorem sw2_back (d c : Nat) : sw2 d c c = d := by
  unfold sw2
  by_cases e : c = d
  · rw [if_pos e, e]
  · rw [if_neg e, if_pos rfl]
/-- A node by which the fan can be made longer. -/
def EligN (N : Nat) (C : Nat → Nat → Nat) (v a : Nat) (F : List Nat) (z : Nat) : Prop := C v z ≠ 0 ∧ z ∉ F ∧ FreeC N C a (C v z)
/-- A flag: does z stand among the first p of F? -/
def InF (F : List Nat) (z p : Nat) (bb : Bool) : Prop := (bb = true → z ∈ F) ∧ (bb = false → ∀ i, i < p → F.getD i 0 ≠ z)
/-- Near lists. -/
def NearX (N : Nat) (G : Nat → Nat → Bool) (X : Nat → List Nat) : Prop := ∀ r, r < N → (X r).length ≤ 100 ∧ ∀ z, z ∈ X r ↔ z < N ∧ G r z = true
/-- What one edge more comes to. -/
structure EdgP (N D : Nat) (G : Nat → Nat → Bool) (C C' : Nat → Nat → Nat) (v u : Nat) : Prop where
  col : ColI N G D C'
  nz : ∀ p q, p < N → q < N → (C p q ≠ 0 ∨ (p = v ∧ q = u) ∨ (p = u ∧ q = v)) → C' p q ≠ 0
  only : ∀ p q, p < N → q < N → C' p q ≠ 0 → C p q ≠ 0 ∨ (p = v ∧ q = u) ∨ (p = u ∧ q = v)
theorem rot_only {v n d : Nat} {F : List Nat} (hsym : ∀ a b, a < N → b < N → C a b = C b a) (hv : v < N) (hlt : ∀ i, i ≤ n → F.getD i 0 < N) (hvF : ∀ i, i ≤ n → F.getD i 0 ≠ v) (hto : FanTo N C v F n) {a b : Nat} (ha : a < N) (hb : b < N)
    (h : setC (rotC C v F n) v (F.getD n 0) d a b ≠ 0) : C a b ≠ 0 ∨ (a = v ∧ b = F.getD 0 0) ∨ (a = F.getD 0 0 ∧ b = v) := by
  have key : ∀ q, q < N → (∃ i, i ≤ n ∧ q = F.getD i 0) → C v q ≠ 0 ∨ q = F.getD 0 0 := fun q _ ⟨i, hi, e⟩ => by
    by_cases h0 : i = 0
    · subst h0; exact .inr e
    · rw [e]; exact .inl (hto i (by omega) hi).1
  have out : ∀ q, q < N → q ≠ v → (¬ ∃ i, i ≤ n ∧ q = F.getD i 0) → rotC C v F n v q = C v q := fun q _ _ hn => rot_out (fun i hi => hvF i (by omega)) fun i hi e => hn ⟨i, by omega, e⟩
  by_cases hav : a = v
  · subst hav
    by_cases hF : ∃ i, i ≤ n ∧ b = F.getD i 0
    · rcases key b hb hF with e | e
      · exact .inl e
      · exact .inr (.inl ⟨rfl, e⟩)
    · by_cases hbv : b = a
      · subst hbv
        left
        unfold setC at h
        rw [if_neg (by rintro (⟨_, e⟩ | ⟨e, _⟩); exact hvF n (Nat.le_refl _) e.symm; exact hvF n (Nat.le_refl _) e.symm), rot_out (fun i hi => hvF i (by omega)) (fun i hi e => hvF i (by omega) e.symm)] at h
        exact h
      · left
        unfold setC at h
        rw [if_neg (by rintro (⟨_, e⟩ | ⟨_, e⟩); exact hF ⟨n, Nat.le_refl _, e⟩; exact hbv e), out b hb hbv hF] at h
        exact h
  · by_cases hbv : b = v
    · subst hbv
      by_cases hF : ∃ i, i ≤ n ∧ a = F.getD i 0
      · rcases key a ha hF with e | e
        · left; rw [hsym a b ha hb]; exact e
        · exact .inr (.inr ⟨e, rfl⟩)
      · left
        unfold setC at h
        rw [if_neg (by rintro (⟨e, _⟩ | ⟨e, _⟩); exact hav e; exact hF ⟨n, Nat.le_refl _, e⟩), rot_sym (hsym a b ha hb), out a ha hav hF] at h
        rw [hsym a b ha hb]; exact h
    · left
      unfold setC at h
      rw [if_neg (by rintro (⟨e, _⟩ | ⟨_, e⟩); exact hav e; exact hbv e), rot_far hav hbv] at h
      exact h

theorem own_n {w : World} {B n m : Nat} {g c : Nat} {e : TypeId} {xs : List Value} (h : w.ownsRow B e 1 (.slice (some ⟨g, 0, none⟩) n c) n xs) (hn : n = m) : w.ownsRow B e 1 (.slice (some ⟨g, 0, none⟩) m c) m xs := by subst hn; exact h

set_option maxHeartbeats 6400000 in
set_option maxRecDepth 100000 in
theorem eedge_any {nb v u : Nat} {V : Nat → Value} {X : Nat → List Nat} (hN : N ≤ 100) (hD : D ≤ 100) (hv : v < N) (hu : u < N) (hC : ColI N G D C) (hsym : ∀ i j, i < N → j < N → G i j = G j i) (hirr : ∀ i, i < N → G i i = false) (hdeg : ∀ a, a < N → cnt (G a) N ≤ D) (hg : G v u = true) (h0 : C v u = 0)
    (hX : NearX N G X) (h : EdI w XB b N R C) (hnb : NB w nb N V X) :
    Calls Tryd.prog 20 #[.pointer (some ⟨XB, 0, none⟩), .slice (some ⟨nb, 0, none⟩) N N, .int .i64 (v : Int), .int .i64 (u : Int)] w fun e w' => e = .returned (.tuple #[]) ∧ ∃ C', EdgP N D G C C' v u ∧ EdI w' XB b N R C' ∧ Chg (RowB R N) w w' := by
  have H := Lib.hid h; have HC := Lib.hid hC; have Hnb := Lib.hid hnb; have HX := Lib.hid (hX v hv)
  have HR := Lib.hid (fun i hi => h.lt (i := i) hi)
  obtain ⟨na, nc, hV⟩ := hnb.form hv
  have hnh := hnb.ro.cell hv
  rw [hV] at hnh
  have Hnh := Lib.hid hnh
  have hni := IsInts.owned (hnb.owns hv)
  rw [hV] at hni
  have Hni := Lib.hid hni
  have hxl := (hX v hv).1
  obtain ⟨xl, hxle⟩ : ∃ xl, (X v).length = xl := ⟨_, rfl⟩
  rw [hxle] at Hni Hnh hxl
  have Hxle := Lib.hid hxle
  clear h hC hnb hX hV hnh hni hxle
  go_enter Tryd.func20, Tryd.ntmps20
  go_upto_region 2 with fail
  have hown0 : (w.alloc (.cells #[.int .i64 (u : Int)] 3)).ownsRow w.heap.size 3 1 (.slice (some ⟨w.heap.size, 0, none⟩) 1 1) 1 (nvals [u]) := ⟨rfl, .inr ⟨w.heap.size, 1, #[.int .i64 (u : Int)], rfl, Nat.le_refl _, by rw [heap_alloc_new], Nat.le_refl _, by unfold maxLen; omega, rfl, rfl⟩⟩
  have Hown0 := Lib.hid hown0
  have Hb0 := Lib.hid (below1 w (.cells #[.int .i64 (u : Int)] 3))
  clear hown0
  generalize w.alloc (.cells #[.int .i64 (u : Int)] 3) = w1 at *
  go_loopg [8, 9, 10, 12, 13, 15, 16] (N + 1) (fun g s8 s9 s10 s12 s13 s15 s16 wr => ∃ (F : List Nat) (bb : Bool) (fg fc : Nat), s8 = .slice (some ⟨fg, 0, none⟩) F.length fc ∧ s9 = .bool bb ∧ FanI N G C v u F ∧ wr.ownsRow w.heap.size 3 1 (.slice (some ⟨fg, 0, none⟩) F.length fc) F.length (nvals F) ∧ Below w.heap.size w wr ∧ (bb = false → FanX N G C v F) ∧ g = if bb then N + 2 - F.length else 0)
  case atStart => exact ⟨[u], true, w.heap.size, 1, rfl, rfl, FanI.start hu hg, Hown0.out, Hb0.out, (fun h => by cases h), by simp⟩
  case round =>
    obtain ⟨F, bb, fg, fc, rfl, rfl, hF, hoF, hb, hfx, rfl⟩ := hrel
    have hlF := hF.few
    have hFne := List.length_pos_iff.2 hF.ne
    obtain ⟨n, hn⟩ : ∃ n, F.length = n := ⟨_, rfl⟩
    have hlt : ∀ i, i < n → F.getD i 0 < N := fun i hi => hF.lt i (by rw [hn]; exact hi)
    rw [hn] at hlF hFne
    have Hway := Lib.hid (fun j (hj : j < n) => show wr.cell? ⟨fg, j, none⟩ = some (.int .i64 (F.getD j 0 : Nat)) from by
      have h1 := hoF.cells (g := fg) rfl j _ (nvals_at (a := F) (i := j) (by rw [hn]; exact hj))
      rwa [Addr.add_lit, Nat.zero_add] at h1)
    have HgR := Lib.hid (show ¬ RowB R N fg from fun ⟨i, hi, e⟩ => by have := HR.out i hi; have := (hoF.lt fg rfl).1; omega)
    have HE := Lib.hid (H.out.below hb)
    have HF := Lib.hid hF; have HoF := Lib.hid hoF; have Hb := Lib.hid hb; have Hfx := Lib.hid hfx; have Hn := Lib.hid hn; have Hlt := Lib.hid hlt
    have hszb := hb.size
    rw [hn]
    clear hF hoF hb hfx hn hlt
    cases bb with
    | true =>
      have cl := Hway.out (n - 1) (by omega)
      have haN := Hlt.out (n - 1) (by omega)
      obtain ⟨a, ha⟩ : ∃ a, F.getD (n - 1) 0 = a := ⟨_, rfl⟩
      rw [ha] at cl haN
      have Ha := Lib.hid ha
      have b1 : (0 : Int) ≤ (n : Int) - 1 := by omega
      have b2 : (n : Int) - 1 < (n : Int) := by omega
      have b3 : ((n : Int) - 1).toNat = n - 1 := by omega
      have cnh := below_cell Hb.out Hnh.out
      clear ha
      go_wp2_with fail
      clear cl b1 b2 b3 cnh
      go_loopg [8, 9, 12, 13, 15, 16, 36] xl (fun g s8 s9 s12 s13 s15 s16 s36 wr2 => ∃ q : Nat, q ≤ xl ∧ g = xl - q ∧ s36 = .int .i64 (q : Int) ∧ s8 = .slice (some ⟨fg, 0, none⟩) n fc ∧ s9 = .bool false ∧ wr2 = wr ∧ ∀ p, p < q → ¬ EligN N C v a F ((X v).getD p 0))
      case atStart => exact ⟨0, Nat.zero_le _, rfl, rfl, rfl, rfl, rfl, fun p hp => absurd hp (Nat.not_lt_zero _)⟩
      case round =>
        obtain ⟨q, hq, rfl, rfl, rfl, rfl, hww, hno⟩ := hrel
        subst hww
        have Hno := Lib.hid hno
        clear hno
        by_cases hql : q < xl
        · obtain ⟨a0, c0, b0, o0, he0, -, -, hadr, -, hcell⟩ := Hni.out
          rw [ints_length, Hxle.out] at he0 hadr hcell
          obtain ⟨e1, e2⟩ : na = a0 ∧ nc = c0 := by simpa using he0
          subst e1 e2
          obtain rfl := hadr (by omega)
          have cz := below_cell Hb.out (hcell q hql)
          rw [ints_getD] at cz
          have hzX : (X v).getD q 0 < N ∧ G v ((X v).getD q 0) = true := (HX.out.2 _).1 (by rw [List.getD, List.getElem?_eq_getElem (by rw [Hxle.out]; exact hql)]; exact List.getElem_mem _)
          obtain ⟨z, hz⟩ : ∃ z, (X v).getD q 0 = z := ⟨_, rfl⟩
          rw [hz] at cz hzX
          have Hz := Lib.hid hz; have HzX := Lib.hid hzX
          clear hcell hadr he0 hz hzX
          go_wp2_with fail
          clear cz
          go_loopg [13, 15, 42] n (fun g s13 s15 s42 wr3 => ∃ (p : Nat) (bb : Bool), p ≤ n ∧ g = n - p ∧ s42 = .int .i64 (p : Int) ∧ s13 = .bool bb ∧ wr3 = wr ∧ InF F z p bb)
          case atStart => exact ⟨0, false, Nat.zero_le _, rfl, rfl, rfl, rfl, (fun h => by cases h), fun _ i hi => absurd hi (Nat.not_lt_zero _)⟩
          case round =>
            obtain ⟨p, bb, hp, rfl, rfl, rfl, hww, hin⟩ := hrel
            subst hww
            have Hin := Lib.hid hin
            clear hin
            by_cases hpl : p < n
            · have cp := Hway.out p hpl
              cases bb with
              | true =>
                go_wp2_with fail
                go_roundg (n - (p + 1))
                case measure => go_light; omega
                case rel => exact ⟨p + 1, true, by omega, rfl, by go_num, rfl, rfl, Hin.out.1, (fun h => by cases h)⟩
              | false =>
                obtain ⟨y, hy⟩ : ∃ y, F.getD p 0 = y := ⟨_, rfl⟩
                rw [hy] at cp
                by_cases hyz : y = z
                · have q1 : ((y : Int) == (z : Int)) = true := by simp [hyz]
                  have Hmem := Lib.hid (show z ∈ F from mem_getD.2 ⟨p, by rw [Hn.out]; exact hpl, hy.trans hyz⟩)
                  clear hyz hy
                  go_wp2_with fail
                  go_roundg (n - (p + 1))
                  case measure => go_light; omega
                  case rel => exact ⟨p + 1, true, by omega, rfl, by go_num, rfl, rfl, fun _ => Hmem.out, (fun h => by cases h)⟩
                · have q1 : ((y : Int) == (z : Int)) = false := by simp; omega
                  have Hne := Lib.hid (show ∀ i, i < p + 1 → F.getD i 0 ≠ z from fun i hi => by
                    by_cases e : i = p
                    · rw [e, hy]; exact hyz
                    · exact Hin.out.2 rfl i (by omega))
                  clear hyz hy
                  go_wp2_with fail
                  go_roundg (n - (p + 1))
                  case measure => go_light; omega
                  case rel => exact ⟨p + 1, false, by omega, rfl, by go_num, rfl, rfl, (fun h => by cases h), fun _ => Hne.out⟩
            · obtain rfl : p = n := by omega
              have cx := HE.out.cx
              have hd := HE.out.head v hv
              have hzN : z < N := HzX.out.1
              have cc := HE.out.cell hv hzN
              obtain ⟨c, hc⟩ : ∃ c, C v z = c := ⟨_, rfl⟩
              rw [hc] at cc
              have Hc := Lib.hid hc
              clear hc
              by_cases hc0 : c = 0
              · have q1 : ¬ ((0 : Int) < (c : Int)) := by omega
                have Hel := Lib.hid (show ∀ p, p < q + 1 → ¬ EligN N C v a F ((X v).getD p 0) from fun i hi => by
                  by_cases e : i = q
                  · rw [e, Hz.out]; intro h; exact h.1 (Hc.out.trans hc0)
                  · exact Hno.out i (by omega))
                clear hc0
                go_wp2_with fail
                go_roundg (xl - (q + 1))
                case measure => go_light; omega
                case rel => exact ⟨q + 1, by omega, rfl, by go_num, rfl, rfl, rfl, Hel.out⟩
              · have q1 : (0 : Int) < (c : Int) := by omega
                cases bb with
                | true =>
                  have Hel := Lib.hid (show ∀ p, p < q + 1 → ¬ EligN N C v a F ((X v).getD p 0) from fun i hi => by
                    by_cases e : i = q
                    · rw [e, Hz.out]; intro h; exact h.2.1 (Hin.out.1 rfl)
                    · exact Hno.out i (by omega))
                  clear hc0
                  go_wp2_with fail
                  go_roundg (xl - (q + 1))
                  case measure => go_light; omega
                  case rel => exact ⟨q + 1, by omega, rfl, by go_num, rfl, rfl, rfl, Hel.out⟩
                | false =>
                  have Hnin := Lib.hid (show z ∉ F from fun hm => by
                    obtain ⟨i, hi, e⟩ := mem_getD.1 hm
                    rw [Hn.out] at hi
                    exact Hin.out.2 rfl i hi e)
                  by_cases hfr : FreeC N C a c
                  · have Hcall := Lib.hid (efree_is hN haN HE.out true hfr)
                    have HF2 := Lib.hid (HF.out.next HzX.out.1 HzX.out.2 Hnin.out (by rw [Hc.out]; exact hc0) (by rw [Hn.out, Ha.out, Hc.out]; exact hfr))
                    clear hc0 hfr
                    go_wp2_with (first
                      | (go_at_call 39; refine Hcall.out.mono ?_; rintro e w' ⟨rfl, hww⟩; rw [hww]; clear hww)
                      | (at_builtin; refine wpList_append_has rfl (.tmp 75) (.tmp 77) 29 rfl w.heap.size 3 (.int .i64 0) 8 Tryd.underlying29 info3 rfl _ p (nvals F) rfl ((own_n HoF.out Hn.out).alloc _) _ 1 (nvals [z]) rfl (HasCells.one _ _ _ rfl) (by omega) (by omega) (by simp; omega) ?_; intro a2 c2 w2 hown2 hg2; obtain ⟨g2, k2, he2⟩ := own_some hown2; rw [he2] at hown2; obtain ⟨rfl, rfl⟩ : a2 = some ⟨g2, 0, none⟩ ∧ c2 = k2 := (by simpa using he2); have Hown2 := Lib.hid (own_len2 hown2 (nvals_append F [z]).symm); have Hb2 := Lib.hid ((Hb.out.alloc hszb (Obj.cells #[Value.int .i64 (z : Int)] 3)).grown hg2 (by rw [World.size_alloc]; omega) (fun g e => (HoF.out.lt g e).1)); clear hown2 hg2 he2))
                    go_roundg (N + 2 - (p + 1))
                    case measure => have hnn := Hn.out; go_light; omega
                    case rel =>
                      have hl2 : (F ++ [z]).length = p + 1 := by rw [List.length_append, Hn.out]; rfl
                      exact ⟨F ++ [z], true, g2, c2, by rw [hl2], rfl, HF2.out, by rw [hl2]; exact Hown2.out, Hb2.out, (fun h => by cases h), by rw [hl2]; simp⟩
                  · have Hcall := Lib.hid (efree_is hN haN HE.out false hfr)
                    have Hel := Lib.hid (show ∀ p, p < q + 1 → ¬ EligN N C v a F ((X v).getD p 0) from fun i hi => by
                      by_cases e : i = q
                      · rw [e, Hz.out]; intro h; exact hfr (by rw [← Hc.out]; exact h.2.2)
                      · exact Hno.out i (by omega))
                    clear hc0 hfr
                    go_wp2_with (go_at_call 39; refine Hcall.out.mono ?_; rintro e w' ⟨rfl, hww⟩; rw [hww]; clear hww)
                    go_roundg (xl - (q + 1))
                    case measure => go_light; omega
                    case rel => exact ⟨q + 1, by omega, rfl, by go_num, rfl, rfl, rfl, Hel.out⟩
        · obtain rfl : q = xl := by omega
          have Hfx2 := Lib.hid (show FanX N G C v F from fun z hz hgz hcz hfz => by
            have hm := (HX.out.2 z).2 ⟨hz, hgz⟩
            obtain ⟨i, hi, e⟩ := mem_getD.1 hm
            rw [Hxle.out] at hi
            by_cases hF : z ∈ F
            · exact hF
            · exact absurd ⟨by rw [e]; exact hcz, by rw [e]; exact hF, by rw [e]; rw [Hn.out, Ha.out] at hfz; exact hfz⟩ (Hno.out i hi))
          go_wp2_with fail
          go_roundg 0
          case measure => have hnn := Hn.out; go_light; omega
          case rel => exact ⟨F, false, fg, fc, by rw [Hn.out], rfl, HF.out, HoF.out, Hb.out, fun _ => Hfx2.out, by simp⟩
    | false =>
      have cl := Hway.out (n - 1) (by omega)
      have haN := Hlt.out (n - 1) (by omega)
      have hfx := Hfx.out rfl
      obtain ⟨a, ha⟩ : ∃ a, F.getD (n - 1) 0 = a := ⟨_, rfl⟩
      rw [ha] at cl haN
      have Ha := Lib.hid ha; have Hfx2 := Lib.hid hfx
      obtain ⟨c, hc⟩ := first_ex N C v
      obtain ⟨d, hd⟩ := first_ex N C a
      have hcD := HC.out.first_le hv (hdeg v hv) hc
      have hdD := HC.out.first_le haN (hdeg a haN) hd
      have Pc := Lib.hid (fun m => efirst_is hN hv hc (HE.out.below (Below.drewN' (Below.refl _ wr) m)))
      have Pd := Lib.hid (fun m => efirst_is hN haN hd (HE.out.below (Below.drewN' (Below.refl _ wr) m)))
      have Hcf := Lib.hid hc; have Hdf := Lib.hid hd
      have b1 : (0 : Int) ≤ (n : Int) - 1 := by omega
      have b2 : (n : Int) - 1 < (n : Int) := by omega
      have b3 : ((n : Int) - 1).toNat = n - 1 := by omega
      clear ha hc hd hfx
      go_wp2_with fail
      go_quiet ((first | with_reducible exact Calls.quiet_of_same (Pc.out _) | with_reducible exact Calls.quiet_of_same (Pd.out _)))
      clear cl Pc Pd b1 b2 b3
      have Ht := Lib.hid (eturn_any (x := d) (y := c) hN hv HC.out hirr Hdf.out.pos Hcf.out.pos (by omega) (by omega) Hcf.out.free (HE.out.below (Below.drewN' (Below.refl _ wr) nq)))
      go_upto_region 21 with (go_at_call 41; refine Ht.out.mono ?_; rintro e w5 ⟨rfl, P, hP, hE5, hch5⟩; have HP := Lib.hid hP; have HE5 := Lib.hid hE5; have Hch5 := Lib.hid hch5; clear hP hE5 hch5)
      clear Ht
      obtain ⟨C1, hC1⟩ : ∃ C1, C1 = turnC C d c P := ⟨_, rfl⟩
      rw [← hC1] at HE5
      have HCC := Lib.hid (show ColI N G D C1 by rw [hC1]; exact HP.out.colI HC.out Hdf.out.pos Hcf.out.pos hdD hcD Hcf.out.free)
      have hend := fan_end HC.out hv hirr HF.out h0 Hfx2.out Hcf.out.pos Hcf.out.free Hdf.out.pos (by rw [Hn.out, Ha.out]; exact Hdf.out.free) HP.out
      rw [← hC1, Hn.out] at hend
      obtain ⟨i0, hi0, hto, hfi⟩ := hend
      have hdv : FreeC N C1 v d := by
        have hvP : v ∈ P := mem_getD.2 ⟨0, List.length_pos_iff.2 HP.out.i.ne, HP.out.i.head⟩
        have h1 := (turnC_free (N := N) (C := C) (x := d) (y := c) (k := c) hvP).2 Hcf.out.free
        rw [sw2_back] at h1
        rw [hC1]; exact h1
      have hnz : ∀ p q, C p q ≠ 0 ↔ C1 p q ≠ 0 := fun p q => by
        rw [hC1]; unfold turnC
        split
        · exact not_congr (sw2_zero Hdf.out.pos Hcf.out.pos).symm
        · exact Iff.rfl
      have Hto := Lib.hid hto; have Hfi := Lib.hid hfi; have Hdv := Lib.hid hdv; have Hnz := Lib.hid hnz
      have Hway5 := Lib.hid (fun j (hj : j < n) => hway_chg Hch5.out (show (wr.drewN nq).cell? ⟨fg, j, none⟩ = some (.int .i64 (F.getD j 0 : Nat)) from Hway.out j hj) HgR.out)
      have Hch0 := Lib.hid (((Chg.ofBelow (S := RowB R N) Hb.out).drewN nq).trans Hch5.out)
      clear hto hfi hdv hnz hC1 HP Hch5 Hway Hfx2 HoF Hb
      go_wp2
      go_loopg [19, 20, 98] n (fun g s19 s20 s98 wr => ∃ j mm : Nat, j ≤ n ∧ g = n - j ∧ s98 = .int .i64 (j : Int) ∧ s19 = .int .i64 0 ∧ wr = w5.drewN mm ∧ ∀ p, p < j → ¬ FreeC N C1 (F.getD p 0) d)
      case atStart => exact ⟨0, 0, Nat.zero_le _, rfl, rfl, rfl, rfl, fun p hp => absurd hp (Nat.not_lt_zero _)⟩
      case round =>
        obtain ⟨j, mm, hj, rfl, rfl, rfl, rfl, hno⟩ := hrel
        have hji : j ≤ i0 := by
          rcases Nat.lt_or_ge i0 j with e | e
          · exact absurd Hfi.out (hno i0 e)
          · exact e
        have Hno := Lib.hid hno
        clear hno
        have hjn : j < n := by omega
        have cj := Hway5.out j hjn
        have hjN := Hlt.out j hjn
        have hfan : 0 < j → C1 v (F.getD j 0) ≠ 0 ∧ FreeC N C1 (F.getD (j - 1) 0) (C1 v (F.getD j 0)) := fun h => Hto.out j h hji
        obtain ⟨p1, hp1⟩ : ∃ p1, F.getD j 0 = p1 := ⟨_, rfl⟩
        rw [hp1] at cj hjN hfan
        have Hp1 := Lib.hid hp1
        clear hp1
        go_wp2_with fail
        go_cut [141] from 101 to 141 (fun s141 wx => s141 = .bool false ∧ ∃ m2 : Nat, wx = w5.drewN m2)
        case first =>
          by_cases hj0 : j = 0
          · subst hj0
            clear hfan
            go_quiet (fail)
            go_wp2_with fail
            go_meet
            exact ⟨rfl, mm + nq, World.drewN_drewN ..⟩
          · have hj1 : 0 < j := by omega
            obtain ⟨hk0, hkf⟩ := hfan hj1
            have hbd : Below w5.heap.size w5 (w5.drewN mm) := Below.drewN' (Below.refl _ w5) mm
            have HE6 := Lib.hid (HE5.out.below hbd)
            have ck := HE6.out.cell hv hjN
            have cj := below_cell hbd cj
            have cj2 := below_cell hbd (Hway5.out (j - 1) (by omega))
            have hj2N := Hlt.out (j - 1) (by omega)
            have cx := HE6.out.cx
            have hd := HE6.out.head v hv
            clear hbd
            generalize hw6 : w5.drewN mm = w6 at *
            have Hw6 := Lib.hid hw6
            clear hw6
            obtain ⟨p2, hp2⟩ : ∃ p2, F.getD (j - 1) 0 = p2 := ⟨_, rfl⟩
            rw [hp2] at cj2 hj2N hkf
            obtain ⟨k, hk⟩ : ∃ k, C1 v p1 = k := ⟨_, rfl⟩
            rw [hk] at ck hk0 hkf
            have Pf := Lib.hid (fun m => efree_is hN hj2N (HE6.out.below (Below.drewN' (Below.refl _ w6) m)) true hkf)
            have b1 : (0 : Int) < (j : Int) := by omega
            have b2 : (0 : Int) ≤ (j : Int) - 1 := by omega
            have b3 : (j : Int) - 1 < (n : Int) := by omega
            have b4 : ((j : Int) - 1).toNat = j - 1 := by omega
            have b5 : (0 : Int) < (k : Int) := by omega
            have b6 : 0 < k := by omega
            have b7 : (1 : Int) ≤ (j : Int) := by omega
            have b8 : (j : Int) ≤ (n : Int) := by omega
            have b9 : 1 ≤ j := hj1
            have c1 : IntKind.i64.wrap ((j : Int) - 1) = ((j : Int) - 1) := by rw [show (j : Int) - 1 = ((j - 1 : Nat) : Int) by omega]; exact wrap_nat (by omega)
            clear hk hkf hp2 hk0 hfan hj0
            go_quiet (with_reducible exact Calls.quiet_of_same (Pf.out _))
            go_wp2_with fail
            go_meet
            exact ⟨rfl, mm + nq, by rw [← Hw6.out]; exact World.drewN_drewN ..⟩
        case rest =>
          obtain ⟨rfl, m2, rfl⟩ := hcut
          have cj3 := Hway5.out j hjn
          rw [Hp1.out] at cj3
          clear hfan
          by_cases hfr : FreeC N C1 p1 d
          · have Hcall := Lib.hid (efree_is hN hjN (HE5.out.below (Below.drewN' (Below.refl _ w5) m2)) true hfr)
            have Hfr := Lib.hid hfr
            have HtoJ := Lib.hid (show FanTo N C1 v F j from fun p h1 h2 => Hto.out p h1 (by omega))
            clear hfr
            go_wp2_with (go_at_call 39; refine Hcall.out.mono ?_; rintro e w' ⟨rfl, hww⟩; rw [hww]; clear hww)
            go_loopg [21, 152] j (fun g s21 s152 wr => ∃ i : Nat, i ≤ j ∧ g = j - i ∧ s152 = .int .i64 (i : Int) ∧ EdI wr XB b N R (rotC C1 v F i) ∧ Chg (RowB R N) w5 wr)
            case atStart => exact ⟨0, Nat.zero_le _, rfl, rfl, HE5.out.below (Below.drewN' (Below.refl _ _) _), (Chg.refl _ _).drewN _⟩
            case round =>
              obtain ⟨i, hi, rfl, rfl, hE, hch⟩ := hrel
              have HEi := Lib.hid hE; have Hchi := Lib.hid hch
              clear hE hch
              have vF : ∀ q, q < n → F.getD q 0 ≠ v := fun q hq e => by
                have h1 := HF.out.near q (by rw [Hn.out]; exact hq)
                rw [e, hirr v hv] at h1; cases h1
              have VF := Lib.hid vF
              clear vF
              by_cases hil : i < j
              · have c1 := hway_chg Hchi.out (Hway5.out i (by omega)) HgR.out
                have c2 := hway_chg Hchi.out (Hway5.out (i + 1) (by omega)) HgR.out
                have hiN := Hlt.out i (by omega)
                have hi2N := Hlt.out (i + 1) (by omega)
                have cx := HEi.out.cx
                have hd := HEi.out.head v hv
                have ce := HEi.out.cell hv hi2N
                rw [rot_out (fun q hq => VF.out q (by omega)) (fun q hq => HF.out.nodup (i + 1) q (by rw [Hn.out]; omega) (by omega))] at ce
                have hne : F.getD (i + 1) 0 ≠ F.getD i 0 := HF.out.nodup (i + 1) i (by rw [Hn.out]; omega) (Nat.lt_succ_self _)
                have hvn : v ≠ F.getD i 0 := fun e => VF.out i (by omega) e.symm
                have Hset := Lib.hid (fun W (hW : EdI W XB b N R (rotC C1 v F i)) => eset_any (k := C1 v (F.getD (i + 1) 0)) hN hv hiN hvn hW)
                have Hsc := Lib.hid (fun W (hW : EdI W XB b N R (setC (rotC C1 v F i) v (F.getD i 0) (C1 v (F.getD (i + 1) 0)))) => show W.cell? ⟨R v, F.getD (i + 1) 0, none⟩ = some (.int .i64 (C1 v (F.getD (i + 1) 0) : Nat)) from by
                  have h1 := hW.cell hv hi2N
                  rw [show setC (rotC C1 v F i) v (F.getD i 0) (C1 v (F.getD (i + 1) 0)) v (F.getD (i + 1) 0) = C1 v (F.getD (i + 1) 0) by
                    unfold setC
                    rw [if_neg (by rintro (⟨_, e⟩ | ⟨e, _⟩); exact hne e; exact hvn e), rot_out (fun q hq => VF.out q (by omega)) (fun q hq => HF.out.nodup (i + 1) q (by rw [Hn.out]; omega) (by omega))]] at h1
                  exact h1)
                generalize hq1 : F.getD i 0 = q1 at *
                generalize hq2 : F.getD (i + 1) 0 = q2 at *
                generalize hkk : C1 v q2 = kk at *
                have Hq := Lib.hid (And.intro hq1 (And.intro hq2 hkk))
                have b1 : (0 : Int) ≤ (i : Int) := by omega
                have b2 : (i : Int) < (n : Int) := by omega
                have b3 : (i : Int) + 1 < (n : Int) := by omega
                have b4 : (0 : Int) ≤ (i : Int) + 1 := by omega
                have b6 : ((i : Int) + 1).toNat = i + 1 := by omega
                have b7 : IntKind.i64.wrap ((i : Int) + 1) = (i : Int) + 1 := by rw [show (i : Int) + 1 = ((i + 1 : Nat) : Int) by omega]; exact wrap_nat (by omega)
                have b8 : (q2 : Int) < (N : Int) := by omega
                have b9 : (0 : Int) ≤ (q2 : Int) := by omega
                have b10 : (v : Int) < (N : Int) := by omega
                have b11 : (0 : Int) ≤ (v : Int) := by omega
                clear hq1 hq2 hkk hne hvn
                obtain ⟨wp, rfl⟩ : ∃ wp : World, wp = wr := ⟨_, rfl⟩
                go_wp2_with fail
                go_region_held3 (fun w' => w'.cell? ⟨fg, i, none⟩ = some (.int .i64 (q1 : Int)) ∧ w'.cell? ⟨fg, i + 1, none⟩ = some (.int .i64 (q2 : Int)) ∧ w'.cell? ⟨XB, 0, none⟩ = some (.slice (some ⟨b, 0, none⟩) N N) ∧ w'.cell? ⟨b, v, none⟩ = some (.slice (some ⟨R v, 0, none⟩) N N) ∧ w'.cell? ⟨R v, q2, none⟩ = some (.int .i64 (kk : Int)))
                  (first | exact ⟨c1, c2, cx, hd, ce⟩ | exact ⟨d1, d2, d3, d4, d5⟩ | fail)
                  (first | (go_at_call 42; refine (Hset.out _ (HEi.out.below (Below.refl _ _).drew)).mono ?_; rintro e wS ⟨rfl, hE', hch'⟩; have d1 := hway_chg hch' c1 HgR.out; have d2 := hway_chg hch' c2 HgR.out; have d3 := hE'.cx; have d4 := hE'.head v hv; have d5 := Hsc.out _ hE'; have HE' := Lib.hid hE'; have Hch' := Lib.hid (Hchi.out.drew.trans hch'); clear hE' hch'))
                rename_i hheld
                clear hheld c1 c2
                go_wp2_with fail
                go_roundg (j - (i + 1))
                case measure => go_light; omega
                case rel => exact ⟨i + 1, by omega, rfl, by go_num, by rw [rotC, Hq.out.1, Hq.out.2.1, Hq.out.2.2]; exact HE'.out, Hch'.out⟩
              · obtain rfl : i = j := by omega
                have c1 := hway_chg Hchi.out (Hway5.out i hjn) HgR.out
                rw [Hp1.out] at c1
                have hvn : v ≠ p1 := fun e => VF.out i hjn (by rw [Hp1.out]; exact e.symm)
                have Hset := Lib.hid (eset_any (k := d) hN hv hjN hvn HEi.out)
                have hfin := rot_colI (n := i) HCC.out hsym hirr hv HF.out.nodup HF.out.lt HF.out.near (by rw [Hn.out]; exact hjn) HtoJ.out Hdf.out.pos hdD Hdv.out (by rw [Hp1.out]; exact Hfr.out)
                rw [Hp1.out, HF.out.head] at hfin
                have honly := fun p q (hp : p < N) (hq : q < N) => rot_only (C := C1) (F := F) (n := i) (d := d) HCC.out.sym hv (fun q hq => Hlt.out q (by omega)) (fun q hq => VF.out q (by omega)) HtoJ.out (a := p) (b := q) hp hq
                rw [Hp1.out, HF.out.head] at honly
                have Hfin := Lib.hid hfin; have Honly := Lib.hid honly
                clear hvn hfin honly hil
                go_wp2_with (go_at_call 42; refine Hset.out.mono ?_; rintro e wS ⟨rfl, hE', hch'⟩; have HE' := Lib.hid hE'; have Hch' := Lib.hid hch'; clear hE' hch')
                go_end0
                refine ⟨rfl, _, ⟨Hfin.out.1, fun p q hp hq hpq => Hfin.out.2 p q hp hq ?_, fun p q hp hq hpq => ?_⟩, HE'.out, (Hch0.out.trans Hchi.out).trans Hch'.out⟩
                · rcases hpq with e | e
                  · exact .inl ((Hnz.out p q).1 e)
                  · exact .inr e
                · rcases Honly.out p q hp hq hpq with e | e
                  · exact .inl ((Hnz.out p q).2 e)
                  · exact .inr e
          · have Hcall := Lib.hid (efree_is hN hjN (HE5.out.below (Below.drewN' (Below.refl _ w5) m2)) false hfr)
            have Hno2 := Lib.hid (show ∀ p, p < j + 1 → ¬ FreeC N C1 (F.getD p 0) d from fun p hp => by
              by_cases e : p = j
              · rw [e, Hp1.out]; exact hfr
              · exact Hno.out p (by omega))
            clear hfr
            go_wp2_with (go_at_call 39; refine Hcall.out.mono ?_; rintro e w' ⟨rfl, hww⟩; rw [hww]; clear hww)
            go_roundg (n - (j + 1))
            case measure => go_light; omega
            case rel => exact ⟨j + 1, m2, by omega, rfl, by go_num, rfl, rfl, Hno2.out⟩
end
end Go.Proofs.YtnhhohhhpaejmaaDoor
