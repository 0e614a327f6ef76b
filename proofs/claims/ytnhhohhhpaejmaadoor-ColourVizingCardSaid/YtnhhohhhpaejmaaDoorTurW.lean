/- colour.edger: turn. -/
import Derived.Test.YtnhhohhhpaejmaaDoorVizW
import Derived.Test.YtnhhohhhpaejmaaDoorPA
import Derived.Test.YtnhhohhhpaejmaaDoorPE
import Derived.Test.YtnhhohhhpaejmaaDoorPD
namespace Go.Proofs.YtnhhohhhpaejmaaDoor
open Go Go.RowKit

section
variable {N D XB b : Nat} {R : Nat → Nat} {G : Nat → Nat → Bool} {C : Nat → Nat → Nat} {w : World}
theorem TwoI.few {v x y : Nat} {P : List Nat} (h : TwoI N C v x y P) : P.length ≤ N := by
  refine nodup_lt N P ?_ fun a ha => ?_
  · rw [List.nodup_iff_pairwise_ne, List.pairwise_iff_getElem]
    intro i j hi hj hij e
    have := h.nodup j i hj hij
    simp only [List.getD, List.getElem?_eq_getElem hi, List.getElem?_eq_getElem hj, Option.getD_some] at this
    exact this e.symm
  · obtain ⟨i, hi, rfl⟩ := mem_getD.1 ha
    exact h.lt i hi
/-- The edge by which the way has come has not the colour by which it goes on. -/
theorem TwoI.noback {v x y a : Nat} {P : List Nat} (hC : ColI N G D C) (hx : 1 ≤ x) (hy : 1 ≤ y) (hf : FreeC N C v y) (h : TwoI N C v x y (P ++ [a])) (hl : 0 < P.length) (hk : C a (P.getD (P.length - 1) 0) = altC x y P.length) : False := by
  have hlen : (P ++ [a]).length = P.length + 1 := by simp
  have e1 := h.on (P.length - 1) (by omega)
  rw [show P.length - 1 + 1 = P.length by omega, getD_snoc, getD_snoc_lt (by omega)] at e1
  have l1 := h.lt (P.length - 1) (by omega)
  rw [getD_snoc_lt (by omega)] at l1
  have l2 := h.lt P.length (by omega)
  rw [getD_snoc] at l2
  rw [hC.sym _ _ l2 l1, e1] at hk
  have hxy : x = y := by
    unfold altC at hk
    rcases Nat.mod_two_eq_zero_or_one P.length with e | e
    · have : (P.length - 1) % 2 = 1 := by omega
      simp [e, this] at hk; exact hk.symm
    · have : (P.length - 1) % 2 = 0 := by omega
      simp [e, this] at hk; exact hk
  subst hxy
  have e2 := h.on 0 (by omega)
  rw [h.head] at e2
  have l3 := h.lt 1 (by omega)
  exact hf _ l3 (e2.trans (by unfold altC; simp))
/-- What the search for the next node has found. -/
def NxtI (N : Nat) (C : Nat → Nat → Nat) (a k j : Nat) (z : Int) : Prop := (z = -1 ∧ ∀ u, u < j → C a u ≠ k) ∨ ∃ u : Nat, z = (u : Int) ∧ u < N ∧ C a u = k
theorem NxtI.step {a k j : Nat} {z : Int} (h : NxtI N C a k j z) (hn : C a j ≠ k) : NxtI N C a k (j + 1) z := by
  rcases h with ⟨h1, h2⟩ | h
  · exact .inl ⟨h1, fun u hu => by
      by_cases e : u = j
      · rw [e]; exact hn
      · exact h2 u (by omega)⟩
  · exact .inr h
theorem altC_int (x y i : Nat) : ((x : Int) + (y : Int) - (altC x y i : Int)) = (altC x y (i + 1) : Int) := by
  unfold altC
  rcases Nat.mod_two_eq_zero_or_one i with e | e
  · have : (i + 1) % 2 = 1 := by omega
    simp [e, this]; omega
  · have : (i + 1) % 2 = 0 := by omega
    simp [e, this]

theorem own_some {w : World} {base : Nat} {e : TypeId} {v : Value} {n : Nat} {xs : List Value} (h : w.ownsRow base e 1 v (n + 1) xs) : ∃ g c, v = .slice (some ⟨g, 0, none⟩) (n + 1) c := by
  rcases h.2 with ⟨-, h0⟩ | ⟨g, cap, cur, rfl, -⟩
  · omega
  · exact ⟨g, cap, rfl⟩
theorem own_len2 {w : World} {B n : Nat} {e : TypeId} {v : Value} {xs ys : List Value} (h : w.ownsRow B e 1 v n xs) (hx : xs = ys) : w.ownsRow B e 1 v n ys := by subst hx; exact h

theorem eset_zero (hN : N ≤ 100) {x y : Nat} (hx : x < N) (hy : y < N) (hxy : x ≠ y) (h : EdI w XB b N R C) :
    Calls Tryd.prog 42 #[.pointer (some ⟨XB, 0, none⟩), .int .i64 (x : Int), .int .i64 (y : Int), .int .i64 0] w fun e w' => e = .returned (.tuple #[]) ∧ EdI w' XB b N R (setC C x y 0) ∧ Chg (RowB R N) w w' := eset_any (k := 0) hN hx hy hxy h
theorem hway_chg {S : Nat → Prop} {w w' : World} {g j : Nat} {u : Value} (h : Chg S w w') (hc : w.cell? ⟨g, j, none⟩ = some u) (hg : ¬ S g) : w'.cell? ⟨g, j, none⟩ = some u := h.cell hc hg

set_option maxHeartbeats 6400000 in
set_option maxRecDepth 100000 in
theorem eturn_any (hN : N ≤ 100) {v x y : Nat} (hv : v < N) (hC : ColI N G D C) (hirr : ∀ i, i < N → G i i = false) (hx : 1 ≤ x) (hy : 1 ≤ y) (hx1 : x ≤ 1000) (hy1 : y ≤ 1000) (hf : FreeC N C v y) (h : EdI w XB b N R C) :
    Calls Tryd.prog 41 #[.pointer (some ⟨XB, 0, none⟩), .int .i64 (v : Int), .int .i64 (x : Int), .int .i64 (y : Int)] w fun e w' => e = .returned (.tuple #[]) ∧ ∃ P, TwoE N C v x y P ∧ EdI w' XB b N R (turnC C x y P) ∧ Chg (RowB R N) w w' := by
  have H := Lib.hid h; have HC := Lib.hid hC; have Hf := Lib.hid hf
  have HR := Lib.hid (fun i hi => h.lt (i := i) hi)
  clear h hC hf
  go_enter Tryd.func41, Tryd.ntmps41
  go_wp2
  go_loopg [8, 9, 10, 11] (N + 1) (fun g s8 s9 s10 s11 wr => ∃ (P : List Nat) (a : Nat), g = N + 1 - P.length ∧ wr.ownsRow w.heap.size 3 1 s8 P.length (nvals P) ∧ s9 = .int .i64 (a : Int) ∧ s10 = .int .i64 (altC x y P.length : Int) ∧ TwoI N C v x y (P ++ [a]) ∧ Below w.heap.size w wr)
  case atStart => exact ⟨[], v, rfl, World.ownsRow_nil _ _ _ _, rfl, rfl, TwoI.start hv, Below.refl _ _⟩
  case round =>
    obtain ⟨P, a, rfl, ho, rfl, rfl, hI, hb⟩ := hrel
    obtain ⟨p0, pc, rfl⟩ := ownsRow_form ho
    have hfew := hI.few
    rw [List.length_append, List.length_singleton] at hfew
    have ha : a < N := by have := hI.lt P.length (by simp); rwa [getD_snoc] at this
    have hsz := hb.size
    have Ho := Lib.hid ho; have HI := Lib.hid hI; have Hb := Lib.hid hb
    obtain ⟨q, hq⟩ : ∃ q, P.length = q := ⟨_, rfl⟩
    rw [hq] at hfew Ho ⊢
    have Hq := Lib.hid hq
    obtain ⟨k, hk⟩ : ∃ k, altC x y q = k := ⟨_, rfl⟩
    rw [hk]
    have Hk := Lib.hid hk
    have hk2 : k ≤ 1000 := by rw [← hk]; rcases altC_or x y q with e | e <;> omega
    clear ho hI hb hq hk
    obtain ⟨wo, rfl⟩ : ∃ wo : World, wo = wr := ⟨_, rfl⟩
    go_upto_region 4 with (at_builtin; refine wpList_append_has rfl (.tmp 25) (.tmp 27) 29 rfl w.heap.size 3 (.int .i64 0) 8 Tryd.underlying29 info3 rfl _ q (nvals P) rfl (Ho.out.alloc _) _ 1 (nvals [a]) rfl (HasCells.one _ _ _ rfl) (by omega) (by omega) (by simp; omega) ?_; intro a2 c2 w2 hown2 hg2; obtain ⟨g2, k2, he2⟩ := own_some hown2; rw [he2] at hown2; obtain ⟨rfl, rfl⟩ : a2 = some ⟨g2, 0, none⟩ ∧ c2 = k2 := (by simpa using he2); have Hown2 := Lib.hid (own_len2 hown2 (nvals_append P [a]).symm); have Hb2 := Lib.hid ((Hb.out.alloc hsz (Obj.cells #[Value.int .i64 (a : Int)] 3)).grown hg2 (by rw [World.size_alloc]; omega) (fun g e => (Ho.out.lt g e).1)); clear hown2 hg2 he2)
    obtain ⟨w2', rfl⟩ : ∃ W : World, W = w2 := ⟨_, rfl⟩
    have HE2 := Lib.hid (H.out.below Hb2.out)
    have cx := HE2.out.cx
    have hd := HE2.out.head a ha
    have Hrow := Lib.hid (fun j (hj : j < N) => HE2.out.cell ha hj)
    have hsz2 := Hb2.out.size
    have Hway := Lib.hid (fun j (hj : j < q + 1) => show w2'.cell? ⟨g2, j, none⟩ = some (.int .i64 ((P ++ [a]).getD j 0 : Nat)) from by
      have h1 := Hown2.out.cells (g := g2) rfl j _ (nvals_at (a := P ++ [a]) (i := j) (by rw [List.length_append, Hq.out]; exact hj))
      rwa [Addr.add_lit, Nat.zero_add] at h1)
    have hgR : ¬ RowB R N g2 := fun ⟨i, hi, e⟩ => by have := HR.out i hi; have := (Hown2.out.lt g2 rfl).1; omega
    have HgR := Lib.hid hgR
    clear Ho Hb hgR
    go_wp2
    go_loopg [11, 12, 13, 37] N (fun g s11 s12 s13 s37 wr3 => ∃ (j : Nat) (z : Int), j ≤ N ∧ g = N - j ∧ s37 = .int .i64 (j : Int) ∧ s11 = .int .i64 z ∧ w2' = wr3 ∧ NxtI N C a k j z)
    case atStart => exact ⟨0, -1, Nat.zero_le _, rfl, rfl, rfl, rfl, .inl ⟨rfl, fun u hu => absurd hu (Nat.not_lt_zero _)⟩⟩
    case round =>
      obtain ⟨j, z, hj, rfl, rfl, rfl, rfl, hz⟩ := hrel
      have Hz := Lib.hid hz
      clear hz
      by_cases hjl : j < N
      · have cj := Hrow.out j hjl
        by_cases he : C a j = k
        · have q1 : ((C a j : Int) == (k : Int)) = true := by simp [he]
          have Hnx := Lib.hid (show NxtI N C a k (j + 1) (j : Int) from .inr ⟨j, rfl, hjl, he⟩)
          by_cases hq0 : q = 0
          · have q2 : ((q : Int) + 1 < 2) := by omega
            clear he
            generalize C a j = m at *
            go_wp2
            go_roundg (N - (j + 1))
            case measure => go_light; omega
            case rel => exact ⟨j + 1, (j : Int), by omega, rfl, by go_num, rfl, rfl, Hnx.out⟩
          · have q2 : ¬ ((q : Int) + 1 < 2) := by omega
            have cb := Hway.out (q - 1) (by omega)
            have hnb : j ≠ P.getD (q - 1) 0 := fun e => HI.out.noback HC.out hx hy Hf.out (by rw [Hq.out]; omega) (by rw [Hq.out, ← e, he]; exact Hk.out.symm)
            rw [getD_snoc_lt (by rw [Hq.out]; omega)] at cb
            have hqi : ((q : Int) + 1 - 2).toNat = q - 1 := by omega
            have hqj : (0 : Int) ≤ (q : Int) + 1 - 2 := by omega
            clear he
            generalize P.getD (q - 1) 0 = pb at *
            generalize C a j = m at *
            have q3 : ((j : Int) == (pb : Int)) = false := by simp; omega
            have q4 : ((j : Int) != (pb : Int)) = true := by simp; omega
            go_wp2
            go_roundg (N - (j + 1))
            case measure => go_light; omega
            case rel => exact ⟨j + 1, (j : Int), by omega, rfl, by go_num, rfl, rfl, Hnx.out⟩
        · have q1 : ((C a j : Int) == (k : Int)) = false := by simp; omega
          have Hnx := Lib.hid (Hz.out.step he)
          clear he
          generalize C a j = m at *
          go_wp2
          go_roundg (N - (j + 1))
          case measure => go_light; omega
          case rel => exact ⟨j + 1, z, by omega, rfl, by go_num, rfl, rfl, Hnx.out⟩
      · obtain rfl : j = N := by omega
        have hQl : (P ++ [a]).length = q + 1 := by rw [List.length_append, Hq.out]; rfl
        have HQl := Lib.hid hQl
        clear hQl
        rcases Hz.out with ⟨rfl, hno⟩ | ⟨u, rfl, huN, hu⟩
        · have HT := Lib.hid (show TwoE j C v x y (P ++ [a]) from ⟨HI.out, fun u hu => by
            rw [HQl.out, show q + 1 - 1 = P.length by rw [Hq.out]; omega, getD_snoc, Hq.out, Hk.out]
            exact hno u hu⟩)
          have hdist : ∀ i, i < q → (P ++ [a]).getD i 0 ≠ (P ++ [a]).getD (i + 1) 0 := fun i hi e => HT.out.i.nodup (i + 1) i (by rw [HQl.out]; omega) (Nat.lt_succ_self _) e.symm
          have hltQ : ∀ i, i < q + 1 → (P ++ [a]).getD i 0 < j := fun i hi => HT.out.i.lt i (by rw [HQl.out]; exact hi)
          have HQ := Lib.hid (And.intro hdist hltQ)
          clear hno Hz hdist hltQ cx hd HI Hrow
          go_wp2
          go_loopg [14, 15] q (fun g s14 s15 wr => ∃ i : Nat, i ≤ q ∧ g = q - i ∧ s14 = .int .i64 ((i : Int) + 1) ∧ s15 = .int .i64 (altC x y i : Int) ∧ EdI wr XB b j R (setW C (P ++ [a]) (fun _ => 0) i) ∧ Chg (RowB R j) w2' wr)
          case atStart => exact ⟨0, Nat.zero_le _, rfl, rfl, rfl, HE2.out, Chg.refl _ _⟩
          case round =>
            obtain ⟨i, hi, rfl, rfl, rfl, hE, hch⟩ := hrel
            have HE := Lib.hid hE; have Hch := Lib.hid hch
            have ha2 : altC x y i ≤ 1000 := by rcases altC_or x y i with e | e <;> omega
            have hal := altC_int x y i
            have Hal := Lib.hid hal
            clear hE hch hal
            by_cases hil : i < q
            · have c1 := hway_chg Hch.out (Hway.out i (by omega)) HgR.out
              have c2 := hway_chg Hch.out (Hway.out (i + 1) (by omega)) HgR.out
              have Hset := Lib.hid (fun W (hW : EdI W XB b j R (setW C (P ++ [a]) (fun _ => 0) i)) => eset_zero hN (HQ.out.2 i (by omega)) (HQ.out.2 (i + 1) (by omega)) (HQ.out.1 i hil) hW)
              generalize hp1 : (P ++ [a]).getD i 0 = p1 at *
              generalize hp2 : (P ++ [a]).getD (i + 1) 0 = p2 at *
              have Hp := Lib.hid (And.intro hp1 hp2)
              clear hp1 hp2
              generalize altC x y i = ai at *
              obtain ⟨wp, rfl⟩ : ∃ wp : World, wp = wr := ⟨_, rfl⟩
              have b1 : (0 : Int) ≤ (i : Int) := by omega
              have b2 : (i : Int) < (q : Int) + 1 := by omega
              have b3 : (i : Int) + 1 < (q : Int) + 1 := by omega
              have b4 : (0 : Int) ≤ (i : Int) + 1 := by omega
              have b5 : (i : Int) < (q : Int) := by omega
              have b6 : ((i : Int) + 1).toNat = i + 1 := by omega
              have b7 : IntKind.i64.wrap ((i : Int) + 1 - 1) = (i : Int) := by rw [show (i : Int) + 1 - 1 = (i : Int) by omega]; exact wrap_nat (by omega)
              have b8 : IntKind.i64.wrap (i : Int) = (i : Int) := wrap_nat (by omega)
              have b9 : (i : Int) + 1 - 1 = (i : Int) := by omega
              go_wp2
              go_region_held3 (fun w' => w'.cell? ⟨g2, i, none⟩ = some (.int .i64 (p1 : Int)) ∧ w'.cell? ⟨g2, i + 1, none⟩ = some (.int .i64 (p2 : Int))) (first | exact ⟨c1, c2⟩ | exact ⟨d1, d2⟩ | fail)
                (first | (go_at_call 42; refine (Hset.out _ (HE.out.below (Below.refl _ _).drew)).mono ?_; rintro e wS ⟨rfl, hE', hch'⟩; have d1 := hway_chg hch' c1 HgR.out; have d2 := hway_chg hch' c2 HgR.out; have HE' := Lib.hid hE'; have Hch' := Lib.hid (Hch.out.drew.trans hch'); clear hE' hch'))
              rename_i hheld
              clear hheld c1 c2
              go_wp2
              go_roundg (q - (i + 1))
              case measure => go_light; omega
              case rel => exact ⟨i + 1, by omega, rfl, by go_num, by rw [Hal.out], by rw [setW, Hp.out.1, Hp.out.2]; exact HE'.out, Hch'.out⟩
            · obtain rfl : i = q := by omega
              obtain ⟨w3, rfl⟩ : ∃ W : World, W = wr := ⟨_, rfl⟩
              clear hil
              go_wp2
              go_loopg [16, 17] i (fun g s16 s17 wr => ∃ p : Nat, p ≤ i ∧ g = i - p ∧ s16 = .int .i64 ((p : Int) + 1) ∧ s17 = .int .i64 (altC y x p : Int) ∧ EdI wr XB b j R (setW (setW C (P ++ [a]) (fun _ => 0) i) (P ++ [a]) (altC y x) p) ∧ Chg (RowB R j) w2' wr)
              case atStart => exact ⟨0, Nat.zero_le _, rfl, rfl, rfl, HE.out, Hch.out⟩
              case round =>
                obtain ⟨p, hp, rfl, rfl, rfl, hE, hch⟩ := hrel
                have HE3 := Lib.hid hE; have Hch3 := Lib.hid hch
                have ha3 : altC y x p ≤ 1000 := by rcases altC_or y x p with e | e <;> omega
                have hal := altC_int y x p
                rw [Int.add_comm] at hal
                have Hal3 := Lib.hid hal
                clear hE hch hal
                by_cases hil : p < i
                · have c1 := hway_chg Hch3.out (Hway.out p (by omega)) HgR.out
                  have c2 := hway_chg Hch3.out (Hway.out (p + 1) (by omega)) HgR.out
                  have Hset := Lib.hid (fun W (hW : EdI W XB b j R (setW (setW C (P ++ [a]) (fun _ => 0) i) (P ++ [a]) (altC y x) p)) => eset_any (k := altC y x p) hN (HQ.out.2 p (by omega)) (HQ.out.2 (p + 1) (by omega)) (HQ.out.1 p hil) hW)
                  generalize hp1 : (P ++ [a]).getD p 0 = p1 at *
                  generalize hp2 : (P ++ [a]).getD (p + 1) 0 = p2 at *
                  generalize hai : altC y x p = ai at *
                  have Hp := Lib.hid (And.intro hp1 (And.intro hp2 hai))
                  clear hp1 hp2 hai
                  obtain ⟨wp, rfl⟩ : ∃ wp : World, wp = wr := ⟨_, rfl⟩
                  have b1 : (0 : Int) ≤ (p : Int) := by omega
                  have b2 : (p : Int) < (i : Int) + 1 := by omega
                  have b3 : (p : Int) + 1 < (i : Int) + 1 := by omega
                  have b4 : (0 : Int) ≤ (p : Int) + 1 := by omega
                  have b5 : (p : Int) < (i : Int) := by omega
                  have b6 : ((p : Int) + 1).toNat = p + 1 := by omega
                  have b7 : IntKind.i64.wrap ((p : Int) + 1 - 1) = (p : Int) := by rw [show (p : Int) + 1 - 1 = (p : Int) by omega]; exact wrap_nat (by omega)
                  have b8 : IntKind.i64.wrap (p : Int) = (p : Int) := wrap_nat (by omega)
                  have b9 : (p : Int) + 1 - 1 = (p : Int) := by omega
                  go_wp2
                  go_region_held3 (fun w' => w'.cell? ⟨g2, p, none⟩ = some (.int .i64 (p1 : Int)) ∧ w'.cell? ⟨g2, p + 1, none⟩ = some (.int .i64 (p2 : Int))) (first | exact ⟨c1, c2⟩ | exact ⟨d1, d2⟩ | fail)
                    (first | (go_at_call 42; refine (Hset.out _ (HE3.out.below (Below.refl _ _).drew)).mono ?_; rintro e wS ⟨rfl, hE', hch'⟩; have d1 := hway_chg hch' c1 HgR.out; have d2 := hway_chg hch' c2 HgR.out; have HE' := Lib.hid hE'; have Hch' := Lib.hid (Hch3.out.drew.trans hch'); clear hE' hch'))
                  rename_i hheld
                  clear hheld c1 c2
                  go_wp2
                  go_roundg (i - (p + 1))
                  case measure => go_light; omega
                  case rel => exact ⟨p + 1, by omega, rfl, by go_num, by rw [Hal3.out], by rw [setW, Hp.out.1, Hp.out.2.1, Hp.out.2.2]; exact HE'.out, Hch'.out⟩
                · obtain rfl : p = i := by omega
                  go_wp2
                  go_end0
                  refine ⟨rfl, P ++ [a], HT.out, HE3.out.congr (fun s t hs ht => ?_), (Chg.ofBelow Hb2.out).trans Hch3.out⟩
                  have := turn_is (K0 := fun _ => 0) (K1 := altC y x) HC.out hx hy Hf.out HT.out (fun _ _ => rfl) s t hs ht
                  rw [HQl.out] at this
                  exact this
        · have HI2 := Lib.hid (HI.out.next HC.out hirr hx hy Hf.out huN (by rw [HQl.out, show q + 1 - 1 = P.length by rw [Hq.out]; omega, getD_snoc, Hq.out, Hk.out]; exact hu))
          clear hu Hz
          have hal : (x : Int) + (y : Int) - (k : Int) = (altC x y (q + 1) : Int) := by rw [← Hk.out]; exact altC_int x y q
          have Hal := Lib.hid hal
          have hk3 : altC x y (q + 1) ≤ 1000 := by rcases altC_or x y (q + 1) with e | e <;> omega
          clear hal
          go_wp2
          go_roundg (j + 1 - (q + 1))
          case measure => have hqq := Hq.out; go_light; omega
          case rel => exact ⟨P ++ [a], u, by rw [HQl.out], by rw [HQl.out]; exact Hown2.out, rfl, by rw [HQl.out, ← Hal.out], HI2.out, Hb2.out⟩
end
end Go.Proofs.YtnhhohhhpaejmaaDoor
