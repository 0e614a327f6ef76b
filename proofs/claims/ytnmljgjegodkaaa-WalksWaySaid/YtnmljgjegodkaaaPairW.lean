/- walks.pair: nodes in pairs that are as near as can be. -/
import Derived.Test.YtnmljgjegodkaaaPD
import Derived.Test.YtnmljgjegodkaaaPA
import Derived.BigQuiet
namespace Go.Proofs.Ytnmljgjegodkaaa
open Go.RowKit

/-- How far two of the list are. -/
def dM (L : List Nat) (DD : List (List Int)) (i j : Nat) : Int := (DD.getD i []).getD (L.getD j 0) 0
/-- Pairs as they are told. -/
def prI (P : List (Nat × Nat)) : List (Int × Int) := P.map fun p => ((p.1 : Int), (p.2 : Int))
/-- What walks.pair answers. -/
def PairPost (L : List Nat) (DD : List (List Int)) (w : World) (e : Ending) (w' : World) : Prop :=
  ∃ v P b la, e = .returned v ∧ OwnE w' w.heap.size v (prI P) ∧ Below w.heap.size w w' ∧ (∀ s, s < 2 ^ L.length → PmOk L.length (dM L DD) b la s) ∧ PcI L.length (dM L DD) b 0 P
/-- The sets below s. -/
def PmAll (n : Nat) (D : Nat → Nat → Int) (b : Nat → Int) (la : Nat → Nat × Nat) (s : Nat) : Prop := ∀ q, q < s → PmOk n D b la q ∧ b q ≤ 1000 * (q : Int) ∧ -1 ≤ b q
theorem PmAll.congr {n : Nat} {D : Nat → Nat → Int} {b b' : Nat → Int} {la la' : Nat → Nat × Nat} {s : Nat} (h : PmAll n D b la s) (hb : ∀ q, q < s → b q = b' q) (hla : ∀ q, q < s → la q = la' q) : PmAll n D b' la' s := fun q hq =>
  ⟨(h q hq).1.congr (fun r hr => hb r (by omega)) (hla q hq), by rw [← hb q hq]; exact (h q hq).2⟩
theorem wrap_midP {x : Int} (h0 : -9223372036854775808 ≤ x) (h1 : x < 9223372036854775808) : IntKind.i64.wrap x = x := by
  simp [IntKind.wrap, IntKind.bits, IntKind.signed]; omega

set_option maxHeartbeats 6400000 in
set_option maxRecDepth 100000 in
theorem wpair_any {L : List Nat} {DD : List (List Int)} (hL : L.length ≤ 12) (hev : L.length % 2 = 0) (hD : DD.length = L.length) (hDl : ∀ i j, i < L.length → j < L.length → L.getD j 0 < (DD.getD i []).length)
    (hDp : ∀ i j, i < L.length → j < L.length → 0 ≤ dM L DD i j ∧ dM L DD i j ≤ 1000) (lv dv : Value) (w : World) (hl : IsInts w lv (ints L)) (hd : IsRows w dv DD) :
    Calls Try.prog 52 #[lv, dv] w (PairPost L DD w) := by
  obtain ⟨al, cl, rfl⟩ : ∃ al cl, lv = .slice al L.length cl := by
    obtain ⟨a, c, _, _, rfl, _⟩ := hl; exact ⟨a, c, by rw [ints_length]⟩
  obtain ⟨ad, cd, rfl⟩ : ∃ ad cd, dv = .slice ad L.length cd := by
    obtain ⟨a, c, _, _, rfl, _⟩ := hd; exact ⟨a, c, by rw [hD]⟩
  have HL := Lib.hid hl; have HD := Lib.hid hd; have HDn := Lib.hid hD; have HDl := Lib.hid hDl; have HDp := Lib.hid hDp; have Hev := Lib.hid hev
  clear hl hd hD hDl hDp hev
  generalize hn : L.length = n at *
  have Hn := Lib.hid hn
  clear hn
  have hP : pow2 n ≤ 4096 := by unfold pow2; exact Nat.pow_le_pow_right (by decide) hL
  have hP0 : 0 < pow2 n := Nat.two_pow_pos n
  have HPe := Lib.hid (show pow2 n = 2 ^ n from rfl)
  have e0 := op_shl (show n < 62 by omega)
  generalize pow2 n = M at *
  have hmk := run_make_row' (P := Try.prog) 29 3 (.int .i64 0) 8 Try.underlying29 info3 rfl .i64 .i64 M (by omega) (by omega)
  have hmk2 := run_make_two (P := Try.prog) 22 78 Try.underlying22 info2 M (by omega)
  have S0 := Lib.hid (PrS.start w M)
  go_enter Try.func52, Try.ntmps52
  go_upto_region 4 with fail
  clear hmk hmk2
  have hz : ((w.alloc (.cells (madeCells #[.int .i64 0] M) 3)).heap.size) = w.heap.size + 1 := World.size_alloc _ _
  generalize (w.alloc (.cells (madeCells #[.int .i64 0] M) 3)).alloc (.cells (madeCells #[.int .i64 0, .int .i64 0] (M * 2)) 78) = w2 at *
  clear hz
  have H0 : PmAll n (dM L DD) (fun _ => 0) (fun _ => (0, 0)) 1 := fun q hq => by
    obtain rfl : q = 0 := by omega
    exact ⟨⟨fun _ => rfl, fun i hi => by have := hi.on; simp at this⟩, by simp, by simp⟩
  have HH0 := Lib.hid H0
  clear H0
  go_wp2
  go_loopg [8] (M - 1) (fun g s8 wr => ∃ (s : Nat) (b : Nat → Int) (la : Nat → Nat × Nat), 1 ≤ s ∧ s ≤ M ∧ g = M - s ∧ s8 = .int .i64 (s : Int) ∧ PrS w wr M b la ∧ PmAll n (dM L DD) b la s)
  case atStart => exact ⟨1, _, _, Nat.le_refl _, hP0, rfl, rfl, S0.out, HH0.out⟩
  case round =>
    clear S0 HH0
    obtain ⟨s, b, la, hs1, hsM, rfl, rfl, hst, hall⟩ := hrel
    have Hall := Lib.hid hall
    by_cases hlt : s < M
    · obtain ⟨i, hi⟩ := lowM_ex (N := n) (show s ≠ 0 by omega) (by rw [← HPe.out]; exact hlt)
      have hin := hi.lt
      have Hi := Lib.hid hi
      have cs := (hst.cells hlt).1
      have fs := hst.r1.frozen s
      have ls := hst.r1.lt
      have Hst := Lib.hid (hst.set s (-1))
      have hfew : Few s := by show s < 4611686018427387904; omega
      clear hst hall hi
      go_upto_region 8 with fail
      generalize wr.setCell ⟨w.heap.size, s, none⟩ (.int .i64 (-1)) = w3 at *
      clear cs fs ls
      go_wp2
      go_loopg [9] i (fun g s9 wx => ∃ v : Nat, v ≤ i ∧ g = i - v ∧ s9 = .int .i64 (v : Int) ∧ w3 = wx)
      case atStart => exact ⟨0, Nat.zero_le _, rfl, rfl, rfl⟩
      case round =>
        obtain ⟨v, hv, rfl, rfl, rfl⟩ := hrel
        have e3 := op_shr s v
        by_cases hvc : v < i
        · have e4 : bits .and .i64 (shr s v : Int) 1 = 0 := by rw [op_bit hfew, bit_zero (Hi.out.off v hvc)]; rfl
          go_wp2
          go_roundg (i - (v + 1))
          case measure => go_light; omega
          case rel => exact ⟨v + 1, by omega, rfl, by go_num, rfl⟩
        · obtain rfl : v = i := by omega
          have e4 : bits .and .i64 (shr s v : Int) 1 = 1 := by rw [op_bit hfew, bit_one Hi.out.on]; rfl
          clear hvc hv
          have I0 : PmIn (dM L DD) (fun q => if q = s then -1 else b q) la s v (v + 1) := PmIn.start (by simp)
          have A0 : PmAll n (dM L DD) (fun q => if q = s then -1 else b q) la s := Hall.out.congr (fun q hq => by simp [show q ≠ s by omega]) fun _ _ => rfl
          have HI0 := Lib.hid I0
          have HA0 := Lib.hid A0
          clear I0 A0 Hall
          go_upto_region 12 with fail
          clear e3 e4
          go_loopg [10] (n - (v + 1)) (fun g s10 wx => ∃ (k : Nat) (b : Nat → Int) (la : Nat → Nat × Nat), v + 1 ≤ k ∧ k ≤ n ∧ g = n - k ∧ s10 = .int .i64 (k : Int) ∧ PrS w wx M b la ∧ PmAll n (dM L DD) b la s ∧ PmIn (dM L DD) b la s v k ∧ b s ≤ 1000 * (s : Int))
          case atStart => exact ⟨v + 1, _, _, Nat.le_refl _, hin, rfl, by go_num, Hst.out, HA0.out, HI0.out, by simp; omega⟩
          case round =>
            clear Hst HA0 HI0
            obtain ⟨k, b, la, hvk, hkn, rfl, rfl, hst, hall, hI, hbs⟩ := hrel
            have HI := Lib.hid hI
            have Hall := Lib.hid hall
            have Hbs := Lib.hid hbs
            have Hst := Lib.hid (fun n => hst.below (Below.drewN' (Below.refl wr.heap.size wr) n))
            by_cases hkl : k < n
            · have e1 := op_shl (show v < 62 by omega)
              have e2 := op_shl (show k < 62 by omega)
              have hf1 : Few (lor (pow2 v) (pow2 k)) := lor_few (pow2_few (by omega)) (pow2_few (by omega))
              have e5 := op_or (pow2_few (show v < 62 by omega)) (pow2_few (show k < 62 by omega))
              have e6 := op_andNot hfew hf1
              have e7 := op_shr s k
              have hrlt : less s (lor (pow2 v) (pow2 k)) < s := restM_lt (i := v) (j := k) Hi.out.on
              have Hr := Lib.hid (show restM s v k = less s (lor (pow2 v) (pow2 k)) from rfl)
              generalize less s (lor (pow2 v) (pow2 k)) = r at *
              have hrM : r < M := by omega
              have cr := (hst.cells hrM).1
              obtain ⟨cs, cs2, cs3⟩ := hst.cells hlt
              have hbr := (Hall.out r hrlt).2
              have Hbit := Lib.hid (show s.testBit k = false ∨ s.testBit k = true by cases s.testBit k <;> simp)
              have fs := hst.r1.frozen s
              have ls := hst.r1.lt
              have f2 := hst.rl.frozen (s * 2)
              have f3 := hst.rl.frozen (s * 2 + 1)
              have l2 := hst.rl.lt
              have hx := drow_at HD.out hst.hb (i := v) (x := L.getD k 0) (by rw [HDn.out]; exact hin) (HDl.out v k hin hkl)
              have hlk := ints_at' HL.out hst.hb (k := k) (by rw [Hn.out]; exact hkl)
              obtain ⟨gd, od, rfl, g', o', c', cd1, cd2⟩ := hx
              obtain ⟨gl, ol, rfl, ck⟩ := hlk
              have hDk := HDl.out v k hin hkl
              have hdd := HDp.out v k hin hkl
              unfold dM at hdd
              generalize hDv : (DD.getD v []).getD (L.getD k 0) 0 = dx at *
              have Hdx := Lib.hid (show dM L DD v k = dx from hDv)
              clear hDv
              generalize L.getD k 0 = lk at *
              generalize (DD.getD v []).length = nd at *
              clear hst hall hI
              rcases Hbit.out with hb0 | hb1
              · have e8 : bits .and .i64 (shr s k : Int) 1 = 0 := by rw [op_bit hfew, bit_zero hb0]; rfl
                have HIn := Lib.hid (HI.out.skip (.inl hb0))
                clear cr cs cd1 cd2 ck hb0 hbs
                go_upto_region 14 with fail
                go_quiet (fail)
                go_wp2
                go_roundg (n - (k + 1))
                case measure => go_light; omega
                case rel => exact ⟨k + 1, b, la, by omega, by omega, rfl, by go_num, Hst.out _, Hall.out, HIn.out, Hbs.out⟩
              · have e8 : bits .and .i64 (shr s k : Int) 1 = 1 := by rw [op_bit hfew, bit_one hb1]; rfl
                have Hb1 := Lib.hid hb1
                clear hb1
                generalize hbre : b r = br at *
                have Hbr := Lib.hid (show b (restM s v k) = br by rw [Hr.out]; exact hbre)
                clear hbre
                by_cases hneg : br < 0
                · have HIn := Lib.hid (HI.out.skip (.inr (by rw [Hbr.out]; exact hneg)))
                  clear cs cd1 cd2 ck hbs
                  go_upto_region 14 with fail
                  go_quiet (fail)
                  go_wp2
                  go_roundg (n - (k + 1))
                  case measure => go_light; omega
                  case rel => exact ⟨k + 1, b, la, by omega, by omega, rfl, by go_num, Hst.out _, Hall.out, HIn.out, Hbs.out⟩
                · have hw : IntKind.i64.wrap (br + dx) = br + dx := wrap_midP (by omega) (by omega)
                  generalize hbse : b s = bs at *
                  have Hbse := Lib.hid hbse
                  clear hbse
                  by_cases hup : bs < 0 ∨ br + dx < bs
                  · have HIn := Lib.hid (HI.out.take (fun j _ hj => (HDp.out v j hin (by omega)).1) Hi.out.on (by omega) Hb1.out (by rw [Hbr.out]; omega) (by rw [Hbr.out, Hdx.out, Hbse.out]; exact hup))
                    have HIn2 := HIn.out
                    rw [Hbr.out, Hdx.out] at HIn2
                    have HI2 := Lib.hid HIn2
                    have Hst2 := Lib.hid (fun n => ((Hst.out n).set s (br + dx)).put s v k)
                    have HA2 := Lib.hid (show PmAll n (dM L DD) (fun q => if q = s then br + dx else b q) (fun q => if q = s then (v, k) else la q) s from Hall.out.congr (fun q hq => by simp [show q ≠ s by omega]) (fun q hq => by simp [show q ≠ s by omega]))
                    have Hbd := Lib.hid (show br + dx ≤ 1000 * (s : Int) by omega)
                    clear HIn2 HIn
                    by_cases hs0 : bs < 0
                    · clear hup
                      go_upto_region 14 with fail
                      go_quiet (fail)
                      go_upto_region 16 with fail
                      go_quiet (fail)
                      go_wp2
                      go_roundg (n - (k + 1))
                      case measure => go_light; omega
                      case rel => exact ⟨k + 1, _, _, by omega, by omega, rfl, by go_num, Hst2.out _, HA2.out, HI2.out, by simp; exact Hbd.out⟩
                    · have hs2 : br + dx < bs := by omega
                      clear hup
                      go_upto_region 14 with fail
                      go_quiet (fail)
                      go_upto_region 16 with fail
                      go_quiet (fail)
                      go_wp2
                      go_roundg (n - (k + 1))
                      case measure => go_light; omega
                      case rel => exact ⟨k + 1, _, _, by omega, by omega, rfl, by go_num, Hst2.out _, HA2.out, HI2.out, by simp; exact Hbd.out⟩
                  · have HIn := Lib.hid (HI.out.keep (by rw [Hbse.out]; omega) (by rw [Hbr.out, Hdx.out, Hbse.out]; omega))
                    have hs0 : ¬ bs < 0 := by omega
                    have hs2 : ¬ br + dx < bs := by omega
                    clear hup
                    go_upto_region 14 with fail
                    go_quiet (fail)
                    go_upto_region 16 with fail
                    go_quiet (fail)
                    go_wp2
                    go_roundg (n - (k + 1))
                    case measure => go_light; omega
                    case rel => exact ⟨k + 1, b, la, by omega, by omega, rfl, by go_num, Hst.out _, Hall.out, HIn.out, by rw [Hbse.out]; exact Hbs.out⟩
            · obtain rfl : k = n := by omega
              have hd := PmOk.done (show s ≠ 0 by omega) Hi.out HI.out
              have hpos := HI.out.pos (fun j _ hj => (HDp.out v j hin hj).1)
              have HN := Lib.hid (show PmAll k (dM L DD) b la (s + 1) from fun q hq => by
                by_cases e : q = s
                · subst e; exact ⟨hd, hbs, by omega⟩
                · exact Hall.out q (by omega))
              have Hs2 := Lib.hid hst
              clear hd hpos hst hall hI hbs
              go_wp2
              go_roundg (M - (s + 1))
              case measure => go_light; omega
              case rel => exact ⟨s + 1, b, la, by omega, by omega, rfl, by go_num, Hs2.out, HN.out⟩
    · obtain rfl : s = M := by omega
      have hpc : pcM n (2 ^ n - 1) = n := by
        unfold pcM
        rw [cntN_congr (q := fun _ => !false) (fun q hq => by rw [Nat.testBit_two_pow_sub_one]; simp [hq])]
        have := cntN_not n (fun _ => false)
        rw [cntN_false] at this
        omega
      have hM1 : s - 1 < s := by omega
      have hok : ∀ q, q < 2 ^ n → PmOk n (dM L DD) b la q := fun q hq => (Hall.out q (by rw [HPe.out]; exact hq)).1
      have hpos : 0 ≤ b (2 ^ n - 1) := PmOk.even (fun i j hij hj => (HDp.out i j (by omega) hj).1) _ (by have := Nat.two_pow_pos n; omega) (fun q hq => hok q (by have := Nat.two_pow_pos n; omega)) (by rw [hpc]; exact Hev.out)
      have HP := Lib.hid (show PcI n (dM L DD) b (2 ^ n - 1) [] from PcI.start hpos)
      have Hok := Lib.hid hok
      have HSt := Lib.hid hst
      have hw : IntKind.i64.wrap ((s : Int) - 1) = ((s - 1 : Nat) : Int) := by rw [show (s : Int) - 1 = ((s - 1 : Nat) : Int) by omega]; exact wrap_nat (by omega)
      clear hpc hok hpos hst hall Hall
      go_upto_region 21 with fail
      go_loopg [13, 14] (s - 1) (fun g s13 s14 wx => ∃ (q : Nat) (P : List (Nat × Nat)), q = g ∧ s14 = .int .i64 (q : Int) ∧ P.length + q < s ∧ OwnE wx (w.heap.size + 2) s13 (prI P) ∧ PrS w wx s b la ∧ PcI n (dM L DD) b q P)
      case atStart => exact ⟨s - 1, [], rfl, rfl, by simp; omega, World.ownsRow_nil _ _ _ _, HSt.out, by rw [HPe.out]; exact HP.out⟩
      case round =>
        clear HSt HP
        obtain ⟨q, P, rfl, rfl, hPs, ho, hst, hP⟩ := hrel
        by_cases hq : 0 < q
        · have hqs : q < s := by omega
          obtain ⟨i, j, hla, hij, hj, hbi, hbj, hrq, hP2⟩ := hP.next (Hok.out q (by rw [← HPe.out]; exact hqs)) (by omega)
          obtain ⟨-, c2, c3⟩ := hst.cells hqs
          rw [hla] at c2 c3
          simp only at c2 c3
          have hfq : Few q := by show q < 4611686018427387904; omega
          have e1 := op_shl (show i < 62 by omega)
          have e2 := op_shl (show j < 62 by omega)
          have hf1 : Few (lor (pow2 i) (pow2 j)) := lor_few (pow2_few (by omega)) (pow2_few (by omega))
          have e5 := op_or (pow2_few (show i < 62 by omega)) (pow2_few (show j < 62 by omega))
          have e6 := op_andNot hfq hf1
          have HP2 := Lib.hid (show PcI n (dM L DD) b (less q (lor (pow2 i) (pow2 j))) (P ++ [(i, j)]) from hP2)
          have hrq2 : less q (lor (pow2 i) (pow2 j)) < q := hrq
          generalize less q (lor (pow2 i) (pow2 j)) = r at *
          have hPl : (prI P).length = P.length := by unfold prI; rw [List.length_map]
          have HPl := Lib.hid hPl
          have hPs2 : (prI P).length < 5000 := by omega
          have hsz := hst.rl.lt
          have Ho := Lib.hid (ho.below (below1 wr (Obj.cells #[.int .i64 (i : Int), .int .i64 (j : Int)] 78)))
          have HSt := Lib.hid (hst.below (below1 wr (Obj.cells #[.int .i64 (i : Int), .int .i64 (j : Int)] 78)))
          obtain ⟨a4, c4, rfl⟩ := ho.form
          have Hsp := Lib.hid (show prI (P ++ [(i, j)]) = prI P ++ [((i : Int), (j : Int))] by simp [prI])
          have Hla := Lib.hid hla
          clear ho hst hP hP2 hrq hla hPl
          go_wp2_with (at_builtin; refine wpList_append_edges rfl (.tmp 123) (.tmp 128) 22 rfl (w.heap.size + 2) Try.underlying22 info2 _ (prI P) rfl Ho.out _ [((i : Int), (j : Int))] rfl (edge_one _ _ _ _ (by simp)) _ rfl (by simp; omega) (by rw [World.size_alloc]; omega) ?_; intro a5 c5 w5 ho5 hg5; have Ho5 := Lib.hid ho5; have HSt5 := Lib.hid (HSt.out.grown hg5 (fun g e => (World.ownsRow.lt Ho.out g e).1)); obtain ⟨-, d2, d3⟩ := HSt5.out.cells hqs; rw [Hla.out] at d2 d3; simp only at d2 d3; clear ho5 hg5 c2 c3)
          go_upto_region 22 with fail
          go_quiet (fail)
          go_wp2
          go_roundg r
          case measure => go_light; omega
          case rel => exact ⟨r, P ++ [(i, j)], rfl, rfl, by rw [List.length_append, List.length_singleton]; omega, by rw [Hsp.out]; have h := Ho5.out.below (Below.drewN' (Below.refl _ _) nq); rw [List.length_append, List.length_singleton] at h; exact h, HSt5.out.below (Below.drewN' (Below.refl _ _) _), HP2.out⟩
        · obtain rfl : q = 0 := by omega
          have Ho := Lib.hid ho; have HSt := Lib.hid hst; have HP := Lib.hid hP
          obtain ⟨a5, c5, rfl⟩ := ownsRow_form ho
          clear ho hst hP
          go_wp2
          exact bodyPost_ret (v := .slice a5 (prI P).length c5) (by simp [results, Try.results52, go_sem]) rfl ⟨_, P, b, la, rfl, Ho.out.low (by omega), HSt.out.hb, by rw [Hn.out]; exact Hok.out, by rw [Hn.out]; exact HP.out⟩

end Go.Proofs.Ytnmljgjegodkaaa
