/- arborref.Packed: the walk. -/
import Derived.Test.YtokjcapheogkoaaDoorDigW
import Derived.Test.YtokjcapheogkoaaDoorGridOf
import Derived.Test.YtokjcapheogkoaaDoorHasGrid
import Derived.Test.YtokjcapheogkoaaDoorGood
import Derived.Test.YtokjcapheogkoaaDoorRowsOwn
import Derived.Test.YtokjcapheogkoaaDoorPackW
import Derived.Deep.LoopGhost
import Derived.Deep.Light
import Derived.BigQuiet
namespace Go.Proofs.YtokjcapheogkoaaDoor
open Go Go.RowKit

/-- Bits as integers, of one's own. -/
def bV (l : List Bool) : List Value := l.map fun (x : Bool) => Value.int .i64 ((x.toNat : Nat) : Int)
theorem bV_length (l : List Bool) : (bV l).length = l.length := by simp [bV]
def OwnB (w : World) (base : Nat) (v : Value) (l : List Bool) : Prop := w.ownsRow base 3 1 v l.length (bV l)
theorem OwnB.cell {w : World} {base : Nat} {v : Value} {l : List Bool} (h : OwnB w base v l) {k : Nat} (hk : k < l.length) : ∃ g c, v = .slice (some ⟨g, 0, none⟩) l.length c ∧ w.cell? ⟨g, k, none⟩ = some (.int .i64 ((b01 l k : Nat) : Int)) := by
  obtain ⟨g, c, rfl, -, -⟩ := World.ownsRow.form h (by omega)
  refine ⟨g, c, rfl, ?_⟩
  have := h.cells (g := g) rfl k (.int .i64 ((b01 l k : Nat) : Int)) (by
    unfold bV b01
    rw [List.getElem?_map, List.getElem?_eq_getElem hk]
    simp [List.getD, hk])
  rw [Addr.add_lit, Nat.zero_add] at this
  exact this
/-- Horner's way through six bits. -/
def hv6 (l : List Bool) (q : Nat) : Nat → Nat
  | 0 => 0
  | k + 1 => 2 * hv6 l q k + b01 l (6 * q + k)
theorem hv6_all (l : List Bool) (q : Nat) : hv6 l q 6 = v6 l q := by
  simp only [hv6, v6]
  rw [Nat.add_zero]
  omega
theorem hv6_le (l : List Bool) (q : Nat) : ∀ k, k ≤ 6 → hv6 l q k < 2 ^ k
  | 0, _ => by simp [hv6]
  | k + 1, h => by
    have h1 := hv6_le l q k (by omega)
    have h2 := b01_le l (6 * q + k)
    rw [hv6, Nat.pow_succ]
    omega
theorem body_take {l : List Bool} {M q : Nat} (hl : l.length = 6 * M) (hq : q < M) : (bodyN l).take (q + 1) = (bodyN l).take q ++ [63 + v6 l q] := by
  have h1 : q < (bodyN l).length := by rw [bodyN_length]; omega
  rw [List.take_succ_eq_append_getElem h1]
  congr 2
  simp [bodyN]
theorem own_grown {w w' : World} {base : Nat} {v : Value} {l : List Bool} {base2 : Nat} {v2 : Value} {L : List Nat} (h : OwnB w base v l) (h2 : OwnU w base2 v2 L) (hg : w.grownBy w' v2.ownBlock) : OwnB w' base v l :=
  ownsRow_typed h hg fun g e => by
    obtain ⟨c, fz, hc⟩ := ownsRow_type h2 g e
    exact ⟨c, _, fz, hc, by decide⟩

set_option maxHeartbeats 6400000 in
set_option maxRecDepth 100000 in
theorem packed_any {l : List (Int × Int)} {N : Nat} (hgood : GoodGraph N l) (hN : N ≤ 100) (sv : Value) (w : World) (h : IsEdges w sv l) :
    Calls Tryd.prog 12 #[.agg #[.int .i64 (N : Int), sv]] w fun e w' => e = .returned (.string (packS N (adj l))) ∧ Below w.heap.size w w' := by
  obtain ⟨ad, cap, rfl⟩ := h.form
  obtain ⟨-, -, -, hl1, hok⟩ := graph_good' hgood.spec
  have Hok := Lib.hid hok
  have hb1 := below1 w (Obj.cells #[.int .i64 (N : Int), .slice ad l.length cap] 24)
  have c0 := two_cells w (.int .i64 (N : Int)) (.slice ad l.length cap) 24
  have cn := c0.1
  have cs := c0.2
  have he := h.below hb1
  have He := Lib.hid he; have Hb1 := Lib.hid hb1
  clear c0 h hok he hb1
  go_enter Tryd.func12, Tryd.ntmps12
  go_upto_region 1 with fail
  generalize w.alloc (Obj.cells #[.int .i64 (N : Int), .slice ad l.length cap] 24) = w1 at *
  go_upto_if 14 with fail
  go_cut [3] from 14 to 36 (fun s3 wx => OwnU wx w1.heap.size s3 (headN N) ∧ Below w1.heap.size w1 wx)
  case first =>
    by_cases h63 : N ≤ 62
    · have h63i : (N : Int) ≤ 62 := by omega
      have hh : headN N = [N + 63] := if_pos (by omega)
      have hnew := OwnU.new w1 w1.heap.size [N + 63] (by simp) (Nat.le_refl _) (by simp)
      rw [show (u8V [N + 63]).toArray = #[Value.int .u8 (63 + (N : Int))] by simp [u8V]; omega] at hnew
      have Hnew := Lib.hid hnew; have Hh := Lib.hid hh
      clear hnew hh
      go_wp2
      go_meet
      refine ⟨?_, below1 _ _⟩
      rw [Hh.out]
      exact Hnew.out
    · have h63i : ¬ (N : Int) ≤ 62 := by omega
      have e1 : (N : Int).tdiv 4096 = 0 := by rw [Int.tdiv_eq_ediv_of_nonneg (by omega)]; omega
      obtain ⟨p, hp⟩ : ∃ p, p = N / 64 := ⟨_, rfl⟩
      obtain ⟨r, hr⟩ : ∃ r, r = N % 64 := ⟨_, rfl⟩
      have e2 : (N : Int).tdiv 64 = (p : Int) := by rw [Int.tdiv_eq_ediv_of_nonneg (by omega)]; omega
      have e3 : (p : Int).tmod 64 = (p : Int) := by rw [Int.tmod_eq_emod_of_nonneg (by omega)]; omega
      have e4 : (N : Int).tmod 64 = (r : Int) := by rw [Int.tmod_eq_emod_of_nonneg (by omega)]; omega
      have e1' : (N : Int) / 4096 = 0 := by omega
      have e2' : (N : Int) / 64 = (p : Int) := by omega
      have e3' : (p : Int) % 64 = (p : Int) := by omega
      have e4' : (N : Int) % 64 = (r : Int) := by omega
      have hh : headN N = [126, 63, p + 63, r + 63] := by rw [hp, hr]; exact if_neg (by omega)
      have hp2 : p ≤ 1 := by omega
      have hr2 : r < 64 := by omega
      have hnew := OwnU.new w1 w1.heap.size [126, 63, p + 63, r + 63] (by simp) (Nat.le_refl _) (by simp)
      rw [show (u8V [126, 63, p + 63, r + 63]).toArray = #[Value.int .u8 126, Value.int .u8 63, Value.int .u8 (63 + (p : Int)), Value.int .u8 (63 + (r : Int))] by simp [u8V]; omega] at hnew
      have Hnew := Lib.hid hnew; have Hh := Lib.hid hh
      clear hnew hh hp hr
      go_wp2
      go_meet
      refine ⟨?_, below1 _ _⟩
      rw [Hh.out]
      exact Hnew.out
  case rest =>
  obtain ⟨hown, hb2⟩ := hcut
  obtain ⟨w2, rfl⟩ : ∃ w2 : World, w2 = wc := ⟨_, rfl⟩
  have Hown := Lib.hid hown; have Hb2 := Lib.hid hb2
  have cn2 := below_cell hb2 cn
  have cs2 := below_cell hb2 cs
  obtain ⟨a0, c0, rfl⟩ := ownsRow_form hown
  clear cn cs hown hb2
  go_wp2_with fail
  refine (gridOf_any l N _ _ (He.out.below Hb2.out) hN Hok.out).mono ?_
  rintro e w3 ⟨gv, rfl, hg3, hb3⟩
  have HG := Lib.hid (show HasGrid w3 gv N (adj l) from ⟨_, hg3⟩)
  have Hb3 := Lib.hid (upp Hb2.out hb3)
  have Hown3 := Lib.hid (ownsRow_below Hown.out hb3 (Nat.le_refl _))
  have cn3 := below_cell hb3 cn2
  have Cn3 := Lib.hid cn3
  clear hg3 hb3 cn2 cs2
  go_wp2
  go_loopg [5, 6] N (fun g s5 s6 wr => ∃ j : Nat, j ≤ N ∧ g = N - j ∧ s6 = .int .i64 (j : Int) ∧ OwnB wr w3.heap.size s5 (preB (adj l) j ++ colB (adj l) j 0) ∧ Below w3.heap.size w3 wr)
  case atStart => exact ⟨0, Nat.zero_le _, rfl, rfl, World.ownsRow_nil _ _ _ _, Below.refl _ _⟩
  case round =>
    obtain ⟨j, hj, rfl, rfl, hst, hb⟩ := hrel
    have Hst := Lib.hid hst; have Hb := Lib.hid hb
    have cn := below_cell hb Cn3.out
    clear hst hb cn3
    by_cases hjN : j < N
    · go_wp2
      go_loopg [5, 7] j (fun g s5 s7 wr => ∃ i : Nat, i ≤ j ∧ g = j - i ∧ s7 = .int .i64 (i : Int) ∧ OwnB wr w3.heap.size s5 (preB (adj l) j ++ colB (adj l) j i) ∧ Below w3.heap.size w3 wr)
      case atStart => exact ⟨0, Nat.zero_le _, rfl, rfl, Hst.out, Hb.out⟩
      case round =>
        clear Hst Hb cn
        obtain ⟨i, hi, rfl, rfl, hst, hb⟩ := hrel
        have Hst := Lib.hid hst; have Hb := Lib.hid hb
        have hsz := hb.size
        by_cases hij : i < j
        · obtain ⟨lst, hlst⟩ : ∃ lst, lst = preB (adj l) j ++ colB (adj l) j i := ⟨_, rfl⟩
          have hsnoc : ∀ x, adj l i j = x → preB (adj l) j ++ colB (adj l) j (i + 1) = lst ++ [x] := fun x hx => by rw [colB, hlst, hx, List.append_assoc]
          have hfew : lst.length ≤ 5050 := by rw [hlst]; exact bits_few (by omega) (by omega)
          obtain ⟨gb, go, gc', gr, ge, c1, c2⟩ := (HG.out.below hb).entry (show i < N by omega) hjN
          subst ge
          rw [← hlst] at Hst
          have Hsnoc := Lib.hid hsnoc
          obtain ⟨L, hL⟩ : ∃ L, L = lst.length := ⟨_, rfl⟩
          have HL := Lib.hid hL
          have hL5 : L ≤ 5050 := by omega
          obtain ⟨a1, c1', rfl⟩ := ownsRow_form Hst.out
          have Hst' := Lib.hid (show wr.ownsRow w3.heap.size 3 1 (.slice a1 lst.length c1') lst.length (bV lst) from Hst.out)
          clear Hst
          have Hst := Hst'
          rw [← hL] at Hst ⊢
          clear Hst' hlst hsnoc hst hb hL hfew
          cases hG : adj l i j with
          | false =>
            rw [hG] at c2
            have Hsn := Lib.hid (Hsnoc.out _ hG)
            clear hG
            go_wp2_with (at_builtin; refine wpList_append_has rfl (.tmp 57) (.tmp 59) 59 rfl w3.heap.size 3 (.int .i64 0) 8 Tryd.underlying59 info3 rfl _ L (bV lst) rfl (Hst.out.alloc _) _ 1 [.int .i64 0] rfl (HasCells.one _ _ _ rfl) (by omega) (by omega) (by simp; omega) ?_; intro a2 c2 w6 hown2 hg2; have Hown2 := Lib.hid hown2; have Hg2 := Lib.hid ((Hb.out.alloc hsz (Obj.cells #[Value.int .i64 0] 3)).grown hg2 (by rw [World.size_alloc]; omega) (fun g e => (Hst.out.lt g e).1)); clear hown2 hg2)
            go_roundg (j - (i + 1))
            case measure => go_light; omega
            case rel => exact ⟨i + 1, by omega, rfl, by go_num, by
              rw [Hsn.out]
              unfold OwnB
              rw [List.length_append, ← HL.out]
              have e : bV (lst ++ [false]) = bV lst ++ [.int .i64 0] := by simp [bV]
              rw [e]
              exact Hown2.out, Hg2.out⟩
          | true =>
            rw [hG] at c2
            have Hsn := Lib.hid (Hsnoc.out _ hG)
            clear hG
            go_wp2_with (at_builtin; refine wpList_append_has rfl (.tmp 57) (.tmp 59) 59 rfl w3.heap.size 3 (.int .i64 0) 8 Tryd.underlying59 info3 rfl _ L (bV lst) rfl (Hst.out.alloc _) _ 1 [.int .i64 1] rfl (HasCells.one _ _ _ rfl) (by omega) (by omega) (by simp; omega) ?_; intro a2 c2 w6 hown2 hg2; have Hown2 := Lib.hid hown2; have Hg2 := Lib.hid ((Hb.out.alloc hsz (Obj.cells #[Value.int .i64 1] 3)).grown hg2 (by rw [World.size_alloc]; omega) (fun g e => (Hst.out.lt g e).1)); clear hown2 hg2)
            go_roundg (j - (i + 1))
            case measure => go_light; omega
            case rel => exact ⟨i + 1, by omega, rfl, by go_num, by
              rw [Hsn.out]
              unfold OwnB
              rw [List.length_append, ← HL.out]
              have e : bV (lst ++ [true]) = bV lst ++ [.int .i64 1] := by simp [bV]
              rw [e]
              exact Hown2.out, Hg2.out⟩
        · obtain rfl : i = j := by omega
          have Hst5 := Lib.hid (show OwnB wr w3.heap.size _ (preB (adj l) (i + 1) ++ colB (adj l) (i + 1) 0) from (show preB (adj l) (i + 1) ++ colB (adj l) (i + 1) 0 = preB (adj l) i ++ colB (adj l) i i from List.append_nil _) ▸ Hst.out)
          clear hst hb
          go_wp2
          go_roundg (N - (i + 1))
          case measure => go_light; omega
          case rel => exact ⟨i + 1, by omega, rfl, by go_num, Hst5.out, Hb.out⟩
    · obtain rfl : j = N := by omega
      have Hst5 := Lib.hid (show OwnB wr w3.heap.size _ (preB (adj l) j) from (show preB (adj l) j ++ colB (adj l) j 0 = preB (adj l) j from List.append_nil _) ▸ Hst.out)
      have hfew : (preB (adj l) j).length ≤ 5050 := by
        have := bits_few (G := adj l) (j := j) (i := 0) hN (by omega)
        rw [List.length_append] at this
        omega
      have hfew0 := hfew
      obtain ⟨lst0, hl0⟩ : ∃ lst0, lst0 = preB (adj l) j := ⟨_, rfl⟩
      rw [← hl0] at Hst5 hfew hfew0
      have Hl0 := Lib.hid hl0
      clear Hst hl0
      go_wp2
      go_loopg [5] ((6 - lst0.length % 6) % 6) (fun g s5 wr => ∃ lst : List Bool, g = (6 - lst.length % 6) % 6 ∧ OwnB wr w3.heap.size s5 lst ∧ bodyN lst = bodyN lst0 ∧ lst.length + (6 - lst.length % 6) % 6 ≤ lst0.length + 5 ∧ Below w3.heap.size w3 wr)
      case atStart => exact ⟨lst0, rfl, Hst5.out, rfl, by omega, Hb.out⟩
      case round =>
        clear Hst5 Hb cn
        obtain ⟨lst, rfl, hst, hbody, hlen, hb⟩ := hrel
        have Hb := Lib.hid hb; have Hbody := Lib.hid hbody
        have hsz := hb.size
        obtain ⟨a1, c1', rfl⟩ := ownsRow_form hst
        obtain ⟨L, hL⟩ : ∃ L, L = lst.length := ⟨_, rfl⟩
        obtain ⟨r, hr⟩ : ∃ r, r = L % 6 := ⟨_, rfl⟩
        have e1 : (L : Int).tmod 6 = (r : Int) := by rw [Int.tmod_eq_emod_of_nonneg (by omega)]; omega
        have e2 : (L : Int) % 6 = (r : Int) := by omega
        have Hst := Lib.hid (show wr.ownsRow w3.heap.size 3 1 (.slice a1 L c1') L (bV lst) from hL ▸ hst)
        have HstB := Lib.hid hst
        have hL6 : L ≤ 5060 := by omega
        by_cases hr0 : r = 0
        · obtain ⟨M, hM⟩ : ∃ M, lst.length = 6 * M := ⟨lst.length / 6, by omega⟩
          have hM2 : M ≤ 850 := by omega
          have hq : ((r : Int) != 0) = false := by simp [hr0]
          have HM := Lib.hid hM
          have hLM1 : L ≤ 6 * M := by omega
          have hLM2 : 6 * M ≤ L := by omega
          have hown4 : OwnU wr w1.heap.size (.slice a0 (headN j).length c0) (headN j ++ (bodyN lst).take 0) := by
            rw [List.take_zero, List.append_nil]
            exact ownsRow_below Hown3.out Hb.out (Nat.le_refl _)
          have Hown4 := Lib.hid hown4
          have hbw := Lib.hid (upp Hb3.out (show Below w3.heap.size w3 wr from Hb.out))
          have hhd4 : (headN j).length ≤ 4 := by unfold headN; split <;> simp
          have HL := Lib.hid hL
          rw [← hL]
          clear hst hbody hlen hb hr hL hown4 HstB
          obtain ⟨hn, hhn⟩ : ∃ hn, hn = (headN j).length := ⟨_, rfl⟩
          rw [← hhn] at Hown4 hhd4 ⊢
          have hw3 := Hb3.out.size
          go_wp2
          clear e1 e2 hq
          go_loopg [3, 9] M (fun g s3 s9 wx => ∃ q Q : Nat, q ≤ M ∧ g = M - q ∧ Q = 6 * q ∧ s9 = .int .i64 (Q : Int) ∧ OwnU wx w1.heap.size s3 (headN j ++ (bodyN lst).take q) ∧ wx.ownsRow w3.heap.size 3 1 (.slice a1 L c1') L (bV lst) ∧ Below w1.heap.size w1 wx)
          case atStart => exact ⟨0, 0, Nat.zero_le _, rfl, rfl, rfl, Hown4.out, Hst.out, hbw.out⟩
          case round =>
            clear Hown4 Hst hbw Hb
            obtain ⟨q, Q, hqM, rfl, hQ, rfl, hou, hbs, hb⟩ := hrel
            have hQ1 : Q ≤ 6 * q := by omega
            have hQ2 : 6 * q ≤ Q := by omega
            have HQ := Lib.hid hQ
            clear hQ
            have Hou := Lib.hid hou; have Hbs := Lib.hid hbs; have Hb := Lib.hid hb
            have hszw := hb.size
            by_cases hlt : q < M
            · obtain ⟨nout, hnout⟩ : ∃ k, (headN j ++ (bodyN lst).take q).length = k := ⟨_, rfl⟩
              have hnl : nout ≤ 900 := by
                rw [← hnout, List.length_append, List.length_take, bodyN_length]
                omega
              obtain ⟨a4, c4, rfl⟩ := ownsRow_form hou
              rw [hnout] at Hou ⊢
              have Hnout := Lib.hid hnout
              have hQL : Q < L := by omega
              have Htake := Lib.hid (body_take HM.out hlt)
              clear hou hbs hb hnout
              obtain ⟨wo, rfl⟩ : ∃ wo : World, wo = wr := ⟨_, rfl⟩
              go_wp2
              go_loopg [10, 11] 6 (fun g s10 s11 wy => ∃ k v : Nat, k ≤ 6 ∧ g = 6 - k ∧ s11 = .int .i64 (k : Int) ∧ v = hv6 lst q k ∧ s10 = .int .i64 (v : Int) ∧ wo = wy)
              case atStart => exact ⟨0, 0, by omega, rfl, rfl, rfl, rfl, rfl⟩
              case round =>
                obtain ⟨k, v, hk, rfl, rfl, hv, rfl, rfl⟩ := hrel
                have hv64 : v < 64 := by
                  have := hv6_le lst q k hk
                  have h2 : 2 ^ k ≤ 2 ^ 6 := Nat.pow_le_pow_right (by decide) hk
                  omega
                have Hv := Lib.hid hv
                clear hv
                by_cases hk6 : k < 6
                · obtain ⟨I, hI⟩ : ∃ I, I = Q + k := ⟨_, rfl⟩
                  have hix : (Q : Int) + (k : Int) = (I : Int) := by omega
                  have hIL : I < L := by omega
                  obtain ⟨g5, c5, e5, cI⟩ := OwnB.cell (w := wo) (base := w3.heap.size) (v := .slice a1 L c1') (l := lst) (by have h := Hbs.out; unfold OwnB; rw [← HL.out]; exact h) (k := I) (by have := HL.out; omega)
                  simp only [Value.slice.injEq] at e5
                  obtain ⟨rfl, -, rfl⟩ := e5
                  have hb01 := b01_le lst I
                  have Hnext := Lib.hid (show hv6 lst q (k + 1) = 2 * v + b01 lst I by rw [hv6, Hv.out, hI, HQ.out])
                  generalize b01 lst I = bI at *
                  clear hI
                  go_wp2
                  go_roundg (6 - (k + 1))
                  case measure => go_light; omega
                  case rel => exact ⟨k + 1, 2 * v + bI, by omega, rfl, by go_num, Hnext.out.symm, by go_num, rfl⟩
                · obtain rfl : k = 6 := by omega
                  have Hv6 := Lib.hid (show v6 lst q = v by rw [Hv.out, hv6_all])
                  have hsrc := HasCells.one wo (.int .u8 (63 + (v : Int))) 5 rfl
                  rw [show [Value.int .u8 (63 + (v : Int))] = u8V [63 + v] by simp [u8V]] at hsrc
                  have Hsrc := Lib.hid hsrc
                  have St := Lib.hid (show OwnU (wo.alloc (Obj.cells #[Value.int .u8 (63 + (v : Int))] 5)) w1.heap.size (.slice a4 nout c4) (headN j ++ (bodyN lst).take q) from Hou.out.alloc _)
                  have Sb := Lib.hid (Hbs.out.alloc (Obj.cells #[Value.int .u8 (63 + (v : Int))] 5))
                  have Ha := Lib.hid (Hb.out.alloc hszw (Obj.cells #[Value.int .u8 (63 + (v : Int))] 5))
                  have hQ6 : ((Q + 6 : Nat) : Int) = (Q : Int) + 6 := by omega
                  clear hsrc hk6
                  go_wp2_with (at_builtin; refine wpList_append_U rfl (.tmp 87) (.tmp 91) rfl w1.heap.size nout _ (headN j ++ (bodyN lst).take q) Hnout.out rfl St.out _ 1 [63 + v] rfl Hsrc.out (by omega) (by omega) (by rw [World.size_alloc]; omega) ?_; intro g2 c2 w6 hown2 hg2 hat2; have Hown2 := Lib.hid hown2; have Hbs2 := Lib.hid (own_grown (l := lst) (by unfold OwnB; rw [← HL.out]; exact Sb.out) St.out hg2); have Hg2 := Lib.hid (Ha.out.grown hg2 (by rw [World.size_alloc]; omega) (fun g e => (St.out.lt g e).1)); clear hown2 hg2 hat2)
                  go_roundg (M - (q + 1))
                  case measure => go_light; omega
                  case rel => exact ⟨q + 1, Q + 6, by omega, rfl, by omega, by go_num, by
                    rw [Htake.out, Hv6.out, ← List.append_assoc]
                    exact Hown2.out, by
                    have h := Hbs2.out
                    unfold OwnB at h
                    rw [← HL.out] at h
                    exact h, Hg2.out⟩
            · obtain rfl : q = M := by omega
              have hpk : headN j ++ (bodyN lst).take q = packN j (adj l) := by
                rw [List.take_of_length_le (by rw [bodyN_length]; omega), Hbody.out, Hl0.out]; rfl
              rw [hpk] at hou
              have hlen0 : 0 < (packN j (adj l)).length := by
                unfold packN
                rw [List.length_append]
                have : 0 < (headN j).length := by unfold headN; split <;> simp
                omega
              obtain ⟨a4, c4, rfl⟩ := ownsRow_form hou
              have hconv := hou.string hlen0 (packN_byte hN)
              generalize hpl : (packN j (adj l)).length = pl at *
              have hps : (⟨(u8L (packN j (adj l))).toArray⟩ : ByteArray) = packS j (adj l) := rfl
              rw [hps] at hconv
              generalize hpz : packS j (adj l) = ps at *
              have Hpz := Lib.hid hpz
              clear hou hbs hb hpk hlen0 hpl hps hpz
              go_wp2
              go_ret
              exact ⟨by rw [Hpz.out]; rfl, upp Hb1.out Hb.out⟩
        · have hq : ((r : Int) != 0) = true := by simp; omega
          have Hpad := Lib.hid (bodyN_pad (l := lst) (by omega))
          have hl' : (lst ++ [false]).length + (6 - (lst ++ [false]).length % 6) % 6 ≤ lst0.length + 5 ∧ (6 - (lst ++ [false]).length % 6) % 6 < (6 - lst.length % 6) % 6 := by
            rw [List.length_append, List.length_singleton]; omega
          have Hl' := Lib.hid hl'
          have HL := Lib.hid hL
          rw [← hL]
          clear hst hbody hlen hb hr hl' hL HstB
          go_wp2_with (at_builtin; refine wpList_append_has rfl (.tmp 65) (.tmp 66) 59 rfl w3.heap.size 3 (.int .i64 0) 8 Tryd.underlying59 info3 rfl _ L (bV lst) rfl (Hst.out.alloc _) _ 1 [.int .i64 0] rfl (HasCells.one _ _ _ rfl) (by omega) (by omega) (by simp; omega) ?_; intro a2 c2 w6 hown2 hg2; have Hown2 := Lib.hid hown2; have Hg2 := Lib.hid ((Hb.out.alloc hsz (Obj.cells #[Value.int .i64 0] 3)).grown hg2 (by rw [World.size_alloc]; omega) (fun g e => (Hst.out.lt g e).1)); clear hown2 hg2)
          have hlt6 := Hl'.out.2
          go_roundg ((6 - (lst ++ [false]).length % 6) % 6)
          case measure => go_light; have := Hl'.out.2; omega
          case rel => exact ⟨lst ++ [false], rfl, by
            unfold OwnB
            rw [List.length_append, ← HL.out]
            have e : bV (lst ++ [false]) = bV lst ++ [.int .i64 0] := by simp [bV]
            rw [e]
            exact Hown2.out, by rw [Hpad.out, Hbody.out], Hl'.out.1, Hg2.out⟩

end Go.Proofs.YtokjcapheogkoaaDoor
