/- codec.Pack: the walk. -/
import Derived.Test.YtokjcapheogkoaaDoorCodM
import Derived.Test.YtokjcapheogkoaaDoorTable
import Derived.Test.YtokjcapheogkoaaDoorHasGrid
import Derived.Test.YtokjcapheogkoaaDoorGood
import Derived.Test.YtokjcapheogkoaaDoorFVar
import Derived.Test.YtokjcapheogkoaaDoorBits
import Derived.Deep.AppendLies
import Derived.Deep.LoopGhost
import Derived.Deep.Light
import Derived.BigQuiet
namespace Go.Proofs.YtokjcapheogkoaaDoor
open Go Go.RowKit

def packS (n : Nat) (G : Nat → Nat → Bool) : ByteArray := ⟨(u8L (packN n G)).toArray⟩
/-- codec.Pack comes back. -/
def PackPost (n : Int) (l : List (Int × Int)) (w : World) (e : Ending) (w' : World) : Prop :=
  ∃ c a s, e = .returned (.tuple #[.string s, .agg #[.int .i64 c, .int .i64 a]]) ∧ GraphSpec n l c a ∧ Below w.heap.size w w' ∧
    ((c ≠ 0 ∧ s = ⟨#[]⟩) ∨ (c = 0 ∧ a = 0 ∧ ∃ N : Nat, n = N ∧ s = packS N (adj l)))
theorem upp {a b c : World} (h : Below a.heap.size a b) (k : Below b.heap.size b c) : Below a.heap.size a c := h.trans (k.mono h.size)
theorem graph_good' {n : Int} {l : List (Int × Int)} {a : Int} (h : GraphSpec n l 0 a) : a = 0 ∧ 0 ≤ n ∧ n ≤ 100 ∧ l.length ≤ 1000 ∧ ∀ j, j < l.length → EndsOk n (l.getD j (0, 0)) ∧ (l.getD j (0, 0)).1 ≠ (l.getD j (0, 0)).2 := by
  rcases h with ⟨_, h, _⟩ | ⟨hb, ⟨_, _, _, hw, _⟩ | ⟨h, _, h2⟩⟩
  · cases h
  · exact absurd rfl hw.ne0
  · unfold TooBig at hb
    exact ⟨h2, by omega, by omega, by omega, fun j hj => ⟨(h j hj).1, (h j hj).2.1⟩⟩

theorem IsGrid.chg {S : Nat → Prop} {w w' : World} {B n : Nat} {v : Value} {G : Nat → Nat → Bool} (h : IsGrid w B v n G) (hc : Chg S w w') (hS : ∀ k, B ≤ k → ¬ S k) : IsGrid w' B v n G := by
  obtain ⟨a, cap, b, o, R, h1, h2, h3, h4⟩ := h
  exact ⟨a, cap, b, o, R, h1, h2, h3, h4.new, h4.inj, fun i hi => hc.cell (h4.head i hi) (hS b (h3 (by omega)).2), fun i hi => hc.rowIs (h4.row i hi) (hS _ (h4.new i hi)), h4.off⟩
theorem GRes.low {w wr w' : World} {A B lo : Nat} {n : Int} {s : Value} (h : GRes w wr A B n s) (hb : Below lo wr w') (hlo : B < lo) (hw : w.heap.size ≤ lo) : GRes w w' A B n s := by
  have hA := h.hA
  refine ⟨h.hb.trans (hb.mono hw), ?_, ?_, h.hz.of_block (hb.block _ hlo), h.hB, h.hA⟩
  · rw [World.cell?_of_block (hb.block A (by omega))]; exact h.cn
  · rw [World.cell?_of_block (hb.block A (by omega))]; exact h.cs
theorem packN_byte {N : Nat} {G : Nat → Nat → Bool} (hN : N ≤ 100) : ∀ k ∈ packN N G, k < 256 := fun k hk => by
  unfold packN at hk
  rcases List.mem_append.1 hk with h | h
  · unfold headN at h
    split at h
    · simp at h; omega
    · simp at h; omega
  · unfold bodyN at h
    obtain ⟨q, -, rfl⟩ := List.mem_map.1 h
    have := v6_le (preB G N) q
    omega
/-- Bytes of one's own, and all else as it was. -/
structure PkSt (w5 wr : World) (lo hi : Nat) (v : Value) (L : List Nat) : Prop where
  own : OwnU wr lo v L
  at' : ∃ g, v.ownBlock = some g ∧ (g < hi ∨ w5.heap.size ≤ g)
  ch : Chg (fun k => lo ≤ k ∧ k < hi) w5 wr
theorem PkSt.alloc {w5 wr : World} {lo hi : Nat} {v : Value} {L : List Nat} (h : PkSt w5 wr lo hi v L) (o : Obj) : PkSt w5 (wr.alloc o) lo hi v L := ⟨h.own.alloc o, h.at', h.ch.alloc o⟩
theorem PkSt.drew {w5 wr : World} {lo hi : Nat} {v : Value} {L : List Nat} (h : PkSt w5 wr lo hi v L) : PkSt w5 wr.drew lo hi v L := ⟨h.own, h.at', h.ch.drew⟩
theorem PkSt.more {w5 wr w' : World} {lo hi g n cap : Nat} {v : Value} {L L' : List Nat} (h : PkSt w5 wr lo hi v L) (hown : OwnU w' lo (.slice (some ⟨g, 0, none⟩) n cap) L') (hg : wr.grownBy w' v.ownBlock) (hat : v.ownBlock = some g ∨ g = wr.heap.size) :
    PkSt w5 w' lo hi (.slice (some ⟨g, 0, none⟩) n cap) L' := by
  obtain ⟨g0, e0, h0⟩ := h.at'
  have hl := (h.own.lt g0 e0).1
  refine ⟨hown, ⟨g, rfl, ?_⟩, ?_⟩
  · rcases hat with e | e
    · rw [e0] at e; cases e; exact h0
    · right; rw [e]; exact h.ch.size
  · refine ⟨hg.os.trans h.ch.os, hg.tape.trans h.ch.tape, hg.output.trans h.ch.output, Nat.le_trans h.ch.size hg.size, fun k hk hs => ?_⟩
    rw [hg.block k (Nat.lt_of_lt_of_le hk h.ch.size) (by rw [e0]; intro e; cases e; exact hs ⟨hl, by omega⟩)]
    exact h.ch.block k hk hs
theorem PkSt.last {w5 wr : World} {lo hi k : Nat} {v : Value} {L : List Nat} (h : PkSt w5 wr lo hi v L) (hk : L.length = k + 1) :
    ∃ g cap, v = .slice (some ⟨g, 0, none⟩) (k + 1) cap ∧ wr.cell? ⟨g, k, none⟩ = some (.int .u8 (L.getD k 0 : Nat)) ∧ wr.frozen? ⟨g, k, none⟩ = false ∧
      ∀ (x : Nat) (L' : List Nat), L'.length = L.length → (∀ j, j < k → L'.getD j 0 = L.getD j 0) → L'.getD k 0 = x → PkSt w5 (wr.setCell ⟨g, k, none⟩ (.int .u8 (x : Int))) lo hi v L' := by
  obtain ⟨g, cap, rfl, hg, hg2, h1, h2, h3⟩ := h.own.last hk
  obtain ⟨g0, e0, h0⟩ := h.at'
  cases e0
  exact ⟨g, cap, rfl, h1, h2, fun x L' a b c => ⟨h3 x L' a b c, ⟨g, rfl, h0⟩, Chg.setCell (S := fun k => lo ≤ k ∧ k < hi) h.ch (p := ⟨g, k, none⟩) (fun hlt => ⟨hg, by
    show g < hi
    have : g < w5.heap.size := hlt
    have h0' : g < hi ∨ w5.heap.size ≤ g := h0
    omega⟩) _⟩⟩

set_option maxHeartbeats 6400000 in
set_option maxRecDepth 100000 in
theorem pack_any (n : Int) (l : List (Int × Int)) (sv : Value) (w : World) (h : IsEdges w sv l) :
    Calls Tryd.prog 8 #[.agg #[.int .i64 n, sv]] w (PackPost n l w) := by
  obtain ⟨ad, cap, rfl⟩ := h.form
  have hg := GRes.start w n (.slice ad l.length cap)
  have He := Lib.hid h; have Hg := Lib.hid hg
  have cn := hg.cn
  have cs := hg.cs
  clear h hg
  go_enter Tryd.func8, Tryd.ntmps8
  go_upto_region 1 with fail
  generalize (w.alloc (Obj.cells #[.int .i64 n, .slice ad l.length cap] 24)).alloc (Obj.cells #[Value.int IntKind.i64 0, Value.int IntKind.i64 0] 27) = w1 at *
  go_upto_region 2 with (go_at_call 20; refine (gcheck_any l n _ w1 (He.out.below Hg.out.hb)).mono ?_; rintro e w2 ⟨c, a, hsp, rfl, hb2⟩; have Hsp := Lib.hid hsp; have H3 := Lib.hid (Hg.out.below (upp hb2 (below1 w2 (Obj.cells #[.int .i64 c, .int .i64 a] 27)))); have F3 := Lib.hid (FV.new w2 c a); clear hsp hb2)
  generalize w2.alloc (Obj.cells #[.int .i64 c, .int .i64 a] 27) = w3 at *
  generalize w2.heap.size = F at *
  clear cn cs Hg
  have cn := H3.out.cn
  have cs := H3.out.cs
  have hAB := H3.out.hA
  obtain ⟨f0, f1, -, -, -⟩ := F3.out.facts
  by_cases hc : c = 0
  · subst hc
    obtain ⟨rfl, hn0, hn1, hl1, hok⟩ := graph_good' Hsp.out
    obtain ⟨N, rfl⟩ := Int.eq_ofNat_of_zero_le hn0
    have Hok := Lib.hid hok
    have hN : N ≤ 100 := by omega
    clear hok hn0 hn1
    go_upto_if 18 with fail
    clear f0 f1 F3
    go_cut [5] from 18 to 38 (fun s5 wx => OwnU wx w3.heap.size s5 (headN N) ∧ Below w3.heap.size w3 wx)
    case first =>
      by_cases h63 : N < 63
      · have h63i : (N : Int) < 63 := by omega
        have hu : IntKind.u8.wrap ((N : Int) + 63) = ((N + 63 : Nat) : Int) := u8_wrap (k := N + 63) (by omega)
        have hh : headN N = [N + 63] := if_pos h63
        have Hh := Lib.hid hh
        clear hh
        go_wp2_with (at_builtin; refine wpList_append_has rfl (.tmp 19) (.tmp 24) 42 rfl w3.heap.size 5 (.int .u8 0) 1 Tryd.underlying42 infoU rfl _ 0 [] rfl (World.ownsRow_nil _ _ _ _) _ 1 [.int .u8 ((N + 63 : Nat) : Int)] rfl (HasCells.one _ _ _ rfl) (by omega) (by omega) (by simp) ?_; intro a2 c2 w4 hown2 hg2; have Hown2 := Lib.hid hown2; have Hb4 := Lib.hid ((below1 w3 (Obj.cells #[Value.int .u8 ((N + 63 : Nat) : Int)] 5)).grown hg2 (by simp) (fun g e => by cases e)); clear hown2 hg2)
        go_meet
        refine ⟨?_, Hb4.out⟩
        rw [Hh.out]
        exact Hown2.out
      · have h63i : ¬ (N : Int) < 63 := by omega
        have e6 : (N : Int) / 64 = ((N / 64 : Nat) : Int) := by omega
        have e7 : bits BinOp.and IntKind.i64 (N : Int) 63 = ((N % 64 : Nat) : Int) := by
          have := op_and (a := N) (b := 63) (by unfold Few; omega) (by decide)
          rw [show land N 63 = N % 64 from Nat.and_two_pow_sub_one_eq_mod N 6] at this
          exact this
        obtain ⟨p, hp⟩ : ∃ p, p = N / 64 := ⟨_, rfl⟩
        obtain ⟨r, hr⟩ : ∃ r, r = N % 64 := ⟨_, rfl⟩
        rw [← hp] at e6
        rw [← hr] at e7
        have hh : headN N = [126, 63, p + 63, r + 63] := by rw [hp, hr]; exact if_neg h63
        have hp2 : p ≤ 1 := by omega
        have hr2 : r < 64 := by omega
        have Hh := Lib.hid hh
        clear hh hp hr h63
        have hu1 : IntKind.u8.wrap ((p : Int) + 63) = ((p + 63 : Nat) : Int) := u8_wrap (k := p + 63) (by omega)
        have hu2 : IntKind.u8.wrap ((r : Int) + 63) = ((r + 63 : Nat) : Int) := u8_wrap (k := r + 63) (by omega)
        go_wp2_with (at_builtin; refine wpList_append_has rfl (.tmp 26) (.tmp 37) 42 rfl w3.heap.size 5 (.int .u8 0) 1 Tryd.underlying42 infoU rfl _ 0 [] rfl (World.ownsRow_nil _ _ _ _) _ 4 [.int .u8 126, .int .u8 63, .int .u8 ((p + 63 : Nat) : Int), .int .u8 ((r + 63 : Nat) : Int)] rfl (HasCells.new w3 [.int .u8 126, .int .u8 63, .int .u8 ((p + 63 : Nat) : Int), .int .u8 ((r + 63 : Nat) : Int)] _ (by simp) (by simp [Value.oneCell'])) (by omega) (by omega) (by simp) ?_; intro a2 c2 w4 hown2 hg2; have Hown2 := Lib.hid hown2; have Hb4 := Lib.hid ((below1 w3 (Obj.cells #[.int .u8 126, .int .u8 63, .int .u8 ((p + 63 : Nat) : Int), .int .u8 ((r + 63 : Nat) : Int)] 5)).grown hg2 (by simp) (fun g e => by cases e)); clear hown2 hg2)
        go_meet
        refine ⟨?_, Hb4.out⟩
        rw [Hh.out]
        exact Hown2.out
    case rest =>
    obtain ⟨hown, hb4⟩ := hcut
    obtain ⟨w4, rfl⟩ : ∃ w4 : World, w4 = wc := ⟨_, rfl⟩
    have Hown := Lib.hid hown
    have H4 := Lib.hid (H3.out.below hb4)
    have Hb4 := Lib.hid hb4
    obtain ⟨a0, c0, rfl⟩ := ownsRow_form hown
    clear cn cs hown hb4
    have cn := H4.out.cn
    have cs := H4.out.cs
    go_wp2_with fail
    refine (table_any l N _ _ (He.out.below H4.out.hb) hN Hok.out).mono ?_
    rintro e w5 ⟨tv, rfl, hgrid, hb5⟩
    have HG := Lib.hid hgrid
    have H5 := Lib.hid (H4.out.below hb5)
    have hlow : (headN N).length = 1 ∨ (headN N).length = 4 := by unfold headN; split <;> simp
    have hgx : ∃ g, (Value.slice a0 (headN N).length c0).ownBlock = some g := by
      obtain ⟨g, cap, e, -, -⟩ := World.ownsRow.form Hown.out (by omega)
      rw [e]; exact ⟨g, rfl⟩
    obtain ⟨g0, hg0⟩ := hgx
    have hg1 := Hown.out.lt g0 hg0
    have Hst := Lib.hid (show PkSt w5 w5 w3.heap.size w4.heap.size (.slice a0 (headN N).length c0) (headN N ++ bodyN (preB (adj l) 0 ++ colB (adj l) 0 0)) from ⟨by
      rw [show headN N ++ bodyN (preB (adj l) 0 ++ colB (adj l) 0 0) = headN N by simp [preB, colB, bodyN]]
      exact ownsRow_below Hown.out hb5 (Nat.le_refl _), ⟨g0, hg0, Or.inl hg1.2⟩, Chg.refl _ _⟩)
    have hlo5 := Nat.le_trans Hb4.out.size hb5.size
    have hsz5 := hb5.size
    clear hgrid hb5 cn cs hg0 hg1
    have cn := H5.out.cn
    obtain ⟨hd, hhd⟩ : ∃ hd, hd = headN N := ⟨_, rfl⟩
    rw [← hhd] at Hst hlow ⊢
    have Hhd := Lib.hid hhd
    obtain ⟨hl, hhl⟩ : ∃ k, k = hd.length := ⟨_, rfl⟩
    rw [← hhl] at Hst hlow ⊢
    have Hhl := Lib.hid hhl
    clear hhd hhl
    go_wp2
    clear cn
    go_loopg [5, 7, 43] N (fun g s5 s7 s43 wr => ∃ j k0 : Nat, j ≤ N ∧ g = N - j ∧ s43 = .int .i64 (j : Int) ∧ s7 = .int .i64 (k0 : Int) ∧ k0 = (6 - (preB (adj l) j).length % 6) % 6 ∧ PkSt w5 wr w3.heap.size w4.heap.size s5 (hd ++ bodyN (preB (adj l) j ++ colB (adj l) j 0)))
    case atStart => exact ⟨0, 0, Nat.zero_le _, rfl, rfl, rfl, by simp [preB], Hst.out⟩
    case round =>
      obtain ⟨j, k0, hj, rfl, rfl, rfl, hk0, hst⟩ := hrel
      have Hst2 := Lib.hid hst
      clear hst
      by_cases hjN : j < N
      · have Hk0 := Lib.hid hk0
        clear hk0
        go_wp2
        go_loopg [5, 7, 47] j (fun g s5 s7 s47 wr => ∃ i k1 : Nat, i ≤ j ∧ g = j - i ∧ s47 = .int .i64 (i : Int) ∧ s7 = .int .i64 (k1 : Int) ∧ k1 = (6 - (preB (adj l) j ++ colB (adj l) j i).length % 6) % 6 ∧ PkSt w5 wr w3.heap.size w4.heap.size s5 (hd ++ bodyN (preB (adj l) j ++ colB (adj l) j i)))
        case atStart => exact ⟨0, k0, Nat.zero_le _, rfl, rfl, rfl, by rw [Hk0.out, show preB (adj l) j ++ colB (adj l) j 0 = preB (adj l) j from List.append_nil _], Hst2.out⟩
        case round =>
          obtain ⟨i, k1, hi, rfl, rfl, rfl, hk1, hst⟩ := hrel
          have Hst3 := Lib.hid hst; have Hk1 := Lib.hid hk1
          clear hst hk1
          by_cases hij : i < j
          · obtain ⟨lst, hlst⟩ : ∃ lst, lst = preB (adj l) j ++ colB (adj l) j i := ⟨_, rfl⟩
            have hsnoc : ∀ x, adj l i j = x → preB (adj l) j ++ colB (adj l) j (i + 1) = lst ++ [x] := fun x hx => by rw [colB, hlst, hx, List.append_assoc]
            have hfew : lst.length ≤ 5050 := by rw [hlst]; exact bits_few (by omega) (by omega)
            obtain ⟨gb, go, gc', gr, ge, c1, c2⟩ := HasGrid.entry ⟨_, HG.out.chg Hst3.out.ch (fun k hk hs => by omega)⟩ (show i < N by omega) hjN
            subst ge
            rw [← hlst] at Hst3 Hk1
            have Hsnoc := Lib.hid hsnoc
            clear hlst hsnoc
            obtain ⟨q, r, hqr, hr6⟩ : ∃ q r, lst.length = 6 * q + r ∧ r < 6 := ⟨lst.length / 6, lst.length % 6, by omega, by omega⟩
            have hbl : (bodyN lst).length ≤ 850 := by rw [bodyN_length]; omega
            have hhd4 : hd.length ≤ 4 := by have := Hhl.out; omega
            have hLl : (hd ++ bodyN lst).length ≤ 860 := by rw [List.length_append]; omega
            have hm6 : lst.length % 6 = r := by omega
            rw [hm6] at Hk1
            have hk1 := Hk1.out
            have hle := Hst3.out.ch.size
            go_upto_if 51 with fail
            go_cut [5, 7] from 51 to 54 (fun s5 s7 wx => s7 = .int .i64 ((6 - r : Nat) : Int) ∧ PkSt w5 wx w3.heap.size w4.heap.size s5 (hd ++ bodyN (lst ++ [false])))
            case first =>
              by_cases hr0 : r = 0
              · subst hr0
                have hnew : hd ++ bodyN (lst ++ [false]) = (hd ++ bodyN lst) ++ [63] := by rw [bodyN_new (q := q) (by omega), ← List.append_assoc]; rfl
                have Hnew := Lib.hid hnew
                obtain ⟨L, hL⟩ : ∃ L, L = hd ++ bodyN lst := ⟨_, rfl⟩
                rw [← hL] at Hst3 Hnew hLl
                obtain ⟨n, hn⟩ : ∃ n, L.length = n := ⟨_, rfl⟩
                rw [hn] at hLl
                have Hn := Lib.hid hn
                obtain ⟨a1, c1', rfl⟩ := ownsRow_form Hst3.out.own
                rw [hn] at Hst3 ⊢
                have hk10 : k1 = 0 := by omega
                subst hk10
                have St := Lib.hid (Hst3.out.alloc (Obj.cells #[Value.int .u8 63] 5))
                clear c1 c2 hnew hL hn hk1 Hk1
                go_wp2_with (at_builtin; refine wpList_append_U rfl (.tmp 52) (.tmp 53) rfl w3.heap.size n _ L Hn.out rfl St.out.own _ 1 [63] rfl (HasCells.one wr (.int .u8 63) 5 rfl) (by omega) (by omega) (by rw [World.size_alloc]; omega) ?_; intro g2 c2 w6 hown2 hg2 hat2; have St2 := Lib.hid (St.out.more hown2 hg2 hat2); clear hown2 hg2 hat2)
                go_meet
                exact ⟨rfl, by rw [Hnew.out]; exact St2.out⟩
              · have hpad : bodyN (lst ++ [false]) = bodyN lst := bodyN_pad (by omega)
                have Hpad := Lib.hid hpad
                have hk10 : ((k1 : Int) == 0) = false := by simp; omega
                have hk6 : k1 = 6 - r := by omega
                subst hk6
                clear hpad c1 c2
                go_wp2
                go_meet
                exact ⟨rfl, by rw [Hpad.out]; exact Hst3.out⟩
            case rest =>
            obtain ⟨rfl, hst4⟩ := hcut
            obtain ⟨w6, rfl⟩ : ∃ w6 : World, w6 = wc := ⟨_, rfl⟩
            have Hst4 := Lib.hid hst4
            obtain ⟨gb', go', gcc, gr', ge, c1', c2'⟩ := HasGrid.entry ⟨_, HG.out.chg hst4.ch (fun k hk hs => by omega)⟩ (show i < N by omega) hjN
            simp only [Value.slice.injEq, Option.some.injEq, Addr.mk.injEq, true_and, and_true] at ge
            obtain ⟨⟨rfl, rfl⟩, rfl⟩ := ge
            obtain ⟨t1, t2, t3, t4, t5⟩ := bodyN_true hqr hr6
            obtain ⟨t, ht⟩ : ∃ t, t = 5 - r := ⟨_, rfl⟩
            rw [← ht] at t2 t5
            have ht6 : (6 - r : Nat) = t + 1 := by omega
            rw [ht6]
            have hti : ((t + 1 : Nat) : Int) - 1 = (t : Int) := by omega
            have Ht := Lib.hid ht
            clear c1 c2 hst4 ht ht6 hk1 Hk1
            have hk1' : (t : Nat) = (6 - (lst ++ [adj l i j]).length % 6) % 6 := by
              have := Ht.out
              rw [List.length_append, List.length_singleton]
              omega
            have Hk1' := Lib.hid hk1'
            have ht5 : t ≤ 5 := by have := Ht.out; omega
            clear hk1'
            cases hG : adj l i j with
            | false =>
              rw [hG] at c2' Hk1'
              have hsn := Hsnoc.out _ hG
              have Hsn := Lib.hid hsn
              clear hG hsn t1 t2 t3 t4 t5
              go_wp2
              go_roundg (j - (i + 1))
              case measure => go_light; omega
              case rel => exact ⟨i + 1, t, by omega, rfl, by go_num, rfl, by rw [Hsn.out]; exact Hk1'.out, by rw [Hsn.out]; exact Hst4.out⟩
            | true =>
              rw [hG] at c2' Hk1'
              have hsn := Hsnoc.out _ hG
              have Hsn := Lib.hid hsn
              clear hG hsn
              have hKl : (hd ++ bodyN (lst ++ [false])).length = (hl + q) + 1 := by rw [List.length_append, t4, ← Hhl.out]; omega
              obtain ⟨g2, cp2, rfl, ck, fk, hput⟩ := Hst4.out.last hKl
              have hget : ∀ (m : List Nat) k, (hd ++ m).getD (hl + k) 0 = m.getD k 0 := fun m k => by
                rw [Hhl.out]; simp [List.getD, List.getElem?_append_right]
              have hget2 : ∀ (m m' : List Nat) k, k < hl → (hd ++ m).getD k 0 = (hd ++ m').getD k 0 := fun m m' k hk => by
                rw [Hhl.out] at hk
                simp [List.getD, List.getElem?_append_left hk]
              rw [hget] at ck
              have Hput := Lib.hid (hput ((bodyN (lst ++ [false])).getD q 0 + 2 ^ t) (hd ++ bodyN (lst ++ [true])) (by rw [List.length_append, List.length_append, t3, t4]) (fun k hk => by
                rcases Nat.lt_or_ge k hl with e | e
                · exact hget2 _ _ k e
                · obtain ⟨k', rfl⟩ : ∃ k', k = hl + k' := ⟨k - hl, by omega⟩
                  rw [hget, hget]
                  exact t1 k' (by omega)) (by rw [hget, t2]))
              obtain ⟨old, hold⟩ : ∃ old, old = (bodyN (lst ++ [false])).getD q 0 := ⟨_, rfl⟩
              rw [← hold] at ck Hput t5
              obtain ⟨pt, hpt⟩ : ∃ pt, pt = 2 ^ t := ⟨_, rfl⟩
              rw [← hpt] at t5 Hput
              have e1 : IntKind.u8.wrap ((2 : Int) ^ t) = (pt : Int) := by
                have e : (2 : Int) ^ t = ((pt : Nat) : Int) := by rw [hpt]; simp
                rw [e]; exact u8_wrap (by omega)
              have e2 : IntKind.u8.wrap ((old : Int) + (pt : Int)) = ((old + pt : Nat) : Int) := u8_wrap (k := old + pt) (by omega)
              obtain ⟨K, hK⟩ : ∃ K, K = hl + q := ⟨_, rfl⟩
              rw [← hK] at ck fk Hput ⊢
              obtain ⟨M, hM⟩ : ∃ M, M = K + 1 := ⟨_, rfl⟩
              rw [← hM] at Hput ⊢
              have hKi : (M : Int) - 1 = (K : Int) := by omega
              have hKM : K < M := by omega
              have hwK : IntKind.i64.wrap (K : Int) = (K : Int) := wrap_nat (by omega)
              have hM0 : M ≤ 1000 := by
                have : q ≤ 850 := by omega
                omega
              clear hM
              have hK860 : K ≤ 900 := by
                have : q ≤ 850 := by omega
                omega
              clear hput hget hget2 t1 t2 t3 t4 t5 hKl hold hpt hK
              go_upto_region 21 with fail
              clear c1' c2'
              refine region_tail 10 (by kernel_rfl) (by kernel_rfl) ?_
              have cK : w6.drew.cell? ⟨g2, K, none⟩ = some (.int .u8 (old : Int)) := ck
              have fK : w6.drew.frozen? ⟨g2, K, none⟩ = false := fk
              clear ck fk
              have Hput2 := Lib.hid (show PkSt w5 (w6.drew.setCell ⟨g2, K, none⟩ (.int .u8 ((old + pt : Nat) : Int))) w3.heap.size w4.heap.size (.slice (some ⟨g2, 0, none⟩) M cp2) (hd ++ bodyN (lst ++ [true])) from Hput.out.drew)
              clear Hput
              generalize w6.drew = w7 at *
              simp only [List.take_succ_cons, List.take_zero, List.drop_succ_cons, List.drop_zero]
              repeat still_step
              refine wpStill_nil ?_
              go_wp2
              go_roundg (j - (i + 1))
              case measure => go_light; omega
              case rel => exact ⟨i + 1, t, by omega, rfl, by go_num, rfl, by rw [Hsn.out]; exact Hk1'.out, by rw [Hsn.out]; exact Hput2.out⟩
          · obtain rfl : i = j := by omega
            have Hst5 := Lib.hid (show PkSt w5 wr w3.heap.size w4.heap.size _ (hd ++ bodyN (preB (adj l) (i + 1) ++ colB (adj l) (i + 1) 0)) from (show preB (adj l) (i + 1) ++ colB (adj l) (i + 1) 0 = preB (adj l) i ++ colB (adj l) i i from List.append_nil _) ▸ Hst3.out)
            have Hk5 := Lib.hid (show k1 = (6 - (preB (adj l) (i + 1)).length % 6) % 6 from Hk1.out)
            go_wp2
            go_roundg (N - (i + 1))
            case measure => go_light; omega
            case rel => exact ⟨i + 1, k1, by omega, rfl, by go_num, rfl, Hk5.out, Hst5.out⟩
      · obtain rfl : j = N := by omega
        have hb6 : Below w3.heap.size w5 wr := Hst2.out.ch.toBelow (by omega) (fun k hk hs => by omega)
        have hB3 := H3.out.hz.lt
        have H6 := Lib.hid (H5.out.low hb6 hB3 H3.out.hb.size)
        have hpk : hd ++ bodyN (preB (adj l) j ++ colB (adj l) j 0) = packN j (adj l) := by
          rw [show preB (adj l) j ++ colB (adj l) j 0 = preB (adj l) j from List.append_nil _, Hhd.out]; rfl
        have how := Hst2.out.own
        rw [hpk] at how
        have hlen0 : 0 < (packN j (adj l)).length := by
          rw [← hpk, List.length_append, ← Hhl.out]; omega
        obtain ⟨a1, c1, rfl⟩ := ownsRow_form how
        have hconv := how.string hlen0 (packN_byte hN)
        have b0 := H6.out.hz.cell (show 0 < 2 by omega)
        have b1 := H6.out.hz.cell (show 1 < 2 by omega)
        have d0 := H6.out.hz.frozen 0
        have d1 := H6.out.hz.frozen 1
        have hBl := H6.out.hz.lt
        generalize hpl : (packN j (adj l)).length = pl at *
        obtain ⟨ps, hps⟩ : ∃ ps, ps = packS j (adj l) := ⟨_, rfl⟩
        rw [show (⟨(u8L (packN j (adj l))).toArray⟩ : ByteArray) = ps from hps.symm] at hconv
        have Hps := Lib.hid hps
        clear how hlen0 hpk hb6 hpl hps
        go_wp2
        obtain ⟨e0, e1, e2⟩ := H6.out.put (.int .i64 0) (.int .i64 0)
        exact bodyPost_ret (v := .tuple #[.string ps, .agg #[.int .i64 0, .int .i64 0]]) (by simp [results, Tryd.results8, go_sem, e0, e1]) rfl ⟨0, 0, _, rfl, Hsp.out, e2, Or.inr ⟨rfl, rfl, j, rfl, Hps.out⟩⟩
  · have q : (c != 0) = true := by simp [hc]
    have Hc := Lib.hid hc
    clear hc
    have b0 := H3.out.hz.cell (show 0 < 2 by omega)
    have b1 := H3.out.hz.cell (show 1 < 2 by omega)
    have d0 := H3.out.hz.frozen 0
    have d1 := H3.out.hz.frozen 1
    have hBl := H3.out.hz.lt
    go_wp2
    go_region
    all_goals
      obtain ⟨e0, e1, e2⟩ := H3.out.put (.int .i64 c) (.int .i64 a)
      go_wp2
      exact bodyPost_ret (v := .tuple #[.string ⟨#[]⟩, .agg #[.int .i64 c, .int .i64 a]]) (by simp [results, Tryd.results8, go_sem, e0, e1]) rfl ⟨c, a, _, rfl, Hsp.out, e2.drew, Or.inl ⟨Hc.out, rfl⟩⟩

end Go.Proofs.YtokjcapheogkoaaDoor
