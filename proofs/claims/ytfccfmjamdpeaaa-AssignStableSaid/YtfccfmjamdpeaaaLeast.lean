/- assign.Least: the walk. -/
import Derived.Test.YtfccfmjamdpeaaaAdd
import Derived.Test.YtfccfmjamdpeaaaCost
namespace Go.Proofs.Ytfccfmjamdpeaaa
open Go.RowKit

/-- Two new rows, in either order, and the fault's own cell. -/
def TwoRows (w W : World) (n : Nat) (s12 s13 : Value) (wx : World) : Prop :=
  ∃ b f, s12 = .slice (some ⟨b, 0, none⟩) (n + 1) (n + 1) ∧ s13 = .slice (some ⟨f, 0, none⟩) (n + 1) (n + 1) ∧ b ≠ f ∧ W.heap.size ≤ b ∧ W.heap.size ≤ f ∧
    Below w.heap.size w wx ∧ Below W.heap.size W wx ∧ wx.rowIs b 3 (n + 1) (ri fun _ => 0) ∧ wx.rowIs f 3 (n + 1) (ri fun _ => 0)

theorem TwoRows.mk1 {w W : World} {n : Nat} (hc : Below w.heap.size w W) :
    TwoRows w W n (.slice (some ⟨W.heap.size, 0, none⟩) (n + 1) (n + 1)) (.slice (some ⟨W.heap.size + 1, 0, none⟩) (n + 1) (n + 1)) ((W.alloc (.cells (madeCells #[.int .i64 0] (n + 1)) 3)).alloc (.cells (madeCells #[.int .i64 0] (n + 1)) 3)) := by
  have h1 := World.rowIs_made W (.int .i64 0) (n + 1) 3
  have h2 := World.rowIs_made (W.alloc (.cells (madeCells #[.int .i64 0] (n + 1)) 3)) (.int .i64 0) (n + 1) 3
  have e : (W.alloc (.cells (madeCells #[.int .i64 0] (n + 1)) 3)).heap.size = W.heap.size + 1 := by simp
  rw [e] at h2
  have := hc.size
  exact ⟨W.heap.size, W.heap.size + 1, rfl, rfl, by omega, by omega, by omega, (hc.alloc (by omega) _).alloc (by simp; omega) _, below2 _ _ _, h1.alloc _, h2⟩

theorem TwoRows.mk2 {w W : World} {n : Nat} (hc : Below w.heap.size w W) :
    TwoRows w W n (.slice (some ⟨W.heap.size + 1, 0, none⟩) (n + 1) (n + 1)) (.slice (some ⟨W.heap.size, 0, none⟩) (n + 1) (n + 1)) ((W.alloc (.cells (madeCells #[.int .i64 0] (n + 1)) 3)).alloc (.cells (madeCells #[.int .i64 0] (n + 1)) 3)) := by
  obtain ⟨b, f, e1, e2, h1, h2, h3, h4, h5, h6, h7⟩ := TwoRows.mk1 (n := n) hc
  simp only [Value.slice.injEq, Option.some.injEq, Addr.mk.injEq, and_true] at e1 e2
  subst e1 e2
  exact ⟨_, _, rfl, rfl, by omega, h3, h2, h4, h5, h7, h6⟩

theorem TwoRows.drew {w W wx : World} {n : Nat} {s11 s12 : Value} (h : TwoRows w W n s11 s12 wx) : TwoRows w W n s11 s12 wx.drew := by
  obtain ⟨b, f, e1, e2, h1, h2, h3, h4, h5, h6, h7⟩ := h
  exact ⟨b, f, e1, e2, h1, h2, h3, h4.drew, h5.drew, h6, h7⟩

/-- The three rows that are handed on from row to row, and the fault's own cell. -/
structure L3 (w wr : World) (n bu bv br : Nat) (U V : Nat → Int) (R : Nat → Nat) : Prop where
  hb : Below w.heap.size w wr
  hz : wr.rowIs w.heap.size 27 2 (fun _ => .int .i64 0)
  hu : wr.rowIs bu 3 (n + 1) (ri U)
  hv : wr.rowIs bv 3 (n + 1) (ri V)
  hr : wr.rowIs br 3 (n + 1) (rn R)

theorem L3.start {w wc : World} {n bu bv : Nat} (h1 : Below w.heap.size w wc) (h2 : Below (w.alloc (Obj.cells #[Value.int IntKind.i64 0, Value.int IntKind.i64 0] 27)).heap.size (w.alloc (Obj.cells #[Value.int IntKind.i64 0, Value.int IntKind.i64 0] 27)) wc)
    (hu : wc.rowIs bu 3 (n + 1) (ri fun _ => 0)) (hv : wc.rowIs bv 3 (n + 1) (ri fun _ => 0)) :
    L3 w (wc.alloc (.cells (madeCells #[.int .i64 0] (n + 1)) 3)) n bu bv wc.heap.size (fun _ => 0) (fun _ => 0) (fun _ => 0) := by
  have hz := World.rowIs_alloc w #[Value.int IntKind.i64 0, Value.int IntKind.i64 0] 27 (fun _ => .int .i64 0) (fun i hi => by
    match i, hi with
    | 0, _ => rfl
    | 1, _ => rfl)
  exact ⟨h1.alloc h1.size _, (hz.of_block (h2.block _ (by simp))).alloc _, hu.alloc _, hv.alloc _, World.rowIs_made wc (.int .i64 0) (n + 1) 3⟩

theorem L3.chg {w wr w' : World} {n bu bv br : Nat} {U V U' V' : Nat → Int} {R R' : Nat → Nat} (h : L3 w wr n bu bv br U V R) (hc : Chg (fun k => k = bu ∨ k = bv ∨ k = br) wr w') (h1 : w.heap.size < bu) (h2 : w.heap.size < bv) (h3 : w.heap.size < br)
    (hu : w'.rowIs bu 3 (n + 1) (ri U')) (hv : w'.rowIs bv 3 (n + 1) (ri V')) (hr : w'.rowIs br 3 (n + 1) (rn R')) : L3 w w' n bu bv br U' V' R' :=
  ⟨h.hb.trans (hc.toBelow h.hb.size (fun k hk hs => by omega)), hc.rowIs h.hz (by omega), hu, hv, hr⟩

theorem L3.alloc {w wr : World} {n bu bv br : Nat} {U V : Nat → Int} {R : Nat → Nat} (h : L3 w wr n bu bv br U V R) (o : Obj) : L3 w (wr.alloc o) n bu bv br U V R :=
  ⟨h.hb.alloc h.hb.size _, h.hz.alloc _, h.hu.alloc _, h.hv.alloc _, h.hr.alloc _⟩

theorem L3.setOther {w wr : World} {n bu bv br : Nat} {U V : Nat → Int} {R : Nat → Nat} (h : L3 w wr n bu bv br U V R) {p : Addr} (x : Value) (h0 : w.heap.size < p.block) (h1 : bu ≠ p.block) (h2 : bv ≠ p.block) (h3 : br ≠ p.block) : L3 w (wr.setCell p x) n bu bv br U V R :=
  ⟨h.hb.setCell (Nat.le_of_lt h0) _, h.hz.setOther (Nat.ne_of_lt h0) _, h.hu.setOther h1 _, h.hv.setOther h2 _, h.hr.setOther h3 _⟩

/-- The sum of the first k. -/
def sumTo (m : List (List Int)) (G : Nat → Nat) (k : Nat) : Int := ((List.range k).map fun i => (m.getD i []).getD (G i) 0).sum
theorem sumTo_succ (m : List (List Int)) (G : Nat → Nat) (k : Nat) : sumTo m G (k + 1) = sumTo m G k + (m.getD k []).getD (G k) 0 := by
  simp [sumTo, List.range_succ]

theorem add_is (x : Int) (m : List (List Int)) (s : Value) (w00 w : World) (hm : IsRows w00 s m) (hbw : Below w00.heap.size w00 w) (n i : Nat) (hx : x = i) (hn : m.length = n) (hn1 : n ≤ 100) (hin : i ≤ n) (hrl : ∀ r, r < n → (m.getD r []).length = n) (hbd : Bnd n (ent m))
    (u v r : Nat) (hu0 : w00.heap.size ≤ u) (hv0 : w00.heap.size ≤ v) (hr0 : w00.heap.size ≤ r) (huv : u ≠ v) (hur : u ≠ r) (hvr : v ≠ r) (U V : Nat → Int) (R : Nat → Nat)
    (hu : w.rowIs u 3 (n + 1) (ri U)) (hv : w.rowIs v 3 (n + 1) (ri V)) (hr : w.rowIs r 3 (n + 1) (rn R)) (hp : Pre n i (ent m) U V R) :
    Calls Try.prog 84 #[s, .slice (some ⟨u, 0, none⟩) (n + 1) (n + 1), .slice (some ⟨v, 0, none⟩) (n + 1) (n + 1), .slice (some ⟨r, 0, none⟩) (n + 1) (n + 1), .int .i64 x] w (AddPost n i (ent m) u v r w) := by
  subst hx
  exact add_any m s w00 w hm hbw n i hn hn1 hin hrl hbd u v r hu0 hv0 hr0 huv hur hvr U V R hu hv hr hp

/-- What Least answers where the costs are as they must be: columns, rows' and columns' numbers, the sum. -/
def LeastOk (m : List (List Int)) (T : List Int) (P Q : List Int) (total : Int) : Prop :=
  T.length = m.length ∧ P.length = m.length ∧ Q.length = m.length ∧
  (∀ i, i < m.length → 0 ≤ T.getD i 0 ∧ T.getD i 0 < m.length) ∧
  (∀ i j, i < m.length → j < i → T.getD j 0 ≠ T.getD i 0) ∧
  (∀ i, i < m.length → -1000000000 ≤ P.getD i 0 ∧ P.getD i 0 ≤ 1000000000) ∧
  (∀ i, i < m.length → -1000000000 ≤ Q.getD i 0 ∧ Q.getD i 0 ≤ 1000000000) ∧
  (∀ i j, i < m.length → j < m.length → P.getD i 0 + Q.getD j 0 ≤ (m.getD i []).getD j 0) ∧
  (∀ i, i < m.length → P.getD i 0 + Q.getD (T.getD i 0).toNat 0 = (m.getD i []).getD (T.getD i 0).toNat 0) ∧
  total = ((List.range m.length).map fun i => (m.getD i []).getD (T.getD i 0).toNat 0).sum

def LeastPost (m : List (List Int)) (w : World) (e : Ending) (w' : World) : Prop :=
  Below w.heap.size w w' ∧
  ((∃ c a, CostSpec m c a ∧ c ≠ 0 ∧ e = .returned (.tuple #[.slice none 0 0, .slice none 0 0, .slice none 0 0, .int .i64 0, .agg #[.int .i64 c, .int .i64 a]])) ∨
   (CostSpec m 0 0 ∧ ∃ t p q T P Q total, LeastOk m T P Q total ∧ IsInts w' t T ∧ IsInts w' p P ∧ IsInts w' q Q ∧ e = .returned (.tuple #[t, p, q, .int .i64 total, .agg #[.int .i64 0, .int .i64 0]])))

theorem getD_map_range {α : Type} {n i : Nat} {f : Nat → α} {d : α} (h : i < n) : ((List.range n).map f).getD i d = f i := by simp [List.getD, h]

theorem least_ok {m : List (List Int)} {n : Nat} (hn : m.length = n) (hn1 : n ≤ 100) {U V : Nat → Int} {R G : Nat → Nat} (hp : Pre n (n + 1) (ent m) U V R) (hG : ∀ j, 1 ≤ j → j ≤ n → G (R j - 1) = j - 1) :
    LeastOk m ((List.range n).map fun i => (G i : Int)) ((List.range n).map fun i => U (i + 1)) ((List.range n).map fun i => V (i + 1)) ((List.range n).map fun i => (m.getD i []).getD (G i) 0).sum := by
  have hGi : ∀ i, i < n → G i < n ∧ R (G i + 1) = i + 1 := fun i hi => by
    obtain ⟨k, k1, k2, k3⟩ := hp.sur (i + 1) (by omega) (by omega)
    have := hG k k1 k2
    rw [k3] at this
    have e : G i = k - 1 := this
    rw [e]
    exact ⟨by omega, by rw [show k - 1 + 1 = k from by omega]; exact k3⟩
  refine ⟨by simp [hn], by simp [hn], by simp [hn], fun i hi => ?_, fun i j hi hj => ?_, fun i hi => ?_, fun i hi => ?_, fun i j hi hj => ?_, fun i hi => ?_, ?_⟩
  · rw [hn] at hi ⊢
    rw [getD_map_range hi]
    have := (hGi i hi).1; omega
  · rw [hn] at hi
    rw [getD_map_range hi, getD_map_range (show j < n by omega)]
    intro e
    have h1 := (hGi i hi).2
    have h2 := (hGi j (by omega)).2
    rw [show G j = G i from by omega] at h2
    omega
  · rw [hn] at hi
    rw [getD_map_range hi]
    have := hp.Ulo (i + 1) (by omega) (by omega)
    have := hp.Uhi (i + 1) (by omega) (by omega)
    omega
  · rw [hn] at hi
    rw [getD_map_range hi]
    have := hp.Vlo (i + 1) (by omega) (by omega)
    have := hp.Vle (i + 1) (by omega) (by omega)
    omega
  · rw [hn] at hi hj
    rw [getD_map_range hi, getD_map_range hj]
    exact hp.fea (i + 1) (j + 1) (by omega) (by omega) (by omega) (by omega)
  · rw [hn] at hi
    obtain ⟨h1, h2⟩ := hGi i hi
    rw [getD_map_range hi, getD_map_range hi, Int.toNat_natCast, getD_map_range h1]
    have := hp.tig (G i + 1) (by omega) (by omega) (by omega)
    rw [h2] at this
    exact this
  · rw [hn]
    congr 1
    refine List.map_congr_left fun i hi => ?_
    rw [getD_map_range (by simpa using hi), Int.toNat_natCast]

theorem fault_any (c a : Int) (w : World) :
    Calls Try.prog 83 #[.int .i64 c, .int .i64 a] w fun e w' => e = .returned (.agg #[.int .i64 c, .int .i64 a]) ∧ w.alloc (.cells #[.int .i64 c, .int .i64 a] 27) = w' := by
  go_enter Try.func83, Try.ntmps83
  go_wp2
  exact bodyPost_ret (v := .agg #[.int .i64 c, .int .i64 a]) (by simp [results, Try.results83, go_sem]) rfl ⟨rfl, rfl⟩

set_option maxHeartbeats 1600000 in
set_option maxRecDepth 100000 in
theorem least_any (m : List (List Int)) (s : Value) (w : World) (h : IsRows w s m) :
    Calls Try.prog 36 #[s] w (LeastPost m w) := by
  have hm := h
  obtain ⟨a, cap, b, o, rfl, hcap, hmax, hadr, -, hcell⟩ := h
  by_cases hbig : 100 < m.length
  · have hbig2 : (100 : Int) < (m.length : Int) := by omega
    go_enter Try.func36, Try.ntmps36
    go_wp2_with (go_at_call 83; refine (fault_any _ _ _).mono ?_; rintro e w1 ⟨rfl, rfl⟩)
    exact bodyPost_ret (v := .tuple #[.slice none 0 0, .slice none 0 0, .slice none 0 0, .int .i64 0, .agg #[.int .i64 2, .int .i64 0]]) (by simp [results, Try.results36, go_sem]) rfl ⟨below2 _ _ _, Or.inl ⟨2, 0, Or.inl ⟨hbig, rfl, rfl⟩, by omega, rfl⟩⟩
  · have hbig' : m.length ≤ 100 := by omega
    have Hbig := Lib.hid hbig'
    go_enter Try.func36, Try.ntmps36
    go_wp2
    have hbw : Below w.heap.size w (w.alloc (Obj.cells #[Value.int IntKind.i64 0, Value.int IntKind.i64 0] 27)) := below1 _ _
    go_loop [5, 26] (fun tt i => tt = .int .i64 0 ∧ ∃ k : Nat, k ≤ m.length ∧ i = .int .i64 k ∧ ∀ r, r < k → RowOk m r) (fun _ i => m.length - (intOf i).toNat)
    case atStart => exact ⟨rfl, 0, Nat.zero_le _, rfl, fun _ h => absurd h (Nat.not_lt_zero _)⟩
    case round =>
      obtain ⟨rfl, k, hk, rfl, hok⟩ := hrel
      have Hok := Lib.hid hok; clear hok
      by_cases hlt : k < m.length
      · obtain rfl := hadr (by omega)
        obtain ⟨x, Hx, ra, rcap, hc, hr⟩ := rows_at hcell hbw hlt
        obtain ⟨ra', rcap', rb, ro, he, hrc, hrm, hra, -, hrcell⟩ := id hr
        simp only [Value.slice.injEq, true_and] at he
        obtain ⟨rfl, rfl⟩ := he
        clear hcell hadr hm
        by_cases hlen : x.length = m.length
        · have hl1 : ((x.length : Int) != (m.length : Int)) = false := by rw [hlen]; simp
          have hl2 : ((x.length : Int) == (m.length : Int)) = true := by rw [hlen]; simp
          have Hlen := Lib.hid hlen; clear hlen
          go_wp2
          clear hl1 hl2
          go_loop [5, 39] (fun tt i => tt = .int .i64 0 ∧ ∃ j : Nat, j ≤ x.length ∧ i = .int .i64 j ∧ ∀ r, r < j → -1000000 ≤ x.getD r 0 ∧ x.getD r 0 ≤ 1000000) (fun _ i => x.length - (intOf i).toNat)
          case atStart => exact ⟨rfl, 0, Nat.zero_le _, rfl, fun _ h => absurd h (Nat.not_lt_zero _)⟩
          case round =>
            obtain ⟨rfl, j, hj, rfl, hokj⟩ := hrel
            have Hokj := Lib.hid hokj; clear hokj
            by_cases hltx : j < x.length
            · have hltj : j < m.length := by have := Hlen.out; omega
              obtain rfl := hra (by omega)
              obtain ⟨z, Hz, hcz⟩ := ints_at hrcell (Below.refl _ _) hltx
              clear hrcell hra
              by_cases hz1 : z < -1000000
              · go_wp2_with (go_at_call 83; refine (fault_any _ _ _).mono ?_; rintro e w1 ⟨rfl, rfl⟩)
                exact bodyPost_ret (v := .tuple #[.slice none 0 0, .slice none 0 0, .slice none 0 0, .int .i64 0, .agg #[.int .i64 3, .int .i64 k]]) (by simp [results, Try.results36, go_sem]) rfl ⟨below2 _ _ _, Or.inl ⟨_, _, CostSpec.range Hbig.out hlt Hok.out Hx.out Hlen.out hltj Hz.out (Or.inl hz1), by omega, rfl⟩⟩
              · by_cases hz2 : 1000000 < z
                · go_wp2_with (go_at_call 83; refine (fault_any _ _ _).mono ?_; rintro e w1 ⟨rfl, rfl⟩)
                  exact bodyPost_ret (v := .tuple #[.slice none 0 0, .slice none 0 0, .slice none 0 0, .int .i64 0, .agg #[.int .i64 3, .int .i64 k]]) (by simp [results, Try.results36, go_sem]) rfl ⟨below2 _ _ _, Or.inl ⟨_, _, CostSpec.range Hbig.out hlt Hok.out Hx.out Hlen.out hltj Hz.out (Or.inr hz2), by omega, rfl⟩⟩
                · go_wp2
                  go_round
                  case rel => exact ⟨rfl, j + 1, by omega, by go_num, fun r hr => by
                    by_cases e : r = j
                    · rw [e, Hz.out]; omega
                    · exact Hokj.out r (by omega)⟩
                  case measure => simp [intOf]; omega
            · go_wp2
              go_round
              case rel => exact ⟨rfl, k + 1, by omega, by go_num, fun r hr => by
                by_cases e : r = k
                · rw [e]; exact ⟨by rw [Hx.out]; exact Hlen.out, fun q hq => by rw [Hx.out]; exact Hokj.out q (by have := Hlen.out; omega)⟩
                · exact Hok.out r (by omega)⟩
              case measure => simp [intOf]; omega
        · have hl1 : ((x.length : Int) != (m.length : Int)) = true := by simp; omega
          have hl2 : ((x.length : Int) == (m.length : Int)) = false := by simp; omega
          have Hlen := Lib.hid hlen; clear hlen
          go_wp2_with (go_at_call 83; refine (fault_any _ _ _).mono ?_; rintro e w1 ⟨rfl, rfl⟩)
          exact bodyPost_ret (v := .tuple #[.slice none 0 0, .slice none 0 0, .slice none 0 0, .int .i64 0, .agg #[.int .i64 6, .int .i64 k]]) (by simp [results, Try.results36, go_sem]) rfl ⟨below2 _ _ _, Or.inl ⟨_, _, CostSpec.size Hbig.out hlt Hok.out Hx.out Hlen.out, by omega, rfl⟩⟩
      · obtain rfl : k = m.length := by omega
        have hn0 : m.length ≤ 100 := Hbig.out
        generalize hn : m.length = n at *
        have hrl : ∀ r, r < n → (m.getD r []).length = n := fun r hr => by rw [← hn]; exact (Hok.out r (by omega)).1
        have hbd : Bnd n (ent m) := fun r k a b e f => by unfold ent; exact (Hok.out (r - 1) (by omega)).2 (k - 1) (by omega)
        have hspec : CostSpec m 0 0 := Or.inr (Or.inr ⟨by omega, fun r hr => Hok.out r (by omega), rfl, rfl⟩)
        have Hn := Lib.hid hn; have Hrl := Lib.hid hrl; have Hbd := Lib.hid hbd; have Hspec := Lib.hid hspec
        clear hn hrl hbd hspec hlt hk
        have hmk3 := run_make_row' (P := Try.prog) 51 3 (.int .i64 0) 8 Try.underlying51 info3 rfl .i64 .i64 (n + 1) (by omega) (by omega)
        have hmk := run_make_row' (P := Try.prog) 51 3 (.int .i64 0) 8 Try.underlying51 info3 rfl .i64 .i64 n (by omega) (by omega)
        have ec : ((n + 1 : Nat) : Int) = (n : Int) + 1 := by omega
        rw [ec] at hmk3
        clear ec
        have Hbw := Lib.hid hbw
        clear hbw
        go_wp2
        go_cut [12, 13] (fun s12 s13 wx => TwoRows w (w.alloc (Obj.cells #[Value.int IntKind.i64 0, Value.int IntKind.i64 0] 27)) n s12 s13 wx)
        case first =>
          go_region
          all_goals
            go_wp2
            go_meet
          case rel =>
            have h := (TwoRows.mk1 (n := n) Hbw.out).drew
            rw [World.size_alloc] at h
            exact h
          case rel =>
            have h := (TwoRows.mk2 (n := n) Hbw.out).drew
            rw [World.size_alloc] at h
            exact h
        case rest =>
          obtain ⟨bu, bv, rfl, rfl, huv, hu0, hv0, hb1, hb2, hu, hv⟩ := hcut
          have hl3 := L3.start hb1 hb2 hu hv
          have lu := hu.lt
          have lv := hv.lt
          simp only [World.size_alloc] at hu0 hv0
          have Hl3 := Lib.hid hl3
          clear hl3 hu hv hb2
          go_wp2
          clear hmk3
          generalize hbre : wc.heap.size = br at *
          generalize wc.alloc (Obj.cells (madeCells #[Value.int IntKind.i64 0] (n + 1)) 3) = w1 at *
          have hbr0 : w.heap.size < br := by omega
          have hbu0 : w.heap.size < bu := by omega
          have hbv0 : w.heap.size < bv := by omega
          have hur : bu ≠ br := by omega
          have hvr : bv ≠ br := by omega
          clear lu lv hb1 hbre hu0 hv0
          go_loopg [15] n (fun g s15 wr => ∃ (k : Nat) (U V : Nat → Int) (R : Nat → Nat), k ≤ n ∧ g = n - k ∧ s15 = .int .i64 ((k : Int) + 1) ∧ L3 w wr n bu bv br U V R ∧ Pre n (k + 1) (ent m) U V R)
          case atStart => exact ⟨0, _, _, _, Nat.zero_le _, rfl, rfl, Hl3.out, Pre.start n _⟩
          case round =>
            obtain ⟨k, U, V, R, hk, rfl, rfl, h3, hp⟩ := hrel
            by_cases hlt : k < n
            · have H3 := Lib.hid h3; have Hp := Lib.hid hp; have Hm := Lib.hid hm
              clear h3 hp hmk
              go_wp2_with (go_at_call 84; refine (add_is _ m _ w wr Hm.out H3.out.hb n (k + 1) (by omega) Hn.out hn0 (by omega) Hrl.out Hbd.out bu bv br (by omega) (by omega) (by omega) huv hur hvr U V R H3.out.hu H3.out.hv H3.out.hr Hp.out).mono ?_; rintro e w2 ⟨U', V', R', rfl, hc, hu', hv', hr', hp'⟩)
              go_roundg (n - (k + 1))
              case measure => go_light; omega
              case rel => exact ⟨k + 1, U', V', R', by omega, rfl, by go_num, H3.out.chg hc hbu0 hbv0 hbr0 hu' hv' hr', hp'⟩
            · obtain rfl : n = k := by omega
              have H3 := Lib.hid h3; have Hp := Lib.hid hp; have Hm := Lib.hid hm
              have lr := h3.hr.lt
              have lu := h3.hu.lt
              have lv := h3.hv.lt
              have ht := World.rowIs_made wr (.int .i64 0) n 3
              have h3a := h3.alloc (Obj.cells (madeCells #[.int .i64 0] n) 3)
              have Ht := Lib.hid ht; have H3a := Lib.hid h3a
              clear h3 hp ht h3a hm
              go_wp2
              clear hmk
              generalize hbte : wr.heap.size = bt at *
              generalize wr.alloc (Obj.cells (madeCells #[Value.int IntKind.i64 0] n) 3) = w3 at *
              have hbt0 : w.heap.size < bt := by omega
              have hub : bu ≠ bt := by omega
              have hvb : bv ≠ bt := by omega
              have hrb : br ≠ bt := by omega
              have hR0 : ∀ j, 1 ≤ j → j ≤ n → 1 ≤ R j ∧ R j ≤ n := Hp.out.full.1
              have hRi := Hp.out.full.2
              have HR0 := Lib.hid hR0; have HRi := Lib.hid hRi
              clear hbte lu lv lr hR0 hRi H3
              go_loopg [16] n (fun g s16 wr => ∃ (q : Nat) (G : Nat → Nat), q ≤ n ∧ g = n - q ∧ s16 = .int .i64 ((q : Int) + 1) ∧ L3 w wr n bu bv br U V R ∧ wr.rowIs bt 3 n (rn G) ∧ ∀ j, 1 ≤ j → j ≤ q → G (R j - 1) = j - 1)
              case atStart => exact ⟨0, fun _ => 0, Nat.zero_le _, rfl, rfl, H3a.out, Ht.out, fun j a b => by omega⟩
              case round =>
                obtain ⟨q, G, hq, rfl, rfl, h3, ht, hG⟩ := hrel
                by_cases hlt : q < n
                · obtain ⟨g1, g2⟩ := HR0.out (q + 1) (by omega) (by omega)
                  obtain ⟨rj, hrj⟩ : ∃ rj, R (q + 1) = rj + 1 := ⟨R (q + 1) - 1, by omega⟩
                  rw [hrj] at g1 g2
                  have cr0 := h3.hr.cell (show q + 1 < n + 1 by omega)
                  have cr : wr.cell? ⟨br, q + 1, none⟩ = some (.int .i64 ((rj : Int) + 1)) := by rw [cr0]; simp only [rn, hrj]; rfl
                  have ct := ht.cell (show rj < n by omega)
                  have zt := ht.frozen rj
                  have hG2 : ∀ j, 1 ≤ j → j ≤ q + 1 → (fun p => if p = rj then q else G p) (R j - 1) = j - 1 := fun j a b => by
                    by_cases e : j = q + 1
                    · rw [e, hrj]; simp
                    · have : R j - 1 ≠ rj := fun e2 => e (HRi.out j (q + 1) a (by omega) (by omega) (by omega) (by have := (HR0.out j a (by omega)).1; omega))
                      show (if R j - 1 = rj then q else G (R j - 1)) = j - 1
                      rw [if_neg this]; exact hG j a (by omega)
                  have fin1 := h3.setOther (p := ⟨bt, rj, none⟩) (.int .i64 (q : Int)) hbt0 hub hvb hrb
                  have fin2 := row_set_rn ht rj q
                  have Fin1 := Lib.hid fin1; have Fin2 := Lib.hid fin2; have HG := Lib.hid hG2
                  clear fin1 fin2 hG hG2 h3 ht cr0 hrj
                  simp only [rn] at ct
                  go_wp2
                  go_roundg (n - (q + 1))
                  case measure => go_light; omega
                  case rel => exact ⟨q + 1, _, by omega, rfl, by go_num, Fin1.out, Fin2.out, HG.out⟩
                · obtain rfl : n = q := by omega
                  have hok := least_ok Hn.out hn0 Hp.out hG
                  have hGlt : ∀ i, i < n → G i < n := fun i hi => by
                    obtain ⟨k, k1, k2, k3⟩ := Hp.out.sur (i + 1) (by omega) (by omega)
                    have := hG k k1 k2
                    rw [k3] at this
                    have e : G i = k - 1 := this
                    omega
                  have H3 := Lib.hid h3; have Ht := Lib.hid ht; have Hok := Lib.hid hok; have HGl := Lib.hid hGlt
                  clear h3 ht hok hGlt hG
                  go_wp2
                  go_loop [5, 91] (fun s5 s91 => ∃ q : Nat, q ≤ n ∧ s91 = .int .i64 q ∧ s5 = .int .i64 (sumTo m G q) ∧ -1000000 * (q : Int) ≤ sumTo m G q ∧ sumTo m G q ≤ 1000000 * (q : Int)) (fun _ i => n - (intOf i).toNat)
                  case atStart => exact ⟨0, Nat.zero_le _, rfl, rfl, by simp [sumTo], by simp [sumTo]⟩
                  case round =>
                    obtain ⟨q, hq, rfl, rfl, hs1, hs2⟩ := hrel
                    by_cases hlt : q < n
                    · have ct := Ht.out.cell hlt
                      simp only [rn] at ct
                      have hgl := HGl.out q hlt
                      obtain rfl := hadr (by omega)
                      obtain ⟨x, Hx, ra, rcap, hc, hr⟩ := rows_at (m := m) (w := w) (b := b) (o := o) (k := q) (by rw [Hn.out]; exact hcell) H3.out.hb (show q < m.length by have := Hn.out; omega)
                      have hxl : x.length = n := by rw [← Hx.out]; exact Hrl.out q hlt
                      obtain ⟨ra', rcap', rb, ro, he, hrc, hrm, hra, -, hrcell⟩ := id hr
                      simp only [Value.slice.injEq, true_and] at he
                      obtain ⟨rfl, rfl⟩ := he
                      obtain rfl := hra (by omega)
                      obtain ⟨z, Hz, hcz⟩ := ints_at hrcell (Below.refl _ _) (show G q < x.length by omega)
                      have bz := Hbd.out (q + 1) (G q + 1) (by omega) (by omega) (by omega) (by omega)
                      have hez : ent m (q + 1) (G q + 1) = z := by unfold ent; rw [show q + 1 - 1 = q from rfl, show G q + 1 - 1 = G q from rfl, Hx.out]; exact Hz.out
                      rw [hez] at bz
                      have hss : sumTo m G (q + 1) = sumTo m G q + z := by rw [sumTo_succ, Hx.out, Hz.out]
                      have Hss := Lib.hid hss
                      clear hss hrcell hrm hrc hra hcell hadr hez hr
                      generalize hgq : G q = gq at *
                      generalize hsq : sumTo m G q = sq at *
                      have Hgq := Lib.hid hgq; have Hsq := Lib.hid hsq; have Hxl := Lib.hid hxl
                      have hxl2 : n ≤ x.length := by omega
                      clear hgq hsq hxl
                      go_wp2
                      go_round
                      case rel => exact ⟨q + 1, by omega, by go_num, by rw [Hss.out], by rw [Hss.out]; omega, by rw [Hss.out]; omega⟩
                      case measure => simp [intOf]; omega
                    · obtain rfl : n = q := by omega
                      obtain ⟨i3, hi3, -, hsz3, -⟩ := info_parts info3
                      have hsl1 := run_slice_tail (P := Try.prog) Try.underlying51 hi3 hsz3 bu n
                      have hsl2 := run_slice_tail (P := Try.prog) Try.underlying51 hi3 hsz3 bv n
                      have cz0 := H3.out.hz.cell (show 0 < 2 by omega)
                      have cz1 := H3.out.hz.cell (show 1 < 2 by omega)
                      have zz0 := H3.out.hz.frozen 0
                      have zz1 := H3.out.hz.frozen 1
                      clear hi3 hsz3 hs1 hs2 hcell hadr
                      go_wp2
                      have Hcz0 := Lib.hid cz0; have Hcz1 := Lib.hid cz1
                      generalize hsn : sumTo m G n = sn at *
                      have Hsn := Lib.hid hsn
                      clear hsn
                      go_region
                      all_goals
                        go_wp2
                      have hzz := H3.out.hz
                      have e0 := ((hzz.set 0 (.int .i64 0)).set 1 (.int .i64 0)).drew.cell (show 0 < 2 by omega)
                      have e1 := ((hzz.set 0 (.int .i64 0)).set 1 (.int .i64 0)).drew.cell (show 1 < 2 by omega)
                      simp only [] at e0 e1
                      refine bodyPost_ret (v := .tuple #[.slice (some ⟨bt, 0, none⟩) n n, .slice (tailAt bu n) n n, .slice (tailAt bv n) n n, .int .i64 sn, .agg #[.int .i64 0, .int .i64 0]]) (by simp [results, Try.results36, go_sem, e0, e1]) rfl ?_
                      have q1 := (((H3.out.hb.setCell (Nat.le_refl _) (.int .i64 0) (p := ⟨w.heap.size, 0, none⟩)).setCell (Nat.le_refl _) (.int .i64 0) (p := ⟨w.heap.size, 1, none⟩))).drew
                      have q2 := (((H3.out.hu.setOther (a := ⟨w.heap.size, 0, none⟩) (Ne.symm (Nat.ne_of_lt hbu0)) (.int .i64 0)).setOther (a := ⟨w.heap.size, 1, none⟩) (Ne.symm (Nat.ne_of_lt hbu0)) (.int .i64 0))).drew
                      have q3 := (((H3.out.hv.setOther (a := ⟨w.heap.size, 0, none⟩) (Ne.symm (Nat.ne_of_lt hbv0)) (.int .i64 0)).setOther (a := ⟨w.heap.size, 1, none⟩) (Ne.symm (Nat.ne_of_lt hbv0)) (.int .i64 0))).drew
                      have q4 := (((Ht.out.setOther (a := ⟨w.heap.size, 0, none⟩) (Ne.symm (Nat.ne_of_lt hbt0)) (.int .i64 0)).setOther (a := ⟨w.heap.size, 1, none⟩) (Ne.symm (Nat.ne_of_lt hbt0)) (.int .i64 0))).drew
                      exact ⟨q1, Or.inr ⟨Hspec.out, _, _, _, _, _, _, _, by rw [← Hsn.out]; exact Hok.out, IsInts.ofRow q4 (by omega), IsInts.ofTail q2 (by omega), IsInts.ofTail q3 (by omega), rfl⟩⟩

end Go.Proofs.Ytfccfmjamdpeaaa
