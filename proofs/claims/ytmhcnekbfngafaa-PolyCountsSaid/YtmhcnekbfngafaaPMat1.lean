/- The function literal inside poly.Matchings. -/
import Derived.Test.YtmhcnekbfngafaaPB
import Derived.Test.YtmhcnekbfngafaaMemoM
import Derived.Test.YtmhcnekbfngafaaPD
import Derived.Deep.LoopGhost
import Derived.Deep.Light
import Derived.StillTailTactics
import Derived.Deep.RegionWith
namespace Go.Proofs.Ytmhcnekbfngafaa
open Go Go.RowKit

/-- What the function literal finds. -/
structure MEnv (w0 : World) (MM TT A GG b gb go gc N : Nat) (ga : Option Addr) (R : Nat → Nat) (l : EL) : Prop where
  cm : w0.cell? ⟨MM, 0, none⟩ = some (.map (some b))
  ct : w0.cell? ⟨TT, 0, none⟩ = some (.func (.func 55) #[] #[.pointer (some ⟨MM, 0, none⟩), .pointer (some ⟨TT, 0, none⟩), .pointer (some ⟨A, 0, none⟩), .pointer (some ⟨GG, 0, none⟩)])
  cn : w0.cell? ⟨A, 0, none⟩ = some (.int .i64 (N : Int))
  cg : w0.cell? ⟨GG, 0, none⟩ = some (.slice ga N gc)
  ga' : 0 < N → ga = some ⟨gb, go, none⟩
  gh : ∀ i, i < N → w0.cell? ⟨gb, go + i, none⟩ = some (.slice (some ⟨R i, 0, none⟩) N N)
  gr : ∀ i j, i < N → j < N → w0.cell? ⟨R i, j, none⟩ = some (.bool (adjE l i j))
  far : MM ≠ b ∧ TT ≠ b ∧ A ≠ b ∧ GG ≠ b ∧ (0 < N → gb ≠ b) ∧ ∀ i, i < N → R i ≠ b
theorem MEnv.chg {w0 w : World} {MM TT A GG b gb go gc N : Nat} {ga : Option Addr} {R : Nat → Nat} {l : EL} (h : MEnv w0 MM TT A GG b gb go gc N ga R l) (hc : Chg (· = b) w0 w) : MEnv w MM TT A GG b gb go gc N ga R l := by
  obtain ⟨f1, f2, f3, f4, f5, f6⟩ := h.far
  exact ⟨hc.cell h.cm f1, hc.cell h.ct f2, hc.cell h.cn f3, hc.cell h.cg f4, h.ga', fun i hi => hc.cell (h.gh i hi) (f5 (by omega)), fun i j hi hj => hc.cell (h.gr i j hi hj) (f6 i hi), h.far⟩

theorem wpList_put_memo {w w' : World} {ops : Array Oper} {rest : List Oper} {o : Oper} {a : Act} {Q : Exit → Act → World → Prop} (hg : o.guard = none) (m x y : Operand) (hop : o.op = Op.mapUpdate 83 m x y)
    {b : Nat} (hm : a.eval m = .map (some b)) {kv v : Value} (hx : a.eval x = kv) (hy : a.eval y = v) (hrun : (Instr.mapUpdate 83 (.map (some b)) kv v).run Try.prog w = .ok () w')
    (hK : wpList Try.prog ops Q rest (a.put o.dst undef) w') : wpList Try.prog ops Q (o :: rest) a w := by
  refine wpList_plain hg fun K' hK' => ?_
  unfold Oper.wp
  simp [execOp, hop, hm, hx, hy, hrun, Result.andThen]
  exact hK' _ _ hK

set_option maxHeartbeats 6400000 in
set_option maxRecDepth 100000 in
theorem pm1_any {N : Nat} {l : EL} (hN : N ≤ 12) (hl : GoodE N l) {w0 : World} {base MM TT A GG b gb go gc : Nat} {ga : Option Addr} {R : Nat → Nat} (henv : MEnv w0 MM TT A GG b gb go gc N ga R l) (hbb : b < base) : ∀ (k S n : Nat) (No : Nat → Prop) (w : World), S < k → S < 2 ^ N → Chg (· = b) w0 w → base ≤ w.heap.size →
    Memo w base b n N l true No → (∀ g, No g → g < w.heap.size) → n + 13 ^ cnt (fun i => S.testBit i) N ≤ 100000000000000 →
    Calls Try.prog 55 #[.int .i64 (S : Int), .pointer (some ⟨MM, 0, none⟩), .pointer (some ⟨TT, 0, none⟩), .pointer (some ⟨A, 0, none⟩), .pointer (some ⟨GG, 0, none⟩)] w fun e w' =>
      ∃ v L, e = .returned v ∧ 0 < L.length ∧ IsCnt L (matA l fun i => S.testBit i) ∧ OwnC w' base v L ∧ (∀ g, v.ownBlock = some g → ¬ No g) ∧ Chg (· = b) w w' ∧ Memo w' base b (n + 13 ^ cnt (fun i => S.testBit i) N) N l true No := by
  intro k
  induction k with
  | zero => intro S n No w h; omega
  | succ k ih =>
    intro S n No w hk hS hch hlb hm hNo hn
    have Ih := Lib.hid ih; have HS := Lib.hid hS; have Hch := Lib.hid hch; have Hm := Lib.hid hm; have HNo := Lib.hid hNo; have Hn := Lib.hid hn
    have hp : 2 ^ N ≤ 4096 := Nat.pow_le_pow_right (n := 2) (by decide) hN
    have hs4 : S < 4096 := by omega
    have hfew : Few S := by show S < 4611686018427387904; omega
    obtain ⟨mv0, hlook, hmv⟩ := hm.look hN hS
    have hE := henv.chg hch
    have cm := hE.cm
    clear ih hS hch hm hNo hp hn
    rcases hmv with ⟨rfl, hz⟩ | ⟨L, h0, hL, ho, hno⟩
    · have hz0 := hz rfl
      obtain ⟨c, hcN, hcb, hlow⟩ := low_bit hz0 HS.out
      have Hlow := Lib.hid hlow; have Hcb := Lib.hid hcb
      clear hlow hcb hz
      go_enter Try.func55, Try.ntmps55
      go_wp2
      clear hlook cm
      go_loopg [8] c (fun g s8 wr => ∃ v : Nat, v ≤ c ∧ g = c - v ∧ s8 = .int .i64 (v : Int) ∧ w = wr)
      case atStart => exact ⟨0, Nat.zero_le _, rfl, rfl, rfl⟩
      case round =>
        obtain ⟨v, hv, rfl, rfl, rfl⟩ := hrel
        have e3 := op_shr S v
        by_cases hvc : v < c
        · have e4 : bits .and .i64 (shr S v : Int) 1 = 0 := by rw [op_bit hfew, bit_zero (Hlow.out v hvc)]; rfl
          go_wp2
          go_roundg (c - (v + 1))
          case measure => go_light; omega
          case rel => exact ⟨v + 1, by omega, rfl, by go_num, rfl⟩
        · obtain rfl : v = c := by omega
          have e4 : bits .and .i64 (shr S v : Int) 1 = 1 := by rw [op_bit hfew, bit_one Hcb.out]; rfl
          clear hvc hv
          have e1 := op_shl (show v < 62 by omega)
          have e2 := op_andNot hfew (pow2_few (show v < 62 by omega))
          have Htl := Lib.hid (less_lt Hcb.out)
          have HT := Lib.hid (fun w => show (less S (pow2 v)).testBit w = (S.testBit w && !decide (v = w)) by rw [less_bit, pow2_bit])
          have HAll := Lib.hid (fun q => aU_all (l := l) (S := S) (v := v) hl Hcb.out q)
          have HF := Lib.hid (fun q => aU_first (N := N) (l := l) (T := less S (pow2 v)) (v := v) (fun w hw => by
            rw [HT.out]
            by_cases e : v = w
            · simp [e]
            · rw [Hlow.out w (by omega)]; rfl) q)
          have Hcn := Lib.hid (show cnt (fun i => (less S (pow2 v)).testBit i) N + 1 = cnt (fun i => S.testBit i) N by
            rw [← rm_bits]; exact cnt_rm Hcb.out hcN)
          have ct := hE.ct
          have HE := Lib.hid hE
          generalize ht : less S (pow2 v) = t at *
          clear ht hE
          obtain ⟨q, hq⟩ : ∃ q, q = 13 ^ cnt (fun i => t.testBit i) N := ⟨_, rfl⟩
          have hq1 : 1 ≤ q := by rw [hq]; exact Nat.pow_pos (by decide)
          have Hq := Lib.hid hq
          have Hq2 := Lib.hid (show 13 ^ cnt (fun i => S.testBit i) N = 13 * q by rw [← Hcn.out, Nat.pow_succ, hq]; omega)
          have hnq : n + 13 * q ≤ 100000000000000 := by have := Hn.out; rw [Hq2.out] at this; exact this
          clear hq
          have htN := Lib.hid (show t < 2 ^ N by have := Htl.out; have := HS.out; omega)
          go_upto_region 9 with (first
            | (go_at_call 55; refine (Ih.out t n No w (by have := Htl.out; omega) htN.out Hch.out hlb Hm.out HNo.out (by rw [← Hq.out]; omega)).mono ?_; rintro e w1 ⟨v1, L1, rfl, hL0, hL1, ho1, hno1, hch1, hm1⟩; have HL1 := Lib.hid hL1; have Ho1 := Lib.hid ho1; have hI1 := Lib.hid (IsInts.owned ho1); have Hch1 := Lib.hid hch1; have Hm1 := Lib.hid hm1; have hl1 := hL1.short (N := N) (fun k hk => matA_far l _ k (bits_ltN htN.out) (Nat.lt_of_le_of_lt (cnt_le _ N) hk)); obtain ⟨g1, cap1, rfl, -, -, -, -⟩ := OwnC.form ho1 hL0; have hz1 := hch1.size; clear hL1 ho1 hno1 hch1 hm1)
            | (at_builtin; refine wpList_append_has rfl (.const (.slice none 0 0)) (.tmp 33) 39 rfl w1.heap.size 3 (.int .i64 0) 8 Try.underlying39 info3 rfl _ 0 [] rfl (World.ownsRow_nil _ _ _ _) _ L1.length (L1.map (Value.int .i64)) rfl hI1.out.cells (by omega) (by omega) (by omega) ?_; intro a1 c1 w2 hown2 hg2; simp only [Nat.zero_add, List.nil_append] at hown2; have Hown2 := Lib.hid hown2; have Hg2 := Lib.hid hg2; clear hown2 hg2))
          have hck : CK w base b (n + (v + 1) * q) N l No w2 (.slice a1 L1.length c1) L1 := by
            have hb2 := below_grown0 Hg2.out
            have hm3 : Memo w2 base b (n + q) N l true (fun g => No g ∨ (Value.slice a1 L1.length c1).ownBlock = some g) := by
              have h1 := (Hm1.out.shun (No' := fun g => No g ∨ w1.heap.size ≤ g) (fun g e => e)).kept Hg2.out (fun g e => by cases e) (fun e => by cases e)
              rw [← Hq.out] at h1
              exact h1.weak fun g e => by
                rcases e with e | e
                · exact Or.inl e
                · exact Or.inr (World.ownsRow.lt Hown2.out g e).1
            refine ⟨ownsRow_low Hown2.out (by omega), fun g e => ?_, hm3.mono (by have := Nat.mul_le_mul_right q (show 1 ≤ v + 1 by omega); omega), ?_, hbb, hlb⟩
            · have := (World.ownsRow.lt Hown2.out g e).1
              omega
            · exact Hch1.out.trans (Chg.ofBelow hb2)
          have Hck := Lib.hid hck
          clear hck ct e1 e2 e3 e4 hI1
          have HE2 := Lib.hid (HE.out.chg Hck.out.ch)
          have cn := HE2.out.cn
          go_wp2
          clear cn
          go_loopg [10, 11] (N - (v + 1)) (fun g s10 s11 wr => ∃ (u : Nat) (L : List Int), v + 1 ≤ u ∧ u ≤ N ∧ g = N - u ∧ s11 = .int .i64 (u : Int) ∧ 0 < L.length ∧ L.length ≤ 14 ∧ IsCnt L (aU N l v t u) ∧ CK w base b (n + u * q) N l No wr s10 L)
          case atStart => exact ⟨v + 1, L1, Nat.le_refl _, by omega, rfl, by go_num, hL0, by omega, by
            have : aU N l v t (v + 1) = matA l fun i => t.testBit i := funext HF.out
            rw [this]; exact HL1.out, Hck.out⟩
          case round =>
            obtain ⟨u, L, hu1, hu2, rfl, rfl, hL0', hll, hL, hck⟩ := hrel
            have hE3 := HE.out.chg hck.ch
            have HL := Lib.hid hL; have Hck3 := Lib.hid hck
            by_cases huN : u < N
            · have cn := hE3.cn
              have e3 := op_shr S u
              have cg := hE3.cg
              rw [hE3.ga' (by omega)] at cg
              have gh := hE3.gh v hcN
              have gr := hE3.gr v u hcN huN
              have hTu : t.testBit u = S.testBit u := by
                rw [HT.out, decide_eq_false (by omega)]; simp
              have hmono : n + u * q ≤ n + (u + 1) * q := by have := Nat.mul_le_mul_right q (show u ≤ u + 1 by omega); omega
              have Hmono := Lib.hid hmono
              have HE3 := Lib.hid hE3
              obtain ⟨aL, cL, rfl⟩ := ownsRow_form hck.own
              clear hL hck hE3 hmono
              cases hbit : S.testBit u with
              | false =>
                have e4 : bits .and .i64 (shr S u : Int) 1 = 0 := by rw [op_bit hfew, bit_zero hbit]; rfl
                have Hsk := Lib.hid (show aU N l v t (u + 1) = aU N l v t u from funext fun k => aU_skip (by rw [hTu, hbit]; rfl) k)
                clear hbit hTu
                go_wp2
                go_roundg (N - (u + 1))
                case measure => go_light; omega
                case rel => exact ⟨u + 1, L, by omega, by omega, rfl, by go_num, hL0', hll, by rw [Hsk.out]; exact HL.out, Hck3.out.mono Hmono.out⟩
              | true =>
                have e4 : bits .and .i64 (shr S u : Int) 1 = 1 := by rw [op_bit hfew, bit_one hbit]; rfl
                cases hadj : adjE l v u with
                | false =>
                  have Hsk := Lib.hid (show aU N l v t (u + 1) = aU N l v t u from funext fun k => aU_skip (by rw [hadj, Bool.and_false]) k)
                  rw [hadj] at gr
                  clear hbit hTu hadj
                  go_wp2
                  go_roundg (N - (u + 1))
                  case measure => go_light; omega
                  case rel => exact ⟨u + 1, L, by omega, by omega, rfl, by go_num, hL0', hll, by rw [Hsk.out]; exact HL.out, Hck3.out.mono Hmono.out⟩
                | true =>
                  have Hst := Lib.hid (fun k => aU_step (N := N) (l := l) (v := v) (T := t) (u := u) (by rw [hTu, hbit, hadj]; rfl) k)
                  rw [hadj] at gr
                  clear hbit hTu hadj
                  have htf : Few t := by show t < 4611686018427387904; have := Htl.out; omega
                  have e1 := op_shl (show u < 62 by omega)
                  have e2 := op_andNot htf (pow2_few (show u < 62 by omega))
                  have Ht2 := Lib.hid (less_le t (pow2 u))
                  have Hc2 := Lib.hid (show 13 ^ cnt (fun i => (less t (pow2 u)).testBit i) N ≤ q by
                    rw [Hq.out, ← rm_bits]
                    exact Nat.pow_le_pow_right (by decide) (cnt_rm_le _ _ _))
                  have Hb12 := Lib.hid (show n + u * q + q ≤ 100000000000000 by
                    have := Nat.mul_le_mul_right q (show u + 1 ≤ 12 by omega)
                    rw [Nat.succ_mul] at this
                    omega)
                  have Hb13 := Lib.hid (show n + u * q + q = n + (u + 1) * q by rw [Nat.succ_mul]; omega)
                  have HNo2 := Lib.hid (show ∀ g, (No g ∨ (Value.slice aL L.length cL).ownBlock = some g) → g < wr.heap.size from fun g e => by
                    rcases e with e | e
                    · have := HNo.out g e; have := Hck3.out.ch.size; omega
                    · exact (World.ownsRow.lt Hck3.out.own g e).2)
                  have Hlb3 := Lib.hid (show base ≤ wr.heap.size by have := Hck3.out.ch.size; omega)
                  generalize ht2 : less t (pow2 u) = t2 at *
                  clear ht2
                  have ct := HE3.out.ct
                  go_upto_region 13 with fail
                  clear cn cg gh gr e3 e4
                  go_cut [63, 64, 65] from 58 to 65 (fun s63 s64 s65 wx => ∃ mv M, mv = s63 ∧ s64 = .int .i64 (M.length : Int) ∧ s65 = .int .i64 0 ∧ 0 < M.length ∧ IsCnt M (matA l fun i => t2.testBit i) ∧ OwnC wx base mv M ∧ (∀ g, mv.ownBlock = some g → ¬ (No g ∨ (Value.slice aL L.length cL).ownBlock = some g)) ∧ Chg (· = b) wr wx ∧ Memo wx base b (n + (u + 1) * q) N l true (fun g => No g ∨ (Value.slice aL L.length cL).ownBlock = some g))
                  case first =>
                    go_region_with (go_at_call 55; refine (Ih.out t2 (n + u * q) (fun g => No g ∨ (Value.slice aL L.length cL).ownBlock = some g) _ (by have := Htl.out; have := Ht2.out; omega) (by have := Htl.out; have := Ht2.out; have := HS.out; omega) (Hch.out.trans Hck3.out.ch.drew) Hlb3.out Hck3.out.memo HNo2.out (by have := Hc2.out; have := Hb12.out; omega)).mono ?_; rintro e w4 ⟨mv, M, rfl, hM0, hM, ho4, hno4, hch4, hm4⟩; obtain ⟨g4, cap4, rfl, -, -, -, -⟩ := OwnC.form ho4 hM0)
                    all_goals (go_wp2_with fail; go_meet; exact ⟨_, M, rfl, rfl, rfl, hM0, hM, ho4, hno4, ((Chg.refl _ _).drew).trans hch4, hm4.mono (by have := Hc2.out; have := Hb13.out; omega)⟩)
                  case rest =>
                    obtain ⟨mv, M, rfl, rfl, rfl, hM0, hM, ho4, hno4, hch4, hm4⟩ := hcut
                    have hlM := hM.short (N := N) (fun k hk => matA_far l _ k (bits_ltN (show t2 < 2 ^ N by have := Htl.out; have := Ht2.out; have := HS.out; omega)) (Nat.lt_of_le_of_lt (cnt_le _ N) hk))
                    have HB := Lib.hid (show ∀ k, k < M.length → 0 ≤ M.getD k 0 ∧ M.getD k 0 ≤ 23298085122481 ∧ 0 ≤ (shN L M k).getD (k + 1) 0 ∧ (shN L M k).getD (k + 1) 0 ≤ 302875106592253 from fun k _ => by
                      have a1 := matA_big hN hl (show t2 < 2 ^ N by have := Htl.out; have := Ht2.out; have := HS.out; omega) k
                      have a2 := matA_nn l (fun i => t2.testBit i) k
                      have a3 := aU_big hN hl (v := v) htN.out (Nat.le_of_lt huN) (k + 1)
                      have a4 := aU_nn N l v t u (k + 1)
                      rw [shN_getD, if_neg (by omega), hM.at', HL.out.at']
                      omega)
                    have hck4 : CK w base b (n + (u + 1) * q) N l No wc (.slice aL L.length cL) (shN L M 0) := ⟨by
                      have h0 := Hck3.out.own
                      refine World.ownsRow.kept (w := wr) (row := some b) h0 ⟨hch4.os, hch4.tape, hch4.output, hch4.size, fun k hk hne => hch4.block k hk (fun e => hne (by rw [e]))⟩ ?_
                      cases e : (Value.slice aL L.length cL).ownBlock with
                      | none => exact Or.inl rfl
                      | some g =>
                        refine Or.inr fun e2 => ?_
                        have h1 := (World.ownsRow.lt h0 g e).1
                        have h2 := Option.some.inj e2
                        omega, Hck3.out.lo, hm4, Hck3.out.ch.trans hch4, hbb, hlb⟩
                    have hcr4 : CR wc (.slice aL L.length cL) mv M := ⟨IsInts.owned ho4, fun g e => (World.ownsRow.lt ho4 g e).2, fun g e e2 => hno4 g e (Or.inr e2)⟩
                    obtain ⟨gm, capm, rfl, -, -, -, -⟩ := OwnC.form ho4 hM0
                    have HM := Lib.hid hM; have Hck4 := Lib.hid hck4; have Hcr4 := Lib.hid hcr4
                    clear hM ho4 hno4 hch4 hm4 hck4 hcr4 ct e1 e2
                    go_wp2
                    go_loopg [10, 65] M.length (fun g s10 s65 wx => ∃ k : Nat, k ≤ M.length ∧ g = M.length - k ∧ s65 = .int .i64 (k : Int) ∧ CK w base b (n + (u + 1) * q) N l No wx s10 (shN L M k) ∧ CR wx s10 (.slice (some ⟨gm, 0, none⟩) M.length capm) M)
                    case atStart => exact ⟨0, Nat.zero_le _, rfl, rfl, Hck4.out, Hcr4.out⟩
                    case round =>
                      obtain ⟨k, hkM, rfl, rfl, hck, hcr⟩ := hrel
                      by_cases hlt : k < M.length
                      · obtain ⟨b', o, cap, e, cell⟩ := hcr.im.cellAt hlt
                        simp only [Value.slice.injEq, Option.some.injEq, Addr.mk.injEq, and_true, true_and] at e
                        obtain ⟨⟨rfl, rfl⟩, rfl⟩ := e
                        rw [Nat.zero_add] at cell
                        obtain ⟨x0, x1, y0, y1⟩ := HB.out k hlt
                        have Hst2 := Lib.hid (show shN L M (k + 1) = addAt (shN L M k) (k + 1) (M.getD k 0) from rfl)
                        have hll2 : (shN L M k).length ≤ 14 := by
                          rw [shN_length]
                          split <;> omega
                        have hLk : ∀ n, (extL (shN L M k) n).getD (k + 1) 0 = (shN L M k).getD (k + 1) 0 := fun n => ext_getD _ _ _
                        generalize shN L M k = Lk at *
                        obtain ⟨k1, hk1⟩ : ∃ k1, k1 = k + 1 := ⟨_, rfl⟩
                        rw [← hk1] at y0 y1 hLk
                        have hwk : IntKind.i64.wrap ((k : Int) + 1) = (k1 : Int) := by rw [hk1]; exact wrap_nat (n := k + 1) (by omega)
                        have HLk := Lib.hid hLk
                        have Hk1 := Lib.hid hk1
                        have hk13 : k1 ≤ 14 := by omega
                        obtain ⟨aK, cK, rfl⟩ := ownsRow_form hck.own
                        have Hck5 := Lib.hid hck; have Hcr5 := Lib.hid hcr
                        clear hck hcr hLk hk1
                        generalize M.getD k 0 = vx at *
                        obtain ⟨w5, rfl⟩ : ∃ w5 : World, w5 = wr := ⟨_, rfl⟩
                        go_wp2
                        clear cell
                        go_loopg [10] (k1 + 1 - Lk.length) (fun g s10 wx => ∃ Le : List Int, Lk.length ≤ Le.length ∧ Le.length ≤ max Lk.length (k1 + 1) ∧ Le = extL Lk Le.length ∧ g = k1 + 1 - Le.length ∧ CK w base b (n + (u + 1) * q) N l No wx s10 Le ∧ CR wx s10 (.slice (some ⟨gm, 0, none⟩) M.length capm) M)
                        case atStart => exact ⟨Lk, Nat.le_refl _, by omega, (ext_self _ (Nat.le_refl _)).symm, rfl, Hck5.out, Hcr5.out⟩
                        case round =>
                          obtain ⟨Le, h1, h2, h3, rfl, hck, hcr⟩ := hrel
                          have H3 := Lib.hid h3
                          have Hck6 := Lib.hid hck; have Hcr6 := Lib.hid hcr
                          have hsz := hck.ch.size
                          by_cases hle : Le.length ≤ k1
                          · obtain ⟨aE, cE, rfl⟩ := ownsRow_form hck.own
                            clear hck hcr h3
                            go_wp2_with (at_builtin; refine wpList_append_at rfl (.tmp 75) (.tmp 76) 39 rfl base 3 (.int .i64 0) 8 Try.underlying39 info3 rfl _ Le.length (Le.map (Value.int .i64)) rfl (Hck6.out.own.alloc _) _ 1 [.int .i64 0] rfl (HasCells.one _ _ _ rfl) (by omega) (by omega) (by omega) (by rw [World.size_alloc]; omega) ?_; intro a6 c6 w6 hown6 hg6 hat6; have Hck7 := Lib.hid (Hck6.out.app hown6 hg6 hat6); have Hcr7 := Lib.hid (Hcr6.out.app hg6 hat6); clear hown6 hg6 hat6)
                            go_roundg (k1 + 1 - (Le.length + 1))
                            case measure => go_light; omega
                            case rel => exact ⟨Le ++ [0], by simp; omega, by simp; omega, by
                              rw [List.length_append]
                              conv => lhs; rw [H3.out]
                              exact ext_snoc Lk h1, by simp, Hck7.out, Hcr7.out⟩
                          · obtain ⟨gL, cE, rfl, -, hgl, cells, frz⟩ := OwnC.form hck.own (by omega)
                            have cc := cells k1 (by omega)
                            have ff := frz k1
                            have hv := HLk.out Le.length
                            rw [← H3.out] at hv
                            rw [hv] at cc
                            have Hv := Lib.hid hv
                            clear hck hcr h3 cells frz hv
                            generalize Lk.getD k1 0 = vc at *
                            have hws : IntKind.i64.wrap (vc + vx) = vc + vx := by
                              obtain ⟨a, ha⟩ := Int.eq_ofNat_of_zero_le (show 0 ≤ vc + vx by omega)
                              rw [ha]; exact wrap_nat (by omega)
                            go_wp2
                            go_roundg (M.length - (k + 1))
                            case measure => go_light; omega
                            case rel => exact ⟨k + 1, by omega, rfl, by rw [Hk1.out], by
                              have h8 := H3.out
                              have h7 := addAt_set Lk k1 vx h1 (by omega) h2
                              rw [← h8, Hv.out] at h7
                              rw [Hst2.out, ← Hk1.out, ← h7]
                              exact Hck6.out.set k1 (vc + vx), Hcr6.out.set Hck6.out.own k1 (vc + vx)⟩
                      · obtain rfl : k = M.length := by omega
                        have Hck5 := Lib.hid hck
                        obtain ⟨aK, cK, rfl⟩ := ownsRow_form hck.own
                        clear hck hcr
                        go_wp2
                        go_roundg (N - (u + 1))
                        case measure => go_light; omega
                        case rel => exact ⟨u + 1, shN L M M.length, by omega, by omega, rfl, by go_num, by rw [shN_length]; split <;> omega, by rw [shN_length]; split <;> omega, IsCnt.sh HL.out HM.out (fun i => aU_nn N l v t u i) (fun i => matA_nn l _ i) Hst.out hL0', Hck5.out⟩
            · obtain rfl : u = N := by omega
              obtain ⟨aL, cL, rfl⟩ := ownsRow_form hck.own
              have hv' : ∀ g, (Value.slice aL L.length cL).ownBlock = some g → ¬ No g := fun g e h => by
                have := hck.lo g e; have := HNo.out g h; omega
              have hLS : IsCnt L (matA l fun i => S.testBit i) := by
                have : aU u l v t u = matA l fun i => S.testBit i := funext HAll.out
                rw [← this]; exact hL
              have hnu := Nat.mul_le_mul_right q hN
              obtain ⟨w5, hrun, hm5, hg5⟩ := (hck.memo.weak (No' := No) fun g h => Or.inl h).put hN hbb (by omega) HS.out hL0' hLS hck.own hv'
              have cm := hE3.cm
              have cn := hE3.cn
              have HLS := Lib.hid (And.intro hLS hv')
              have Ho5 := Lib.hid (World.ownsRow.kept hck.own hg5 (by
                cases e : (Value.slice aL L.length cL).ownBlock with
                | none => exact Or.inl rfl
                | some g =>
                  refine Or.inr fun e2 => ?_
                  have := (World.ownsRow.lt hck.own g e).1
                  have := Option.some.inj e2
                  omega))
              have Hc5 := Lib.hid (show Chg (· = b) w w5 from hck.ch.trans ⟨hg5.os, hg5.tape, hg5.output, hg5.size, fun k hk hS => hg5.block k hk (fun e => hS (Option.some.inj e))⟩)
              have Hm5 := Lib.hid (show Memo w5 base b (n + 13 ^ cnt (fun i => S.testBit i) u) u l true No by
                rw [Hq2.out]
                exact hm5.mono (by omega))
              clear hL hck hE3 hv' hLS hm5 hg5 hnu
              go_wp2_with (at_mapUpdate; refine wpList_put_memo rfl _ _ _ rfl rfl rfl rfl hrun ?_)
              go_ret
              first
                | exact ⟨_, L, rfl, hL0', HLS.out.1, Ho5.out, HLS.out.2, Hc5.out, Hm5.out⟩
                | exact ⟨_, rfl, L, hL0', HLS.out.1, Ho5.out, HLS.out.2, Hc5.out, Hm5.out⟩
    · have HLL := Lib.hid (And.intro hL (And.intro ho hno))
      obtain ⟨g1, cap1, rfl, -, -, -, -⟩ := OwnC.form ho h0
      clear hL ho hno
      go_enter Try.func55, Try.ntmps55
      go_wp2
      go_ret
      first
        | exact ⟨_, L, rfl, h0, HLL.out.1, HLL.out.2.1, HLL.out.2.2, Chg.refl _ _, Hm.out.mono (Nat.le_add_right _ _)⟩
        | exact ⟨_, rfl, L, h0, HLL.out.1, HLL.out.2.1, HLL.out.2.2, Chg.refl _ _, Hm.out.mono (Nat.le_add_right _ _)⟩

end Go.Proofs.Ytmhcnekbfngafaa
