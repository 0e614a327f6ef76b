/- arborref.Unpacked: the walk. -/
import Derived.Test.YtokjcapheogkoaaDoorUnpM
import Derived.Test.YtokjcapheogkoaaDoorPrdW
import Derived.Deep.RegionHeld3
namespace Go.Proofs.YtokjcapheogkoaaDoor
open Go Go.RowKit

/-- Two results. -/
structure RS (w wr : World) : Prop where
  hb : Below w.heap.size w wr
  r0 : wr.rowIs w.heap.size 24 2 (fun i => if i = 0 then .int .i64 0 else .slice none 0 0)
  r1 : wr.rowIs (w.heap.size + 1) 27 2 (fun i => if i = 0 then .int .i64 0 else .int .i64 0)
theorem RS.start (w : World) : RS w ((w.alloc (Obj.cells #[.int .i64 0, .slice none 0 0] 24)).alloc (Obj.cells #[.int .i64 0, .int .i64 0] 27)) := by
  have r0 := two_row w (.int .i64 0) (.slice none 0 0) 24
  have r1 := two_row (w.alloc (Obj.cells #[.int .i64 0, .slice none 0 0] 24)) (.int .i64 0) (.int .i64 0) 27
  rw [World.size_alloc] at r1
  exact ⟨below2 w _ _, r0.alloc _, r1⟩
theorem RS.below {w wr w' : World} (h : RS w wr) (hb : Below wr.heap.size wr w') : RS w w' :=
  ⟨h.hb.trans (hb.mono h.hb.size), h.r0.of_block (hb.block _ h.r0.lt), h.r1.of_block (hb.block _ h.r1.lt)⟩
theorem RS.drewN {w wr : World} (h : RS w wr) (n : Nat) : RS w (wr.drewN n) := ⟨Chg.toBelow ((Chg.ofBelow (S := fun _ => False) (h.hb)).drewN n) (Nat.le_refl _) (fun _ _ h => h), h.r0, h.r1⟩

/-- Bools of one's own. -/
def tV (l : List Bool) : List Value := l.map Value.bool
theorem tV_length (l : List Bool) : (tV l).length = l.length := by simp [tV]
def OwnT (w : World) (base : Nat) (v : Value) (l : List Bool) : Prop := w.ownsRow base 4 1 v l.length (tV l)
theorem OwnT.cell {w : World} {base : Nat} {v : Value} {l : List Bool} (h : OwnT w base v l) {k : Nat} (hk : k < l.length) : ∃ g c, v = .slice (some ⟨g, 0, none⟩) l.length c ∧ base ≤ g ∧ g < w.heap.size ∧ w.cell? ⟨g, k, none⟩ = some (.bool (l.getD k false)) := by
  obtain ⟨g, c, rfl, h1, h2⟩ := World.ownsRow.form h (by omega)
  have hlt := World.ownsRow.lt h g rfl
  refine ⟨g, c, rfl, hlt.1, hlt.2, ?_⟩
  have := h.cells (g := g) rfl k (.bool (l.getD k false)) (by
    unfold tV
    rw [List.getElem?_map, List.getElem?_eq_getElem hk]
    simp [List.getD, hk])
  rw [Addr.add_lit, Nat.zero_add] at this
  exact this
/-- The bits of a code, from its head on. -/
def bl (b : List UInt8) (h M : Nat) : List Bool := (List.range M).map (bitU b h)
theorem bl_length (b : List UInt8) (h M : Nat) : (bl b h M).length = M := by simp [bl]
theorem bl_succ (b : List UInt8) (h M : Nat) : bl b h (M + 1) = bl b h M ++ [bitU b h M] := by unfold bl; rw [List.range_succ, List.map_append]; rfl
theorem bl_get (b : List UInt8) (h : Nat) {M k : Nat} (hk : k < M) : (bl b h M).getD k false = bitU b h k := by simp [bl, List.getD, hk]

theorem RS.set {w wr : World} (h : RS w wr) {p : Addr} (hp : w.heap.size + 2 ≤ p.block) (v : Value) : RS w (wr.setCell p v) :=
  ⟨h.hb.setCell (by omega) _, h.r0.setOther (show w.heap.size ≠ p.block by omega) _, h.r1.setOther (show w.heap.size + 1 ≠ p.block by omega) _⟩
def kk (t : Nat) : Nat := 32 / 2 ^ t
theorem kk_pow : ∀ t, t < 6 → kk t = 2 ^ (5 - t) ∧ 0 < kk t ∧ kk t ≤ 32
  | 0, _ => by decide
  | 1, _ => by decide
  | 2, _ => by decide
  | 3, _ => by decide
  | 4, _ => by decide
  | 5, _ => by decide
theorem kk_half (t : Nat) : kk t / 2 = kk (t + 1) := by unfold kk; rw [Nat.div_div_eq_div_mul, Nat.pow_succ]
theorem OwnT.view {w : World} {base : Nat} {v : Value} {l : List Bool} (h : OwnT w base v l) : ∃ a c g, v = .slice a l.length c ∧ (0 < l.length → a = some ⟨g, 0, none⟩ ∧ g < w.heap.size) ∧ ∀ k, k < l.length → w.cell? ⟨g, k, none⟩ = some (.bool (l.getD k false)) := by
  obtain ⟨a, c, rfl⟩ := ownsRow_form h
  rcases Nat.eq_zero_or_pos l.length with e | e
  · exact ⟨a, c, 0, rfl, fun h => by omega, fun k hk => by omega⟩
  · obtain ⟨g, c', e1, h1, h2, h3⟩ := h.cell e
    refine ⟨a, c, g, rfl, fun _ => ⟨?_, h2⟩, fun k hk => ?_⟩
    · simp only [Value.slice.injEq] at e1; exact e1.1
    · obtain ⟨g', c2, e2, -, -, h4⟩ := h.cell hk
      rw [e1] at e2
      simp only [Value.slice.injEq, Option.some.injEq, Addr.mk.injEq, and_true, true_and] at e2
      rw [e2.1]; exact h4

/-- A table being filled with bits, column by column. -/
structure GS (w wr : World) (b : List UInt8) (hd N M Bg bb o : Nat) (R : Nat → Nat) (gb j i : Nat) : Prop where
  grid : ∃ Gc, Grid wr Bg bb o N R Gc ∧ ∀ a c, a < c → c < N → Gc a c = (if c < j ∨ (c = j ∧ a < i) then gU b a c else false)
  rs : RS w wr
  bits : ∀ k, k < M → wr.cell? ⟨gb, k, none⟩ = some (.bool (bitU b hd k))
section
variable {w wr : World} {b : List UInt8} {hd N M Bg bb o : Nat} {R : Nat → Nat} {gb j i : Nat}
theorem GS.next (h : GS w wr b hd N M Bg bb o R gb j j) : GS w wr b hd N M Bg bb o R gb (j + 1) 0 := by
  obtain ⟨⟨Gc, h1, h2⟩, h3, h4⟩ := h
  refine ⟨⟨Gc, h1, fun a c hac hc => ?_⟩, h3, h4⟩
  rw [h2 a c hac hc]
  by_cases e : c < j ∨ (c = j ∧ a < j)
  · rw [if_pos e, if_pos (by omega)]
  · rw [if_neg e, if_neg (by omega)]
theorem GS.put (h : GS w wr b hd N M Bg bb o R gb j i) (hij : i < j) (hj : j < N) (hg : gb < Bg) (hB : w.heap.size + 2 ≤ Bg) : GS w (wr.drew.setCell ⟨R i, j, none⟩ (.bool (gU b i j))) b hd N M Bg bb o R gb j (i + 1) := by
  obtain ⟨⟨Gc, h1, h2⟩, h3, h4⟩ := h
  have hnew := h1.new i (by omega)
  refine ⟨⟨_, (h1.below (Below.refl _ _).drew).set (show i < N by omega) j (gU b i j), fun a c hac hc => ?_⟩, (h3.below (Below.refl _ _).drew).set (by show w.heap.size + 2 ≤ R i; omega) _, fun k hk => ?_⟩
  · by_cases e : a = i ∧ c = j
    · obtain ⟨rfl, rfl⟩ := e
      rw [if_pos ⟨rfl, rfl⟩, if_pos (by omega)]
    · rw [if_neg e, h2 a c hac hc]
      by_cases e2 : c < j ∨ (c = j ∧ a < i)
      · rw [if_pos e2, if_pos (by omega)]
      · rw [if_neg e2, if_neg (by omega)]
  · rw [World.cell?_setCell_far _ _ _ _ (show (⟨R i, j, none⟩ : Addr).block ≠ (⟨gb, k, none⟩ : Addr).block from by show R i ≠ gb; omega)]
    exact h4 k hk
end

set_option maxHeartbeats 6400000 in
set_option maxRecDepth 100000 in
theorem unpacked_any (b : List UInt8) (w : World) :
    Calls Tryd.prog 16 #[.string (bA b)] w (UnpPost b w) := by
  have St := Lib.hid (RS.start w)
  have hix := fun i => bA_at b i
  have Hix := Lib.hid hix
  have hsz := bA_size b
  have Emp := Lib.hid (bA_empty b)
  obtain ⟨s, hs⟩ : ∃ s, s = bA b := ⟨_, rfl⟩
  rw [← hs] at hsz ⊢
  rw [← hs] at Emp
  rw [← hs] at Hix
  clear hix hs
  go_enter Tryd.func16, Tryd.ntmps16
  go_upto_region 1 with fail
  generalize (w.alloc (Obj.cells #[.int .i64 0, .slice none 0 0] 24)).alloc (Obj.cells #[.int .i64 0, .int .i64 0] 27) = w1 at *
  by_cases hl : b.length ≤ 20000
  · have Hl := Lib.hid hl
    go_wp2
    go_loopg [4] b.length (fun g s4 wr => ∃ i : Nat, i ≤ b.length ∧ g = b.length - i ∧ s4 = .int .i64 (i : Int) ∧ (∀ j, j < i → okB (bt b j)) ∧ w1 = wr)
    case atStart => exact ⟨0, Nat.zero_le _, rfl, rfl, fun j hj => absurd hj (Nat.not_lt_zero _), rfl⟩
    case round =>
      obtain ⟨i, hi, rfl, rfl, hok, rfl⟩ := hrel
      have Hok := Lib.hid hok
      clear hok
      by_cases hlt : i < b.length
      · have hix := Hix.out i hlt
        obtain ⟨x, hx⟩ : ∃ x, x = bt b i := ⟨_, rfl⟩
        rw [← hx] at hix
        have Hx := Lib.hid hx
        clear hx
        by_cases hlo : x < 63
        · have g1 : (x : Int) < 63 := by omega
          have hu := uG_byte hl (i := i) ⟨hlt, by rw [← Hx.out]; unfold okB; omega, Hok.out⟩
          have Hu := Lib.hid hu
          clear hu hlo
          go_wp2_with fail
          refine (F_any 1 (i : Int) w1).mono ?_
          rintro e wz ⟨rfl, rfl⟩
          have ST := Lib.hid ((St.out).below (below1 w1 (Obj.cells #[.int .i64 1, .int .i64 (i : Int)] 27)))
          generalize (w1).alloc (Obj.cells #[.int .i64 1, .int .i64 (i : Int)] 27) = wz at *
          obtain ⟨z0, z1, f0, f1, l0⟩ := row_facts ST.out.r0
          obtain ⟨y0, y1, g0, g1, l1⟩ := row_facts ST.out.r1
          go_wp2
          obtain ⟨c0, c1, c2, c3⟩ := four_set ST.out.r0 ST.out.r1 (show w.heap.size ≠ w.heap.size + 1 by omega) (.int .i64 0) (.slice none 0 0) (.int .i64 1) (.int .i64 (i : Int))
          have hfin := four_below ST.out.hb (Nat.le_refl _) (show w.heap.size ≤ w.heap.size + 1 by omega) (.int .i64 0) (.slice none 0 0) (.int .i64 1) (.int .i64 (i : Int))
          exact bodyPost_ret (v := .tuple #[.agg #[.int .i64 0, .slice none 0 0], .agg #[.int .i64 1, .int .i64 (i : Int)]]) (by simp [results, Tryd.results16, go_sem, c0, c1, c2, c3]) rfl ⟨0, [], 1, (i : Int), Hu.out, _, OwnE.nil _ _, hfin, rfl⟩
        · have g1 : ¬ (x : Int) < 63 := by omega
          by_cases hhi : 126 < x
          · have g2 : (126 : Int) < (x : Int) := by omega
            have hu := uG_byte hl (i := i) ⟨hlt, by rw [← Hx.out]; unfold okB; omega, Hok.out⟩
            have Hu := Lib.hid hu
            clear hu hlo hhi
            go_wp2_with fail
            refine (F_any 1 (i : Int) w1).mono ?_
            rintro e wz ⟨rfl, rfl⟩
            have ST := Lib.hid ((St.out).below (below1 w1 (Obj.cells #[.int .i64 1, .int .i64 (i : Int)] 27)))
            generalize (w1).alloc (Obj.cells #[.int .i64 1, .int .i64 (i : Int)] 27) = wz at *
            obtain ⟨z0, z1, f0, f1, l0⟩ := row_facts ST.out.r0
            obtain ⟨y0, y1, g0, g1, l1⟩ := row_facts ST.out.r1
            go_wp2
            obtain ⟨c0, c1, c2, c3⟩ := four_set ST.out.r0 ST.out.r1 (show w.heap.size ≠ w.heap.size + 1 by omega) (.int .i64 0) (.slice none 0 0) (.int .i64 1) (.int .i64 (i : Int))
            have hfin := four_below ST.out.hb (Nat.le_refl _) (show w.heap.size ≤ w.heap.size + 1 by omega) (.int .i64 0) (.slice none 0 0) (.int .i64 1) (.int .i64 (i : Int))
            exact bodyPost_ret (v := .tuple #[.agg #[.int .i64 0, .slice none 0 0], .agg #[.int .i64 1, .int .i64 (i : Int)]]) (by simp [results, Tryd.results16, go_sem, c0, c1, c2, c3]) rfl ⟨0, [], 1, (i : Int), Hu.out, _, OwnE.nil _ _, hfin, rfl⟩
          · have g2 : ¬ (126 : Int) < (x : Int) := by omega
            have Hokx := Lib.hid (show okB (bt b i) by rw [← Hx.out]; unfold okB; omega)
            clear hlo hhi
            go_wp2
            go_roundg (b.length - (i + 1))
            case measure => go_light; omega
            case rel => exact ⟨i + 1, by omega, rfl, by go_num, fun j hj => by
              by_cases e : j = i
              · rw [e]; exact Hokx.out
              · exact Hok.out j (by omega), rfl⟩
      · obtain rfl : i = b.length := by omega
        have H1 := Lib.hid (U1.mk hl Hok.out)
        clear Hok
        by_cases hlen : 0 < b.length
        · have hne : s.toList.isEmpty = false := by
            rw [Emp.out]
            cases hb0 : b with
            | nil => rw [hb0] at hlen; simp at hlen
            | cons _ _ => rfl
          have hix0 : ∀ W : World, (Instr.index 9 (.string s) (.int .i64 0)).run Tryd.prog W = .ok (.int .u8 (bt b 0 : Nat)) W := fun W => Hix.out 0 hlen W
          have hok0 := H1.out.ok 0 hlen
          unfold okB at hok0
          obtain ⟨x, hx⟩ : ∃ x, x = bt b 0 := ⟨_, rfl⟩
          rw [← hx] at hix0 hok0
          have Hx := Lib.hid hx
          obtain ⟨x1, x2⟩ := hok0
          clear hx
          obtain ⟨n0, hn0⟩ : ∃ n0, n0 = x - 63 := ⟨_, rfl⟩
          have e0 : (x : Int) - 63 = (n0 : Int) := by omega
          have hn63 : n0 ≤ 63 := by omega
          have Hn0 := Lib.hid hn0
          clear hn0
          have hkey : (x = 126 ∧ b.length < 4) ∨ (x = 126 ∧ 4 ≤ b.length) ∨ x ≠ 126 := by omega
          by_cases hshort : x = 126 ∧ b.length < 4
          · have k1 : ((x : Int) == 126) = true := by simp [hshort.1]
            have k2 : (b.length : Int) < 4 := by omega
            have Hu := Lib.hid (H1.out.short (by unfold hdU; rw [if_pos ⟨hlen, by rw [← Hx.out]; exact hshort.1⟩]; omega))
            clear hshort hkey
            go_wp2_with fail
            refine (F_any 1 (b.length : Int) w1).mono ?_
            rintro e wz ⟨rfl, rfl⟩
            have ST := Lib.hid ((St.out).below (below1 w1 (Obj.cells #[.int .i64 1, .int .i64 (b.length : Int)] 27)))
            generalize (w1).alloc (Obj.cells #[.int .i64 1, .int .i64 (b.length : Int)] 27) = wz at *
            obtain ⟨z0, z1, f0, f1, l0⟩ := row_facts ST.out.r0
            obtain ⟨y0, y1, g0, g1, l1⟩ := row_facts ST.out.r1
            go_wp2
            obtain ⟨c0, c1, c2, c3⟩ := four_set ST.out.r0 ST.out.r1 (show w.heap.size ≠ w.heap.size + 1 by omega) (.int .i64 0) (.slice none 0 0) (.int .i64 1) (.int .i64 (b.length : Int))
            have hfin := four_below ST.out.hb (Nat.le_refl _) (show w.heap.size ≤ w.heap.size + 1 by omega) (.int .i64 0) (.slice none 0 0) (.int .i64 1) (.int .i64 (b.length : Int))
            exact bodyPost_ret (v := .tuple #[.agg #[.int .i64 0, .slice none 0 0], .agg #[.int .i64 1, .int .i64 (b.length : Int)]]) (by simp [results, Tryd.results16, go_sem, c0, c1, c2, c3]) rfl ⟨0, [], 1, (b.length : Int), Hu.out, _, OwnE.nil _ _, hfin, rfl⟩
          · have H2 := Lib.hid (U2.mk H1.out (by
              unfold hdU
              split
              · rename_i h; have := h.2; rw [← Hx.out] at this; omega
              · omega))
            have hB : ∃ B : Bool, ((x : Int) == 126) = B := ⟨_, rfl⟩
            obtain ⟨B, hB⟩ := hB
            have hB4 : B = true → 4 ≤ b.length ∧ x = 126 := fun h => by rw [h] at hB; simp at hB; omega
            have hB1 : B = false → x ≠ 126 := fun h => by rw [h] at hB; simp at hB; omega
            have HB4 := Lib.hid hB4; have HB1 := Lib.hid hB1
            clear hshort hkey hB4 hB1
            have hguard : B = false ∨ ¬ (b.length : Int) < 4 := by
              cases B with
              | false => exact Or.inl rfl
              | true => have := (HB4.out rfl).1; exact Or.inr (by omega)
            have hd14 : hdU b = (if B then 4 else 1) := by
              unfold hdU
              cases B with
              | true => rw [if_pos ⟨hlen, by rw [← Hx.out]; exact (HB4.out rfl).2⟩]; rfl
              | false => rw [if_neg (fun h => HB1.out rfl (by rw [Hx.out]; exact h.2))]; rfl
            have Hd := Lib.hid hd14
            clear hd14
            go_upto_region 8 with fail
            go_cut [54] from 43 to 54 (fun s54 wx => s54 = .bool false ∧ w1 = wx)
            case first =>
              cases B with
              | true =>
                have k2 : ¬ (b.length : Int) < 4 := by have := (HB4.out rfl).1; omega
                go_wp2
                go_meet
                exact ⟨rfl, rfl⟩
              | false =>
                go_wp2
                go_meet
                exact ⟨rfl, rfl⟩
            case rest =>
            obtain ⟨rfl, rfl⟩ := hcut
            clear hguard hne
            go_upto_if 65 with fail
            go_cut [5, 6] from 65 to 85 (fun s5 s6 wx => s5 = .int .i64 (nU b : Int) ∧ s6 = .int .i64 (hdU b : Int) ∧ RS w wx ∧ U3 b)
            case first =>
              cases B with
              | true =>
                obtain ⟨hb4, hx126⟩ := HB4.out rfl
                have hix1 : ∀ W : World, (Instr.index 9 (.string s) (.int .i64 1)).run Tryd.prog W = .ok (.int .u8 (bt b 1 : Nat)) W := fun W => Hix.out 1 (by omega) W
                have hix2 : ∀ W : World, (Instr.index 9 (.string s) (.int .i64 2)).run Tryd.prog W = .ok (.int .u8 (bt b 2 : Nat)) W := fun W => Hix.out 2 (by omega) W
                have hix3 : ∀ W : World, (Instr.index 9 (.string s) (.int .i64 3)).run Tryd.prog W = .ok (.int .u8 (bt b 3 : Nat)) W := fun W => Hix.out 3 (by omega) W
                have o1 := H2.out.ok 1 (by omega); have o2 := H2.out.ok 2 (by omega); have o3 := H2.out.ok 3 (by omega)
                unfold okB at o1 o2 o3
                have h126 : hasB b 0 126 := ⟨hlen, by rw [← Hx.out]; exact hx126⟩
                obtain ⟨y1, hy1⟩ : ∃ y, y = bt b 1 := ⟨_, rfl⟩
                obtain ⟨y2, hy2⟩ : ∃ y, y = bt b 2 := ⟨_, rfl⟩
                obtain ⟨y3, hy3⟩ : ∃ y, y = bt b 3 := ⟨_, rfl⟩
                rw [← hy1] at hix1 o1; rw [← hy2] at hix2 o2; rw [← hy3] at hix3 o3
                obtain ⟨c1, hc1⟩ : ∃ c, c = y1 - 63 := ⟨_, rfl⟩
                obtain ⟨c2, hc2⟩ : ∃ c, c = y2 - 63 := ⟨_, rfl⟩
                obtain ⟨c3, hc3⟩ : ∃ c, c = y3 - 63 := ⟨_, rfl⟩
                obtain ⟨m1, hm1⟩ : ∃ m, m = c1 * 4096 := ⟨_, rfl⟩
                obtain ⟨m2, hm2⟩ : ∃ m, m = c2 * 64 := ⟨_, rfl⟩
                obtain ⟨m3, hm3⟩ : ∃ m, m = m1 + m2 := ⟨_, rfl⟩
                obtain ⟨m4, hm4⟩ : ∃ m, m = m3 + y3 := ⟨_, rfl⟩
                obtain ⟨n, hn⟩ : ∃ n, n = m4 - 63 := ⟨_, rfl⟩
                have t1 : (y1 : Int) - 63 = (c1 : Int) := by omega
                have t2 : (y2 : Int) - 63 = (c2 : Int) := by omega
                have t3 : (c1 : Int) * 4096 = (m1 : Int) := by omega
                have t4 : (c2 : Int) * 64 = (m2 : Int) := by omega
                have t5 : (m1 : Int) + (m2 : Int) = (m3 : Int) := by omega
                have t6 : (m3 : Int) + (y3 : Int) = (m4 : Int) := by omega
                have t7 : (m4 : Int) - 63 = (n : Int) := by omega
                have b1 : y1 ≤ 126 := by omega
                have b2 : y2 ≤ 126 := by omega
                have b3 : y3 ≤ 126 := by omega
                have b4 : c1 ≤ 63 := by omega
                have b5 : c2 ≤ 63 := by omega
                have b6 : m1 ≤ 258048 := by omega
                have b7 : m2 ≤ 4032 := by omega
                have b8 : m3 ≤ 262080 := by omega
                have b9 : m4 ≤ 262206 := by omega
                have Hn := Lib.hid (show nU b = n by unfold nU; rw [if_pos h126, ← hy1, ← hy2, ← hy3, ← hc1, ← hc2, ← hc3]; omega)
                have Hd4 := Lib.hid (show hdU b = 4 from Hd.out)
                have hn18 : n ≤ 262143 := by omega
                clear hy1 hy2 hy3 hc1 hc2 hc3 hm1 hm2 hm3 hm4 hn o1 o2 o3 h126 hx126 hix0 e0
                go_wp2
                go_quiet (fail)
                by_cases hf : n < 63
                · have q5 : (n : Int) < 63 := by omega
                  have Hu := Lib.hid (H2.out.bad ⟨Hd4.out, by rw [Hn.out]; exact hf⟩)
                  clear hf
                  go_wp2_with fail
                  refine (F_any 7 0 (w1.drewN nq)).mono ?_
                  rintro e wz ⟨rfl, rfl⟩
                  have ST := Lib.hid ((St.out.drewN nq).below (below1 (w1.drewN nq) (Obj.cells #[.int .i64 7, .int .i64 0] 27)))
                  generalize ((w1.drewN nq)).alloc (Obj.cells #[.int .i64 7, .int .i64 0] 27) = wz at *
                  obtain ⟨z0, z1, f0, f1, l0⟩ := row_facts ST.out.r0
                  obtain ⟨y0, y1, g0, g1, l1⟩ := row_facts ST.out.r1
                  go_wp2
                  obtain ⟨c0, c1, c2, c3⟩ := four_set ST.out.r0 ST.out.r1 (show w.heap.size ≠ w.heap.size + 1 by omega) (.int .i64 0) (.slice none 0 0) (.int .i64 7) (.int .i64 0)
                  have hfin := four_below ST.out.hb (Nat.le_refl _) (show w.heap.size ≤ w.heap.size + 1 by omega) (.int .i64 0) (.slice none 0 0) (.int .i64 7) (.int .i64 0)
                  exact bodyPost_ret (v := .tuple #[.agg #[.int .i64 0, .slice none 0 0], .agg #[.int .i64 7, .int .i64 0]]) (by simp [results, Tryd.results16, go_sem, c0, c1, c2, c3]) rfl ⟨0, [], 7, 0, Hu.out, _, OwnE.nil _ _, hfin, rfl⟩
                · have q5 : ¬ (n : Int) < 63 := by omega
                  have H3 := Lib.hid (U3.mk H2.out (fun h => hf (by rw [← Hn.out]; exact h.2)))
                  clear hf
                  go_wp2
                  go_meet
                  exact ⟨by rw [Hn.out], by rw [Hd4.out]; rfl, St.out.drewN _, H3.out⟩
              | false =>
                have hno : ¬ hasB b 0 126 := fun h => HB1.out rfl (by rw [Hx.out]; exact h.2)
                have Hn := Lib.hid (show nU b = n0 by unfold nU; rw [if_neg hno, Hn0.out, Hx.out])
                have Hd1 := Lib.hid (show hdU b = 1 from Hd.out)
                have H3 := Lib.hid (U3.mk H2.out (fun h => by have := Hd1.out; omega))
                clear hno
                go_wp2
                go_meet
                exact ⟨by rw [Hn.out], by rw [Hd1.out]; rfl, St.out, H3.out⟩
            case rest =>
            obtain ⟨rfl, rfl, hs4, hu3⟩ := hcut
            obtain ⟨w4, rfl⟩ : ∃ w4 : World, w4 = wc := ⟨_, rfl⟩
            have S4 := Lib.hid hs4; have H3 := Lib.hid hu3
            clear hs4 hu3 hix0 e0 hB Hd HB4 HB1
            obtain ⟨N, hNN⟩ : ∃ N, N = nU b := ⟨_, rfl⟩
            obtain ⟨hd, hhd⟩ : ∃ hd, hd = hdU b := ⟨_, rfl⟩
            rw [← hNN, ← hhd]
            have HNN := Lib.hid hNN; have Hhd := Lib.hid hhd
            have hd4 : 1 ≤ hd ∧ hd ≤ 4 := by rw [hhd]; unfold hdU; split <;> omega
            obtain ⟨hd1, hd4⟩ := hd4
            clear hNN hhd
            by_cases hN : N ≤ 100
            · have q6 : ¬ (100 : Int) < (N : Int) := by omega
              have H4 := Lib.hid (U4.mk H3.out (by rw [← HNN.out]; omega))
              obtain ⟨P, hP⟩ : ∃ P, P = N * (N - 1) := ⟨_, rfl⟩
              obtain ⟨T, hT⟩ : ∃ T, T = triN N := ⟨_, rfl⟩
              have hT4 : T ≤ 4950 := by rw [hT]; exact triN_le hN
              have eP : (N : Int) * ((N : Int) - 1) = (P : Int) := by
                rw [hP]
                rcases Nat.eq_zero_or_pos N with e | e
                · subst e; rfl
                · rw [Int.natCast_mul, Int.natCast_sub (by omega)]; rfl
              have hTP : T = P / 2 := by rw [hT, hP]; rfl
              have hP9 : P ≤ 9901 := by omega
              have eT : (P : Int).tdiv 2 = (T : Int) := by rw [Int.tdiv_eq_ediv_of_nonneg (by omega)]; omega
              have eT' : (P : Int) / 2 = (T : Int) := by omega
              obtain ⟨Q, hQ⟩ : ∃ Q, Q = (T + 5) / 6 := ⟨_, rfl⟩
              obtain ⟨Z, hZ⟩ : ∃ Z, Z = hd + Q := ⟨_, rfl⟩
              obtain ⟨H6, hH6⟩ : ∃ x, x = hd * 6 := ⟨_, rfl⟩
              obtain ⟨S6, hS6⟩ : ∃ x, x = H6 + T := ⟨_, rfl⟩
              have eH : (hd : Int) * 6 = (H6 : Int) := by omega
              have eS : (H6 : Int) + (T : Int) = (S6 : Int) := by omega
              have hQl : Q ≤ 826 := by omega
              have hZl : Z ≤ 830 := by omega
              have hZd : hd ≤ Z := by omega
              have hH6l : H6 ≤ 24 := by omega
              have hS6l : S6 ≤ 5000 := by omega
              have HZ := Lib.hid (show szU b = Z by unfold szU; rw [← HNN.out, ← Hhd.out, ← hT, ← hQ, hZ])
              have HQ := Lib.hid (show (T ≤ 6 * Q ∧ 6 * Q < T + 6) ∧ Z = hd + Q by omega)
              have HT := Lib.hid hT; have HQ5 := Lib.hid hQ
              have HZS := Lib.hid (show ∀ z, hd ≤ z → z ≤ Z → (6 * z < S6 ↔ z < Z) from fun z h1 h2 => by omega)
              clear hP hT hTP hQ hZ hH6 hS6
              go_wp2
              go_loopg [8] (Z - hd) (fun g s8 wr => ∃ z : Nat, hd ≤ z ∧ z ≤ Z ∧ g = Z - z ∧ s8 = .int .i64 (z : Int) ∧ w4 = wr)
              case atStart => exact ⟨hd, by omega, hZd, rfl, rfl, rfl⟩
              case round =>
                obtain ⟨z, hz1, hz2, rfl, rfl, rfl⟩ := hrel
                obtain ⟨z6, hz6⟩ : ∃ x, x = z * 6 := ⟨_, rfl⟩
                have ez : (z : Int) * 6 = (z6 : Int) := by omega
                have hzz : z6 < S6 ↔ z < Z := by have := HZS.out z hz1 hz2; omega
                have hz6l : z6 ≤ 4980 := by omega
                by_cases hlt : z < Z
                · have q7 : (z6 : Int) < (S6 : Int) := by have := hzz.2 hlt; omega
                  clear hzz hz6
                  go_wp2
                  go_roundg (Z - (z + 1))
                  case measure => go_light; omega
                  case rel => exact ⟨z + 1, by omega, by omega, rfl, by go_num, rfl⟩
                · have q7 : ¬ (z6 : Int) < (S6 : Int) := fun h => hlt (hzz.1 (by omega))
                  obtain rfl : z = Z := by omega
                  clear hzz hz6 hlt eP eT eT'
                  by_cases hs1 : b.length < z
                  · have q8 : (b.length : Int) < (z : Int) := by omega
                    have Hu := Lib.hid (H4.out.bad (by rw [HZ.out]; omega))
                    rw [HZ.out, show min b.length z = b.length by omega] at Hu
                    clear hs1
                    go_wp2_with fail
                    refine (F_any 1 (b.length : Int) w4).mono ?_
                    rintro e wz ⟨rfl, rfl⟩
                    have ST := Lib.hid ((S4.out).below (below1 w4 (Obj.cells #[.int .i64 1, .int .i64 (b.length : Int)] 27)))
                    generalize (w4).alloc (Obj.cells #[.int .i64 1, .int .i64 (b.length : Int)] 27) = wz at *
                    obtain ⟨z0, z1, f0, f1, l0⟩ := row_facts ST.out.r0
                    obtain ⟨y0, y1, g0, g1, l1⟩ := row_facts ST.out.r1
                    go_wp2
                    obtain ⟨c0, c1, c2, c3⟩ := four_set ST.out.r0 ST.out.r1 (show w.heap.size ≠ w.heap.size + 1 by omega) (.int .i64 0) (.slice none 0 0) (.int .i64 1) (.int .i64 (b.length : Int))
                    have hfin := four_below ST.out.hb (Nat.le_refl _) (show w.heap.size ≤ w.heap.size + 1 by omega) (.int .i64 0) (.slice none 0 0) (.int .i64 1) (.int .i64 (b.length : Int))
                    exact bodyPost_ret (v := .tuple #[.agg #[.int .i64 0, .slice none 0 0], .agg #[.int .i64 1, .int .i64 (b.length : Int)]]) (by simp [results, Tryd.results16, go_sem, c0, c1, c2, c3]) rfl ⟨0, [], 1, (b.length : Int), Hu.out, _, OwnE.nil _ _, hfin, rfl⟩
                  · have q8 : ¬ (b.length : Int) < (z : Int) := by omega
                    by_cases hs2 : z < b.length
                    · have q9 : (z : Int) < (b.length : Int) := by omega
                      have Hu := Lib.hid (H4.out.bad (by rw [HZ.out]; omega))
                      rw [HZ.out, show min b.length z = z by omega] at Hu
                      clear hs1 hs2
                      go_wp2_with fail
                      refine (F_any 1 (z : Int) w4).mono ?_
                      rintro e wz ⟨rfl, rfl⟩
                      have ST := Lib.hid ((S4.out).below (below1 w4 (Obj.cells #[.int .i64 1, .int .i64 (z : Int)] 27)))
                      generalize (w4).alloc (Obj.cells #[.int .i64 1, .int .i64 (z : Int)] 27) = wz at *
                      obtain ⟨z0, z1, f0, f1, l0⟩ := row_facts ST.out.r0
                      obtain ⟨y0, y1, g0, g1, l1⟩ := row_facts ST.out.r1
                      go_wp2
                      obtain ⟨c0, c1, c2, c3⟩ := four_set ST.out.r0 ST.out.r1 (show w.heap.size ≠ w.heap.size + 1 by omega) (.int .i64 0) (.slice none 0 0) (.int .i64 1) (.int .i64 (z : Int))
                      have hfin := four_below ST.out.hb (Nat.le_refl _) (show w.heap.size ≤ w.heap.size + 1 by omega) (.int .i64 0) (.slice none 0 0) (.int .i64 1) (.int .i64 (z : Int))
                      exact bodyPost_ret (v := .tuple #[.agg #[.int .i64 0, .slice none 0 0], .agg #[.int .i64 1, .int .i64 (z : Int)]]) (by simp [results, Tryd.results16, go_sem, c0, c1, c2, c3]) rfl ⟨0, [], 1, (z : Int), Hu.out, _, OwnE.nil _ _, hfin, rfl⟩
                    · have q9 : ¬ (z : Int) < (b.length : Int) := by omega
                      have hsize : b.length = z := by omega
                      have H5 := Lib.hid (U5.mk H4.out (by rw [HZ.out]; exact hsize))
                      have Hsize := Lib.hid hsize
                      clear hsize hs1 hs2
                      go_wp2
                      clear q8 q9 q7 eH eS hz1 hz2 hz6l ez
                      obtain ⟨B0, hB0⟩ : ∃ B0, B0 = w4.heap.size := ⟨_, rfl⟩
                      have HB0 := Lib.hid hB0
                      have hown0 : OwnT w4 B0 (.slice none 0 0) (bl b hd 0) := World.ownsRow_nil _ _ _ _
                      have Hown0 := Lib.hid hown0
                      have hb0 : Below B0 w4 w4 := Below.refl _ _
                      have Hbb0 := Lib.hid hb0
                      clear hown0 hb0 hB0
                      go_loopg [9, 10, 11, 12] (b.length - hd) (fun g s9 s10 s11 s12 wr => ∃ (i M : Nat) (v : Value), hd ≤ i ∧ i ≤ b.length ∧ g = b.length - i ∧ s10 = .int .i64 (i : Int) ∧ v = s9 ∧ M = 6 * (i - hd) ∧ OwnT wr B0 v (bl b hd M) ∧ Below B0 w4 wr)
                      case atStart => exact ⟨hd, 0, _, by omega, by have := Hsize.out; omega, rfl, rfl, rfl, by omega, Hown0.out, Hbb0.out⟩
                      case round =>
                        obtain ⟨i, M, v9, hi1, hi2, rfl, rfl, rfl, hM, hown, hbw⟩ := hrel
                        have Hown := Lib.hid hown; have Hbw := Lib.hid hbw; have HM := Lib.hid hM
                        clear hown hbw
                        by_cases hlt : i < b.length
                        · have hix := Hix.out i hlt
                          have hoki := H1.out.ok i hlt
                          unfold okB at hoki
                          obtain ⟨x3, hx3⟩ : ∃ x3, x3 = bt b i := ⟨_, rfl⟩
                          rw [← hx3] at hix hoki
                          obtain ⟨x4, x5⟩ := hoki
                          obtain ⟨c, hc⟩ : ∃ c, c = x3 - 63 := ⟨_, rfl⟩
                          have ec : (x3 : Int) - 63 = (c : Int) := by omega
                          have hc63 : c ≤ 63 := by omega
                          have hM5 : M ≤ 5000 := by have := Hsize.out; omega
                          have Hbit := Lib.hid (show ∀ t, t < 6 → bitU b hd (M + t) = decide (c / kk t % 2 = 1) from fun t ht => by
                            unfold bitU
                            rw [show (M + t) % 6 = t by omega, show hd + (M + t) / 6 = i by omega, (kk_pow t ht).1, ← hx3, ← hc])
                          have hk0 : kk 0 = 32 := rfl
                          have Hk0 := Lib.hid hk0
                          clear hx3 hc hM hk0
                          obtain ⟨wo, rfl⟩ : ∃ wo : World, wo = wr := ⟨_, rfl⟩
                          have Hown1 := Lib.hid (show OwnT wo B0 v9 (bl b hd (M + 0)) from Hown.out)
                          go_wp2
                          go_loopg [9, 12] 6 (fun g s9 s12 wr => ∃ (t K : Nat) (v : Value), t ≤ 6 ∧ g = 6 - t ∧ K = kk t ∧ s12 = .int .i64 (K : Int) ∧ v = s9 ∧ OwnT wr B0 v (bl b hd (M + t)) ∧ Below B0 w4 wr)
                          case atStart => exact ⟨0, 32, _, by omega, rfl, rfl, rfl, rfl, Hown1.out, Hbw.out⟩
                          case round =>
                            obtain ⟨t, K, vt, ht, rfl, hK, rfl, rfl, hown, hbw⟩ := hrel
                            have HK := Lib.hid hK
                            by_cases ht6 : t < 6
                            · obtain ⟨-, k1, k2⟩ := kk_pow t ht6
                              rw [← hK] at k1 k2
                              have k3 : (0 : Int) < (K : Int) := by omega
                              have k4 : ((K : Int) == 0) = false := by simp; omega
                              have k5 : ¬ (K : Int) = 0 := by omega
                              have hbt := Hbit.out t ht6
                              rw [← hK] at hbt
                              obtain ⟨q, hq⟩ : ∃ q, q = c / K := ⟨_, rfl⟩
                              have hq63 : q ≤ 63 := by have := Nat.div_le_self c K; omega
                              have eq : (c : Int).tdiv (K : Int) = (q : Int) := by rw [Int.tdiv_eq_ediv_of_nonneg (by omega), hq]; simp
                              have eq' : (c : Int) / (K : Int) = (q : Int) := by rw [hq]; simp
                              rw [← hq] at hbt
                              obtain ⟨r, hr⟩ : ∃ r, r = q % 2 := ⟨_, rfl⟩
                              have er : (q : Int).tmod 2 = (r : Int) := by rw [Int.tmod_eq_emod_of_nonneg (by omega)]; omega
                              have er' : (q : Int) % 2 = (r : Int) := by omega
                              rw [← hr] at hbt
                              obtain ⟨bv, hbv⟩ : ∃ bv, bv = bitU b hd (M + t) := ⟨_, rfl⟩
                              have ebv : ((r : Int) == 1) = bv := by
                                rw [hbv, hbt]
                                by_cases h1 : r = 1
                                · simp [h1]
                                · simp [h1]; omega
                              obtain ⟨K2, hK2⟩ : ∃ K2, K2 = kk (t + 1) := ⟨_, rfl⟩
                              have hK2' : K2 = K / 2 := by rw [hK2, hK, kk_half]
                              have eK : (K : Int).tdiv 2 = (K2 : Int) := by rw [Int.tdiv_eq_ediv_of_nonneg (by omega)]; omega
                              have eK' : (K : Int) / 2 = (K2 : Int) := by omega
                              have HK2 := Lib.hid hK2
                              have hnew := bl_succ b hd (M + t)
                              rw [← hbv] at hnew
                              have Hnew := Lib.hid hnew
                              have hll := bl_length b hd (M + t)
                              obtain ⟨lst, hlst⟩ : ∃ lst, lst = bl b hd (M + t) := ⟨_, rfl⟩
                              rw [← hlst] at hown hll Hnew
                              have Hlst := Lib.hid hlst
                              have Hbw2 := Lib.hid hbw
                              unfold OwnT at hown
                              rw [hll] at hown
                              have Hown2 := Lib.hid hown
                              have hszr := hbw.size
                              have hB0 := HB0.out
                              have hMt : M + t ≤ 5006 := by omega
                              obtain ⟨Mt, hMt2⟩ : ∃ Mt, Mt = M + t := ⟨_, rfl⟩
                              rw [← hMt2] at Hown2 hMt hll
                              have HMt := Lib.hid hMt2
                              clear hK hq hr hbv hbt hK2 hK2' hnew hlst hown hbw hMt2
                              go_wp2_with (at_builtin; refine wpList_append_has rfl (.tmp 136) (.tmp 142) 46 rfl B0 4 (.bool false) 1 Tryd.underlying46 info4 rfl _ Mt (tV lst) rfl (Hown2.out.alloc _) _ 1 [.bool bv] rfl (HasCells.one _ _ _ rfl) (by omega) (by omega) (by simp; omega) ?_; intro a2 c2 w6 hown2 hg2; have Hown3 := Lib.hid hown2; have Hg2 := Lib.hid ((Hbw2.out.alloc (by omega) (Obj.cells #[Value.bool bv] 4)).grown hg2 (by rw [World.size_alloc]; omega) (fun g e => (Hown2.out.lt g e).1)); clear hown2 hg2)
                              go_roundg (6 - (t + 1))
                              case measure => go_light; omega
                              case rel => exact ⟨t + 1, K2, _, by omega, rfl, HK2.out, by go_num, rfl, by
                                have h := Hown3.out
                                unfold OwnT
                                rw [← Nat.add_assoc, Hnew.out]
                                rw [List.length_append, List.length_singleton, hll]
                                have e : tV (lst ++ [bv]) = tV lst ++ [.bool bv] := by simp [tV]
                                rw [e]; exact h, Hg2.out⟩
                            · obtain rfl : t = 6 := by omega
                              have k3 : ¬ (0 : Int) < (K : Int) := by rw [hK]; decide
                              have Hown2 := Lib.hid hown; have Hbw2 := Lib.hid hbw
                              clear hK hown hbw
                              go_wp2
                              go_roundg (b.length - (i + 1))
                              case measure => go_light; omega
                              case rel => exact ⟨i + 1, M + 6, _, by omega, by omega, rfl, by go_num, rfl, by have := HM.out; omega, Hown2.out, Hbw2.out⟩
                        · obtain rfl : i = b.length := by omega
                          have hMQ : M = 6 * Q := by have := Hsize.out; have := HQ.out.2; omega
                          have Hmq := Lib.hid hMQ
                          have S6 := Lib.hid (S4.out.below (Hbw.out.mono (by rw [HB0.out]; exact Nat.le_refl _)))
                          clear hM hMQ
                          have hTM : T ≤ M := by have := Hmq.out; have := HQ.out.1; omega
                          have hM5 : M ≤ 5000 := by have := Hmq.out; omega
                          obtain ⟨a9, c9, gb, rfl, hgb, hcell⟩ := Hown.out.view
                          rw [bl_length] at hgb hcell
                          rw [bl_length]
                          have Hcell := Lib.hid (show ∀ k, k < M → wr.cell? ⟨gb, k, none⟩ = some (.bool (bitU b hd k)) from fun k hk => by rw [hcell k hk, bl_get b hd hk])
                          have Hgb := Lib.hid hgb
                          have HM6 := Lib.hid (show M = 6 * ((triN (nU b) + 5) / 6) by rw [Hmq.out, HQ5.out, HT.out, HNN.out])
                          clear hgb hcell Hown
                          obtain ⟨w6, rfl⟩ : ∃ w6 : World, w6 = wr := ⟨_, rfl⟩
                          go_wp2
                          go_loopg [13] (M - T) (fun g s13 wr => ∃ k : Nat, T ≤ k ∧ k ≤ M ∧ g = M - k ∧ s13 = .int .i64 (k : Int) ∧ (∀ m, T ≤ m → m < k → bitU b hd m = false) ∧ w6 = wr)
                          case atStart => exact ⟨T, by omega, hTM, rfl, rfl, fun m h1 h2 => by omega, rfl⟩
                          case round =>
                            obtain ⟨k, hk1, hk2, rfl, rfl, hpad, rfl⟩ := hrel
                            have Hpad := Lib.hid hpad
                            clear hpad
                            by_cases hkM : k < M
                            · obtain rfl := (Hgb.out (by omega)).1
                              have hck := Hcell.out k hkM
                              cases hbv : bitU b hd k with
                              | true =>
                                rw [hbv] at hck
                                obtain ⟨LM, hLM⟩ : ∃ LM, LM = b.length - 1 := ⟨_, rfl⟩
                                have eLM : (b.length : Int) - 1 = (LM : Int) := by omega
                                have Hu := Lib.hid (H5.out.bad ⟨k, by rw [← HNN.out, ← HT.out]; exact hk1, by rw [← HM6.out]; exact hkM, by rw [← Hhd.out]; exact hbv⟩)
                                rw [← hLM] at Hu
                                clear hbv hLM
                                go_wp2_with fail
                                refine (F_any 7 (LM : Int) w6).mono ?_
                                rintro e wz ⟨rfl, rfl⟩
                                have ST := Lib.hid ((S6.out).below (below1 w6 (Obj.cells #[.int .i64 7, .int .i64 (LM : Int)] 27)))
                                generalize (w6).alloc (Obj.cells #[.int .i64 7, .int .i64 (LM : Int)] 27) = wz at *
                                obtain ⟨z0, z1, f0, f1, l0⟩ := row_facts ST.out.r0
                                obtain ⟨y0, y1, g0, g1, l1⟩ := row_facts ST.out.r1
                                go_wp2
                                obtain ⟨c0, c1, c2, c3⟩ := four_set ST.out.r0 ST.out.r1 (show w.heap.size ≠ w.heap.size + 1 by omega) (.int .i64 0) (.slice none 0 0) (.int .i64 7) (.int .i64 (LM : Int))
                                have hfin := four_below ST.out.hb (Nat.le_refl _) (show w.heap.size ≤ w.heap.size + 1 by omega) (.int .i64 0) (.slice none 0 0) (.int .i64 7) (.int .i64 (LM : Int))
                                exact bodyPost_ret (v := .tuple #[.agg #[.int .i64 0, .slice none 0 0], .agg #[.int .i64 7, .int .i64 (LM : Int)]]) (by simp [results, Tryd.results16, go_sem, c0, c1, c2, c3]) rfl ⟨0, [], 7, (LM : Int), Hu.out, _, OwnE.nil _ _, hfin, rfl⟩
                              | false =>
                                rw [hbv] at hck
                                have Hbv := Lib.hid hbv
                                clear hbv
                                go_wp2
                                go_roundg (M - (k + 1))
                                case measure => go_light; omega
                                case rel => exact ⟨k + 1, by omega, by omega, rfl, by go_num, fun m h1 h2 => by
                                  by_cases e : m = k
                                  · rw [e]; exact Hbv.out
                                  · exact Hpad.out m h1 (by omega), rfl⟩
                            · obtain rfl : k = M := by omega
                              have H6' := Lib.hid (U6.mk H5.out (fun ⟨m, h1, h2, h3⟩ => by
                                rw [← HNN.out, ← HT.out] at h1
                                rw [← HM6.out] at h2
                                rw [← Hhd.out] at h3
                                have := Hpad.out m h1 h2
                                rw [h3] at this
                                cases this))
                              clear Hpad hkM hk2
                              go_wp2_with fail
                              refine (gridOf_any [] N (.slice none 0 0) w6 (OwnE.nil w6 0).edges hN (fun j hj => absurd hj (Nat.not_lt_zero _))).mono ?_
                              rintro e w7 ⟨gv, rfl, hg7, hb7⟩
                              have S7 := Lib.hid (S6.out.below hb7)
                              obtain ⟨ga, gcap, bb, o, R, rfl, hgcap, hga, hgrid⟩ := hg7
                              have hgs : GS w w7 b hd N k w6.heap.size bb o R gb 0 0 := ⟨⟨_, hgrid, fun a c hac hc => by
                                rw [if_neg (by omega)]; rfl⟩, S7.out, fun m hm => below_cell hb7 (Hcell.out m hm)⟩
                              have Hgs := Lib.hid hgs; have Hga := Lib.hid hga
                              have hBg := S6.out.r1.lt
                              obtain ⟨Bg, hBg2⟩ : ∃ Bg, Bg = w6.heap.size := ⟨_, rfl⟩
                              rw [← hBg2] at Hgs Hga hBg Hgb
                              have Hgc := Lib.hid hgcap
                              clear hb7 hgrid hgs hga hBg2 hgcap
                              go_wp2
                              go_loopg [15, 16, 17] N (fun g s15 s16 s17 wr => ∃ (j t : Nat), j ≤ N ∧ g = N - j ∧ s16 = .int .i64 (j : Int) ∧ s15 = .int .i64 (t : Int) ∧ t = triN j ∧ GS w wr b hd N k Bg bb o R gb j 0)
                              case atStart => exact ⟨0, 0, Nat.zero_le _, rfl, rfl, rfl, rfl, Hgs.out⟩
                              case round =>
                                obtain ⟨j, t, hj, rfl, rfl, rfl, ht, hst⟩ := hrel
                                have Hst := Lib.hid hst; have Ht := Lib.hid ht
                                clear hst
                                by_cases hjn : j < N
                                · obtain ⟨wo, rfl⟩ : ∃ wo : World, wo = wr := ⟨_, rfl⟩
                                  have hga2 := (Hga.out (by omega)).1
                                  subst hga2
                                  have htT : t ≤ 4950 := by rw [ht]; exact Nat.le_trans (triN_mono hj) (triN_le hN)
                                  clear ht
                                  go_wp2
                                  go_loopg [15, 17] j (fun g s15 s17 wr => ∃ i m : Nat, i ≤ j ∧ g = j - i ∧ s17 = .int .i64 (i : Int) ∧ s15 = .int .i64 (m : Int) ∧ m = t + i ∧ GS w wr b hd N k Bg bb o R gb j i)
                                  case atStart => exact ⟨0, t, Nat.zero_le _, rfl, rfl, rfl, rfl, Hst.out⟩
                                  case round =>
                                    obtain ⟨i, m, hi, rfl, rfl, rfl, hm, hst⟩ := hrel
                                    have Hm := Lib.hid hm
                                    have Hst2 := Lib.hid hst
                                    by_cases hij : i < j
                                    · have hmT : m < T := by rw [hm, Ht.out, HT.out]; exact tri_lt hij hjn
                                      have hmk : m < k := by omega
                                      obtain ⟨rfl, hgb2⟩ := Hgb.out (by omega)
                                      obtain ⟨Gc, hgr, -⟩ := hst.grid
                                      have h1 := hgr.head i (by omega)
                                      have h2 := hst.bits m hmk
                                      have h3 := hgr.cell (show i < N by omega) hjn
                                      have h4 := (hgr.row i (by omega)).frozen j
                                      have h5 := (hgr.row i (by omega)).lt
                                      have n1 := hgr.off i (by omega)
                                      have n2 : R i ≠ gb := by have := hgr.new i (by omega); omega
                                      have hbit : bitU b hd m = gU b i j := by unfold gU; rw [hm, Ht.out, Hhd.out]
                                      rw [hbit] at h2
                                      have Hn := Lib.hid (hst.put hij hjn hgb2 (by omega))
                                      have hmN : m ≤ 4950 := by omega
                                      have hiN : (i : Int) < (N : Int) := by omega
                                      have hjN : (j : Int) < (N : Int) := by omega
                                      have hmK : (m : Int) < (k : Int) := by omega
                                      clear hm hgr hst hbit hmT
                                      generalize gU b i j = x at *
                                      generalize R i = bX at *
                                      go_wp2
                                      go_region_held3 (fun w' => w'.cell? ⟨bb, o + i, none⟩ = some (.slice (some ⟨bX, 0, none⟩) N N) ∧ w'.cell? ⟨gb, m, none⟩ = some (.bool x)) (go_keep) (fail)
                                      go_wp2
                                      go_roundg (j - (i + 1))
                                      case measure => go_light; omega
                                      case rel => exact ⟨i + 1, m + 1, by omega, rfl, by go_num, by go_num, by have := Hm.out; omega, Hn.out⟩
                                    · obtain rfl : i = j := by omega
                                      have Hn := Lib.hid (show GS w wr b hd N k Bg bb o R gb (i + 1) 0 from hst.next)
                                      have Hmi := Lib.hid (show m = triN (i + 1) by rw [triN_succ, hm, Ht.out])
                                      have hmN : m ≤ 10000 := by omega
                                      clear hst hm
                                      go_wp2
                                      go_roundg (N - (i + 1))
                                      case measure => go_light; omega
                                      case rel => exact ⟨i + 1, m, by omega, rfl, by go_num, rfl, Hmi.out, Hn.out⟩
                                · obtain rfl : j = N := by omega
                                  obtain ⟨Gc, hgr, hfull⟩ := Hst.out.grid
                                  have HG8 := Lib.hid (show HasGrid wr (.slice ga j gcap) j Gc from ⟨Bg, ga, gcap, bb, o, R, rfl, Hgc.out, Hga.out, hgr⟩)
                                  have hprs : prsTo j Gc j = edgesU b := by
                                    unfold edgesU
                                    rw [← HNN.out]
                                    exact prsTo_congr (fun a c hac hc => by rw [hfull a c hac hc, if_pos (by omega)]) _
                                  have Hprs := Lib.hid hprs
                                  have hrs8 := Lib.hid Hst.out.rs
                                  clear hgr hfull hprs ht
                                  go_wp2_with fail
                                  refine (of_any j Gc (.slice ga j gcap) wr hN HG8.out).mono ?_
                                  rintro e w9 ⟨v9, ho9, hb9, rfl⟩
                                  rw [Hprs.out] at ho9
                                  obtain ⟨a10, c10, rfl⟩ := ho9.form
                                  have S9 := Lib.hid (hrs8.out.below hb9)
                                  have hle : (edgesU b).length ≤ 10000 := by
                                    unfold edgesU
                                    have h1 := prsTo_length (nU b) (gU b) (nU b)
                                    rw [← HNN.out] at h1 ⊢
                                    have : j * j ≤ 100 * 100 := Nat.mul_le_mul hN hN
                                    omega
                                  obtain ⟨E, hE⟩ : ∃ E, E = edgesU b := ⟨_, rfl⟩
                                  rw [← hE] at ho9 hle ⊢
                                  have HE := Lib.hid hE
                                  have hfe : (Instr.field 24 (.agg #[.int .i64 (j : Int), .slice a10 E.length c10]) 1).run Tryd.prog w9 = .ok (.slice a10 E.length c10) w9 := by kernel_rfl
                                  have c12 := two_cells w9 (.int .i64 (j : Int)) (.slice a10 E.length c10) 24
                                  have S10 := Lib.hid (S9.out.below (below1 w9 (Obj.cells #[.int .i64 (j : Int), .slice a10 E.length c10] 24)))
                                  have Ho10 := Lib.hid ((ho9.below (below1 w9 (Obj.cells #[.int .i64 (j : Int), .slice a10 E.length c10] 24))).low (show w.heap.size + 2 ≤ wr.heap.size by have := hrs8.out.r1.lt; omega))
                                  have hlt9 : w.heap.size + 1 < w9.heap.size := S9.out.r1.lt
                                  clear hE ho9 hb9 hfe
                                  obtain ⟨z0, z1, f0, f1, l0⟩ := row_facts S10.out.r0
                                  obtain ⟨y0, y1, g0, g1, l1⟩ := row_facts S10.out.r1
                                  obtain ⟨c12, c13⟩ := c12
                                  go_upto_region 52 with fail
                                  generalize w9.alloc (Obj.cells #[.int .i64 (j : Int), .slice a10 E.length c10] 24) = w10 at *
                                  generalize w9.heap.size = G9 at *
                                  by_cases hmany : 1000 < E.length
                                  · have q9 : (1000 : Int) < (E.length : Int) := by omega
                                    have Hu := Lib.hid (H6'.out.bad (by rw [← HE.out]; exact hmany))
                                    clear hmany z0 z1 f0 f1 l0 y0 y1 g0 g1 l1
                                    go_wp2_with fail
                                    refine (F_any 2 0 w10).mono ?_
                                    rintro e wz ⟨rfl, rfl⟩
                                    have ST := Lib.hid ((S10.out).below (below1 w10 (Obj.cells #[.int .i64 2, .int .i64 0] 27)))
                                    generalize (w10).alloc (Obj.cells #[.int .i64 2, .int .i64 0] 27) = wz at *
                                    obtain ⟨z0, z1, f0, f1, l0⟩ := row_facts ST.out.r0
                                    obtain ⟨y0, y1, g0, g1, l1⟩ := row_facts ST.out.r1
                                    go_wp2
                                    obtain ⟨c0, c1, c2, c3⟩ := four_set ST.out.r0 ST.out.r1 (show w.heap.size ≠ w.heap.size + 1 by omega) (.int .i64 0) (.slice none 0 0) (.int .i64 2) (.int .i64 0)
                                    have hfin := four_below ST.out.hb (Nat.le_refl _) (show w.heap.size ≤ w.heap.size + 1 by omega) (.int .i64 0) (.slice none 0 0) (.int .i64 2) (.int .i64 0)
                                    exact bodyPost_ret (v := .tuple #[.agg #[.int .i64 0, .slice none 0 0], .agg #[.int .i64 2, .int .i64 0]]) (by simp [results, Tryd.results16, go_sem, c0, c1, c2, c3]) rfl ⟨0, [], 2, 0, Hu.out, _, OwnE.nil _ _, hfin, rfl⟩
                                  · have q9 : ¬ (1000 : Int) < (E.length : Int) := by omega
                                    have Hu := Lib.hid (H6'.out.good (by rw [← HE.out]; exact hmany))
                                    obtain ⟨gl, hgl⟩ : ∃ gl, gl = E.length := ⟨_, rfl⟩
                                    rw [← hgl] at c13 q9
                                    have Hgl := Lib.hid hgl
                                    clear hmany hgl
                                    go_wp2
                                    obtain ⟨k0, k1, k2, k3⟩ := four_set S10.out.r0 S10.out.r1 (show w.heap.size ≠ w.heap.size + 1 by omega) (.int .i64 (j : Int)) (.slice a10 gl c10) (.int .i64 0) (.int .i64 0)
                                    have hfin := four_below S10.out.hb (Nat.le_refl _) (show w.heap.size ≤ w.heap.size + 1 by omega) (.int .i64 (j : Int)) (.slice a10 gl c10) (.int .i64 0) (.int .i64 0)
                                    have hown := ((((Ho10.out.set (show w.heap.size < w.heap.size + 2 by omega) 0 (.int .i64 (j : Int))).set (show w.heap.size < w.heap.size + 2 by omega) 1 (.slice a10 gl c10)).set (show w.heap.size + 1 < w.heap.size + 2 by omega) 0 (.int .i64 0)).set (show w.heap.size + 1 < w.heap.size + 2 by omega) 1 (.int .i64 0)).low (show w.heap.size ≤ w.heap.size + 2 by omega)
                                    rw [← Hgl.out, HE.out] at hown
                                    exact bodyPost_ret (v := .tuple #[.agg #[.int .i64 (j : Int), .slice a10 gl c10], .agg #[.int .i64 0, .int .i64 0]]) (by simp [results, Tryd.results16, go_sem, k0, k1, k2, k3]) rfl
                                      ⟨nU b, edgesU b, 0, 0, Hu.out, _, hown, hfin, by rw [← HNN.out]⟩
            · have q6 : (100 : Int) < (N : Int) := by omega
              have Hu := Lib.hid (H3.out.bad (by rw [← HNN.out]; omega))
              clear hN
              go_wp2_with fail
              refine (F_any 2 0 w4).mono ?_
              rintro e wz ⟨rfl, rfl⟩
              have ST := Lib.hid ((S4.out).below (below1 w4 (Obj.cells #[.int .i64 2, .int .i64 0] 27)))
              generalize (w4).alloc (Obj.cells #[.int .i64 2, .int .i64 0] 27) = wz at *
              obtain ⟨z0, z1, f0, f1, l0⟩ := row_facts ST.out.r0
              obtain ⟨y0, y1, g0, g1, l1⟩ := row_facts ST.out.r1
              go_wp2
              obtain ⟨c0, c1, c2, c3⟩ := four_set ST.out.r0 ST.out.r1 (show w.heap.size ≠ w.heap.size + 1 by omega) (.int .i64 0) (.slice none 0 0) (.int .i64 2) (.int .i64 0)
              have hfin := four_below ST.out.hb (Nat.le_refl _) (show w.heap.size ≤ w.heap.size + 1 by omega) (.int .i64 0) (.slice none 0 0) (.int .i64 2) (.int .i64 0)
              exact bodyPost_ret (v := .tuple #[.agg #[.int .i64 0, .slice none 0 0], .agg #[.int .i64 2, .int .i64 0]]) (by simp [results, Tryd.results16, go_sem, c0, c1, c2, c3]) rfl ⟨0, [], 2, 0, Hu.out, _, OwnE.nil _ _, hfin, rfl⟩
        · have hne : s.toList.isEmpty = true := by
            rw [Emp.out]
            cases hb0 : b with
            | nil => rfl
            | cons _ _ => rw [hb0] at hlen; simp at hlen
          have Hu := Lib.hid (H1.out.short (by unfold hdU; split <;> omega))
          clear hlen
          go_wp2_with fail
          refine (F_any 1 (b.length : Int) w1).mono ?_
          rintro e wz ⟨rfl, rfl⟩
          have ST := Lib.hid ((St.out).below (below1 w1 (Obj.cells #[.int .i64 1, .int .i64 (b.length : Int)] 27)))
          generalize (w1).alloc (Obj.cells #[.int .i64 1, .int .i64 (b.length : Int)] 27) = wz at *
          obtain ⟨z0, z1, f0, f1, l0⟩ := row_facts ST.out.r0
          obtain ⟨y0, y1, g0, g1, l1⟩ := row_facts ST.out.r1
          go_wp2
          obtain ⟨c0, c1, c2, c3⟩ := four_set ST.out.r0 ST.out.r1 (show w.heap.size ≠ w.heap.size + 1 by omega) (.int .i64 0) (.slice none 0 0) (.int .i64 1) (.int .i64 (b.length : Int))
          have hfin := four_below ST.out.hb (Nat.le_refl _) (show w.heap.size ≤ w.heap.size + 1 by omega) (.int .i64 0) (.slice none 0 0) (.int .i64 1) (.int .i64 (b.length : Int))
          exact bodyPost_ret (v := .tuple #[.agg #[.int .i64 0, .slice none 0 0], .agg #[.int .i64 1, .int .i64 (b.length : Int)]]) (by simp [results, Tryd.results16, go_sem, c0, c1, c2, c3]) rfl ⟨0, [], 1, (b.length : Int), Hu.out, _, OwnE.nil _ _, hfin, rfl⟩
  · have hl2 : (20000 : Int) < (b.length : Int) := by omega
    have Hu := Lib.hid (uG_many (b := b) (by omega))
    go_wp2_with fail
    refine (F_any 2 0 w1).mono ?_
    rintro e wz ⟨rfl, rfl⟩
    have ST := Lib.hid ((St.out).below (below1 w1 (Obj.cells #[.int .i64 2, .int .i64 0] 27)))
    generalize (w1).alloc (Obj.cells #[.int .i64 2, .int .i64 0] 27) = wz at *
    obtain ⟨z0, z1, f0, f1, l0⟩ := row_facts ST.out.r0
    obtain ⟨y0, y1, g0, g1, l1⟩ := row_facts ST.out.r1
    go_wp2
    obtain ⟨c0, c1, c2, c3⟩ := four_set ST.out.r0 ST.out.r1 (show w.heap.size ≠ w.heap.size + 1 by omega) (.int .i64 0) (.slice none 0 0) (.int .i64 2) (.int .i64 0)
    have hfin := four_below ST.out.hb (Nat.le_refl _) (show w.heap.size ≤ w.heap.size + 1 by omega) (.int .i64 0) (.slice none 0 0) (.int .i64 2) (.int .i64 0)
    exact bodyPost_ret (v := .tuple #[.agg #[.int .i64 0, .slice none 0 0], .agg #[.int .i64 2, .int .i64 0]]) (by simp [results, Tryd.results16, go_sem, c0, c1, c2, c3]) rfl ⟨0, [], 2, 0, Hu.out, _, OwnE.nil _ _, hfin, rfl⟩

end Go.Proofs.YtokjcapheogkoaaDoor
