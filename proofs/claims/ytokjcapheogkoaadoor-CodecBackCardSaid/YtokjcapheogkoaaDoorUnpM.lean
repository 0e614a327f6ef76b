/- codec.Unpack: its closures, and what it finds in memory. -/
import Derived.Test.YtokjcapheogkoaaDoorBP
import Derived.Test.YtokjcapheogkoaaDoorReadsW
import Derived.Test.YtokjcapheogkoaaDoorBits
namespace Go.Proofs.YtokjcapheogkoaaDoor
open Go Go.RowKit

theorem ufail_any (c a : Int) (w : World) :
    Calls Tryd.prog 29 #[.int .i64 c, .int .i64 a] w fun e w' => e = .returned (.tuple #[.agg #[.int .i64 0, .slice none 0 0], .agg #[.int .i64 c, .int .i64 a]]) ∧ Below w.heap.size w w' := by
  have r0 := (two_row w (.int .i64 0) (.slice none 0 0) 24).alloc (Obj.cells #[.int .i64 0, .int .i64 0] 27)
  have r1 := two_row (w.alloc (Obj.cells #[.int .i64 0, .slice none 0 0] 24)) (.int .i64 0) (.int .i64 0) 27
  rw [World.size_alloc] at r1
  have hb := below2 w (Obj.cells #[.int .i64 0, .slice none 0 0] 24) (Obj.cells #[.int .i64 0, .int .i64 0] 27)
  have R0 := Lib.hid r0; have R1 := Lib.hid r1; have Hb := Lib.hid hb
  clear r0 r1 hb
  go_enter Tryd.func29, Tryd.ntmps29
  go_upto_region 1 with fail
  generalize (w.alloc (Obj.cells #[.int .i64 0, .slice none 0 0] 24)).alloc (Obj.cells #[.int .i64 0, .int .i64 0] 27) = w1 at *
  go_wp2_with fail
  refine (cofault_any c a w1).mono ?_
  rintro e w2 ⟨rfl, rfl⟩
  have S0 := Lib.hid (R0.out.alloc (Obj.cells #[.int .i64 c, .int .i64 a] 27))
  have S1 := Lib.hid (R1.out.alloc (Obj.cells #[.int .i64 c, .int .i64 a] 27))
  have hb2 := Lib.hid (upq Hb.out (below1 w1 (Obj.cells #[.int .i64 c, .int .i64 a] 27)))
  generalize w1.alloc (Obj.cells #[.int .i64 c, .int .i64 a] 27) = w2 at *
  obtain ⟨z0, z1, f0, f1, l0⟩ := row_facts S0.out
  obtain ⟨y0, y1, g0, g1, l1⟩ := row_facts S1.out
  go_wp2
  obtain ⟨c0, c1, c2, c3⟩ := four_set S0.out S1.out (show w.heap.size ≠ w.heap.size + 1 by omega) (.int .i64 0) (.slice none 0 0) (.int .i64 c) (.int .i64 a)
  have hfin := four_below hb2.out (Nat.le_refl _) (show w.heap.size ≤ w.heap.size + 1 by omega) (.int .i64 0) (.slice none 0 0) (.int .i64 c) (.int .i64 a)
  exact bodyPost_ret (v := .tuple #[.agg #[.int .i64 0, .slice none 0 0], .agg #[.int .i64 c, .int .i64 a]]) (by simp [results, Tryd.results29, go_sem, c0, c1, c2, c3]) rfl ⟨rfl, hfin⟩

set_option maxHeartbeats 1000000 in
set_option maxRecDepth 100000 in
theorem bit_any (b : List UInt8) (S H A h k : Nat) (w : World) (hs : w.cell? ⟨S, 0, none⟩ = some (.string (bA b))) (hh : w.cell? ⟨H, 0, none⟩ = some (.int .i64 (h : Int))) (hA : w.cell? ⟨A, 0, none⟩ = some (.int .i64 (k : Int))) (hf : w.frozen? ⟨A, 0, none⟩ = false)
    (hl : b.length ≤ 20000) (hk : h + k / 6 < b.length) (hok : okB (bt b (h + k / 6))) :
    Calls Tryd.prog 31 #[.pointer (some ⟨S, 0, none⟩), .pointer (some ⟨H, 0, none⟩), .pointer (some ⟨A, 0, none⟩)] w fun e w' =>
      e = .returned (.bool (bitU b h k)) ∧ w.setCell ⟨A, 0, none⟩ (.int .i64 ((k + 1 : Nat) : Int)) = w' := by
  have hix := bA_at b (h + k / 6) hk
  have hbit : bitU b h k = decide ((bt b (h + k / 6) - 63) / 2 ^ (5 - k % 6) % 2 = 1) := rfl
  obtain ⟨q, hq⟩ : ∃ q, q = k / 6 := ⟨_, rfl⟩
  obtain ⟨r, hr⟩ : ∃ r, r = k % 6 := ⟨_, rfl⟩
  have hk2 : k ≤ 120000 := by omega
  have e1 : (k : Int).tdiv 6 = (q : Int) := by rw [Int.tdiv_eq_ediv_of_nonneg (by omega)]; omega
  have e1' : (k : Int) / 6 = (q : Int) := by omega
  have e2 : (k : Int).tmod 6 = (r : Int) := by rw [Int.tmod_eq_emod_of_nonneg (by omega)]; omega
  have e2' : (k : Int) % 6 = (r : Int) := by omega
  rw [← hq] at hix hbit hok hk
  rw [← hr] at hbit
  obtain ⟨i, hi⟩ : ∃ i, i = h + q := ⟨_, rfl⟩
  rw [← hi] at hix hbit hok hk
  have e3 : (h : Int) + (q : Int) = (i : Int) := by omega
  unfold okB at hok
  generalize bt b i = x at *
  obtain ⟨c, hc⟩ : ∃ c, c = x - 63 := ⟨_, rfl⟩
  have e4 : (x : Int) - 63 = (c : Int) := by omega
  obtain ⟨s, hs5⟩ : ∃ s, s = 5 - r := ⟨_, rfl⟩
  have e5 : 5 - (r : Int) = (s : Int) := by omega
  rw [← hc, ← hs5] at hbit
  have hsh : (c : Int) / 2 ^ s = ((c / 2 ^ s : Nat) : Int) := by simp
  obtain ⟨d, hd⟩ : ∃ d, d = c / 2 ^ s := ⟨_, rfl⟩
  rw [← hd] at hbit hsh
  have hd63 : d ≤ 63 := by
    have := Nat.div_le_self c (2 ^ s)
    omega
  have e7 : bits BinOp.and IntKind.i64 (d : Int) 1 = ((d % 2 : Nat) : Int) := by
    have := op_and (a := d) (b := 1) (by unfold Few; omega) (by decide)
    rw [show land d 1 = d % 2 from Nat.and_two_pow_sub_one_eq_mod d 1] at this
    exact this
  obtain ⟨m, hm⟩ : ∃ m, m = d % 2 := ⟨_, rfl⟩
  rw [← hm] at hbit e7
  have e8 : ((m : Int) == 1) = bitU b h k := by
    rw [hbit]
    by_cases hm1 : m = 1
    · simp [hm1]
    · simp [hm1]; omega
  have hs6 : s ≤ 5 := by omega
  have hi2 : i ≤ 20000 := by omega
  obtain ⟨k1, hk1⟩ : ∃ k1, k1 = k + 1 := ⟨_, rfl⟩
  have hkk : (k : Int) + 1 = (k1 : Int) := by omega
  have hkm : (k1 : Int) - 1 = (k : Int) := by omega
  have hx1 : 63 ≤ x := hok.1
  have hx2 : x ≤ 126 := hok.2
  rw [← hk1]
  have hk12 : k1 ≤ 120001 := by omega
  clear hq hr hi hc hs5 hd hm hbit hok hk hk1
  generalize bitU b h k = bv at *
  generalize bA b = str at *
  go_enter Tryd.func31, Tryd.ntmps31
  go_wp2
  go_ret
  exact ⟨rfl, rfl⟩

theorem one_row (w : World) (c : Value) (T : TypeId) : (w.alloc (Obj.cells #[c] T)).rowIs w.heap.size T 1 (fun _ => c) :=
  World.rowIs_alloc w #[c] T _ (fun i hi => by
    match i, hi with
    | 0, _ => rfl)
theorem one_facts {w : World} {B : Nat} {T : TypeId} {c : Value} (h : w.rowIs B T 1 (fun _ => c)) : w.cell? ⟨B, 0, none⟩ = some c ∧ w.frozen? ⟨B, 0, none⟩ = false ∧ B < w.heap.size :=
  ⟨h.cell (show 0 < 1 by omega), h.frozen 0, h.lt⟩
theorem one_set {w : World} {B : Nat} {T : TypeId} {c : Value} (h : w.rowIs B T 1 (fun _ => c)) (d : Value) : (w.setCell ⟨B, 0, none⟩ d).rowIs B T 1 (fun _ => d) :=
  (h.set 0 d).congr fun i hi => by
    match i, hi with
    | 0, _ => rfl

theorem bA_empty (b : List UInt8) : (bA b).toList.isEmpty = b.isEmpty := by rw [ByteArray.toList_eq]; simp [bA]
theorem bA_extract (b : List UInt8) (i j : Nat) : (bA b).extract i j = bA ((b.drop i).take (j - i)) := by
  apply ByteArray.ext
  rw [ByteArray.data_extract]
  simp [bA]
theorem bA_cut (b : List UInt8) (h : 4 ≤ b.length) (W : World) : (Instr.slice 9 (.string (bA b)) (some (.int .i64 1)) (some (.int .i64 4)) none).run Tryd.prog W = .ok (.string (bA ((b.drop 1).take 3))) W := by
  have h4 : ((4 : Int) ≤ (bA b).size) := by rw [bA_size]; omega
  have ht := Tryd.underlying9
  have e := bA_extract b 1 4
  simp [Instr.slice, run_underlying ht, Instr.sliceBounds, run_sliceBound, sliced, h4]
  simpa using e
theorem bt_cut {b : List UInt8} {j : Nat} (hj : j < 3) : bt ((b.drop 1).take 3) j = bt b (1 + j) := by
  unfold bt
  rw [Nat.add_comm 1 j]
  simp [List.getD, List.getElem?_take, hj]
/-- Bytes of a text, in a new block. -/
theorem bytes_any (l : List UInt8) (W : World) : ∃ cap W', (convert 9 42 (.string (bA l))).run Tryd.prog W = .ok (.slice (some ⟨W.heap.size, 0, none⟩) l.length cap) W' ∧ Below W.heap.size W W' ∧ ∀ j, j < l.length → W'.cell? ⟨W.heap.size, j, none⟩ = some (.int .u8 (bt l j : Nat)) := by
  refine ⟨_, _, by rw [run_bytes_of_string W 9 42 5 (bA l) Tryd.underlying9 Tryd.underlying42 Tryd.underlying5, bA_size], ((Below.refl _ _).drew.alloc (by simp) _), fun j hj => ?_⟩
  have h1 := World.cell?_alloc_mark W.drew (bytesRow (bA l) (grownCap W (bA l).size 0 5)) 5 ((bytesRow (bA l) (grownCap W (bA l).size 0 5)).size, (bytesRow (bA l) (grownCap W (bA l).size 0 5)).size + 1) j
  refine (Eq.trans ?_ h1).trans ?_
  · rfl
  · rw [bytesRow_at _ _ _ (by show j < l.toArray.size; simpa using hj)]
    simp [bA, bt, List.getD, hj]
theorem or_add {n c : Nat} (hn : n ≤ 4095) (hc : c < 64) : bits .or .i64 ((n * 64 : Nat) : Int) (c : Int) = ((n * 64 + c : Nat) : Int) := by
  rw [op_or (by unfold Few; omega) (by unfold Few; omega)]
  have := Nat.two_pow_add_eq_or_of_lt (i := 6) (b := c) (by omega) n
  unfold lor
  rw [show n * 64 = 2 ^ 6 * n by omega, ← this]

/-- The text in its box, two results. -/
structure US (w wr : World) (s : ByteArray) : Prop where
  hb : Below w.heap.size w wr
  sb : wr.rowIs w.heap.size 9 1 (fun _ => .string s)
  r0 : wr.rowIs (w.heap.size + 1) 24 2 (fun i => if i = 0 then .int .i64 0 else .slice none 0 0)
  r1 : wr.rowIs (w.heap.size + 1 + 1) 27 2 (fun i => if i = 0 then .int .i64 0 else .int .i64 0)
theorem US.start (w : World) (s : ByteArray) : US w (((w.alloc (Obj.cells #[.string s] 9)).alloc (Obj.cells #[.int .i64 0, .slice none 0 0] 24)).alloc (Obj.cells #[.int .i64 0, .int .i64 0] 27)) s := by
  have r0 := two_row (w.alloc (Obj.cells #[.string s] 9)) (.int .i64 0) (.slice none 0 0) 24
  have r1 := two_row ((w.alloc (Obj.cells #[.string s] 9)).alloc (Obj.cells #[.int .i64 0, .slice none 0 0] 24)) (.int .i64 0) (.int .i64 0) 27
  rw [World.size_alloc] at r0
  rw [World.size_alloc, World.size_alloc] at r1
  exact ⟨(below2 w _ _).alloc (by simp; omega) _, ((one_row w (.string s) 9).alloc _).alloc _, r0.alloc _, r1⟩
theorem US.below {w wr w' : World} {s : ByteArray} (h : US w wr s) (hb : Below wr.heap.size wr w') : US w w' s :=
  ⟨h.hb.trans (hb.mono h.hb.size), h.sb.of_block (hb.block _ h.sb.lt), h.r0.of_block (hb.block _ h.r0.lt), h.r1.of_block (hb.block _ h.r1.lt)⟩
/-- With the head's length. -/
structure UH (w wr : World) (s : ByteArray) (h : Nat) : Prop extends US w wr s where
  hh : wr.rowIs (w.heap.size + 3) 3 1 (fun _ => .int .i64 (h : Int))
theorem UH.below {w wr w' : World} {s : ByteArray} {h : Nat} (H : UH w wr s h) (hb : Below wr.heap.size wr w') : UH w w' s h :=
  ⟨H.toUS.below hb, H.hh.of_block (hb.block _ H.hh.lt)⟩
theorem UH.put {w wr : World} {s : ByteArray} {h : Nat} (H : UH w wr s h) (h' : Nat) : UH w (wr.setCell ⟨w.heap.size + 3, 0, none⟩ (.int .i64 (h' : Int))) s h' :=
  ⟨⟨H.hb.setCell (show w.heap.size ≤ w.heap.size + 3 by omega) _, H.sb.setOther (show w.heap.size ≠ w.heap.size + 3 by omega) _, H.r0.setOther (show w.heap.size + 1 ≠ w.heap.size + 3 by omega) _, H.r1.setOther (show w.heap.size + 1 + 1 ≠ w.heap.size + 3 by omega) _⟩, one_set H.hh _⟩
/-- With the graph under way, and the next bit's place. -/
structure UL (w wr : World) (s : ByteArray) (h G A k : Nat) (n : Int) (v : Value) (L : List (Int × Int)) : Prop extends UH w wr s h where
  out : wr.rowIs G 24 2 (fun i => if i = 0 then .int .i64 n else v)
  at_ : wr.rowIs A 3 1 (fun _ => .int .i64 (k : Int))
  own : OwnE wr (A + 1) v L
  hG : w.heap.size + 3 < G
  hA : G < A
section
variable {w wr : World} {s : ByteArray} {h G A k : Nat} {n : Int} {v : Value} {L : List (Int × Int)} (H : UL w wr s h G A k n v L)
include H
theorem UL.below {w' : World} (hb : Below wr.heap.size wr w') : UL w w' s h G A k n v L :=
  ⟨H.toUH.below hb, H.out.of_block (hb.block _ H.out.lt), H.at_.of_block (hb.block _ H.at_.lt), H.own.below hb, H.hG, H.hA⟩
theorem UL.bump (k' : Nat) : UL w (wr.setCell ⟨A, 0, none⟩ (.int .i64 (k' : Int))) s h G A k' n v L := by
  have h1 := H.hG
  have h2 := H.hA
  exact ⟨⟨⟨H.hb.setCell (show w.heap.size ≤ A by omega) _, H.sb.setOther (show w.heap.size ≠ A by omega) _, H.r0.setOther (show w.heap.size + 1 ≠ A by omega) _, H.r1.setOther (show w.heap.size + 1 + 1 ≠ A by omega) _⟩, H.hh.setOther (show w.heap.size + 3 ≠ A by omega) _⟩,
    H.out.setOther (show G ≠ A by omega) _, one_set H.at_ _, H.own.set (by omega) _ _, h1, h2⟩
theorem UL.hlo : ∀ g, v.ownBlock = some g → A + 1 ≤ g ∧ g < wr.heap.size := fun g e => World.ownsRow.lt H.own g e
theorem UL.after {w2 : World} (hg : wr.grownBy w2 v.ownBlock) : w2.rowIs G 24 2 (fun i => if i = 0 then .int .i64 n else v) := by
  have hlo := H.hlo
  have := H.hA
  exact H.out.of_block (hg.block _ H.out.lt (fun e => by have := (hlo _ e.symm).1; omega))
theorem UL.put {w2 : World} {v2 : Value} {L2 : List (Int × Int)} (h2 : OwnE w2 (A + 1) v2 L2) (hg : wr.grownBy w2 v.ownBlock) :
    UL w (w2.setCell ⟨G, 1, none⟩ v2) s h G A k n v2 L2 := by
  have hlo := H.hlo
  have hG := H.hG
  have hA := H.hA
  have blk : ∀ q, q < A + 1 → q < wr.heap.size → w2.heap[q]? = wr.heap[q]? := fun q hq hl => hg.block q hl (fun e => by have := (hlo q e.symm).1; omega)
  refine ⟨⟨⟨(H.hb.grown hg H.hb.size (fun g e => by have := (hlo g e).1; omega)).setCell (show w.heap.size ≤ G by omega) _, ?_, ?_, ?_⟩, ?_⟩, ?_, ?_, h2.set (by omega) _ _, hG, hA⟩
  · exact (H.sb.of_block (blk _ (by omega) H.sb.lt)).setOther (show w.heap.size ≠ G by omega) _
  · exact (H.r0.of_block (blk _ (by omega) H.r0.lt)).setOther (show w.heap.size + 1 ≠ G by omega) _
  · exact (H.r1.of_block (blk _ (by omega) H.r1.lt)).setOther (show w.heap.size + 1 + 1 ≠ G by omega) _
  · exact (H.hh.of_block (blk _ (by omega) H.hh.lt)).setOther (show w.heap.size + 3 ≠ G by omega) _
  · refine ((H.out.of_block (blk _ (by omega) H.out.lt)).set 1 _).congr fun i hi => ?_
    by_cases e : i = 1
    · subst e; simp
    · have : i = 0 := by omega
      subst this; simp
  · exact (H.at_.of_block (blk _ (by omega) H.at_.lt)).setOther (show A ≠ G by omega) _
end
/-- What Unpack hands back. -/
def UnpPost (b : List UInt8) (w : World) (e : Ending) (w' : World) : Prop := ∃ (N : Nat) (G : List (Int × Int)) (c a : Int), uG b = (N, G, c, a) ∧ TwoPost (N : Int) G c a w e w'

theorem make_is {g : Nat → Nat → Bool} {n : Nat} {L : List (Int × Int)} (hp : L.Perm ((preE g n).map norm)) (hs : L.Pairwise fun a b => ¬ LexLt b a) : L = prsTo n g n := by
  have e : (preE g n).map norm = preE g n := by
    refine (List.map_congr_left fun x hx => ?_).trans (List.map_id _)
    obtain ⟨i, j, h1, -, -, rfl⟩ := (mem_preE n).1 hx
    unfold norm
    simp only [id]
    rw [if_pos (by omega), if_pos (by omega)]
  rw [e] at hp
  exact rise_uniq LexLt.irr LexLt.tr (rise_of hs (hp.nodup_iff.2 (preE_nodup g n))) (prsTo_rise _ _ _) fun x => by rw [hp.mem_iff, (preE_perm g n).mem_iff]

end Go.Proofs.YtokjcapheogkoaaDoor
