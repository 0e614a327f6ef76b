/- arborref.Digits: the walk. -/
import Derived.Test.YtokjcapheogkoaaDoorCodM
import Derived.Test.YtokjcapheogkoaaDoorTxtP
import Derived.Deep.LoopGhost
import Derived.Deep.Light
namespace Go.Proofs.YtokjcapheogkoaaDoor
open Go Go.RowKit

/-- Bytes in a new block. -/
theorem OwnU.new (w : World) (base : Nat) (L : List Nat) (h0 : L ≠ []) (hb : base ≤ w.heap.size) (hl : L.length ≤ 1000000) : OwnU (w.alloc (.cells (u8V L).toArray 5)) base (.slice (some ⟨w.heap.size, 0, none⟩) L.length L.length) L := by
  refine ⟨by rw [u8V_length, Nat.mul_one], Or.inr ⟨w.heap.size, L.length, _, rfl, hb, heap_alloc_new w _, Nat.le_refl _, by unfold maxLen; omega, ?_, ?_⟩⟩
  · simp [u8V_length]
  · simp [u8V_length, List.take_of_length_le]
theorem digits_rec (m : Nat) : Lib.decDigits m = if m < 10 then [UInt8.ofNat (48 + m)] else Lib.decDigits (m / 10) ++ [UInt8.ofNat (48 + m % 10)] := by
  rw [Lib.decDigits]
  by_cases h : m < 10
  · rw [dif_pos h, if_pos h]
  · rw [dif_neg h, if_neg h]

set_option maxHeartbeats 1600000 in
set_option maxRecDepth 100000 in
theorem digits_any (n : Nat) (hn : n < 1000) (w : World) :
    Calls Tryd.prog 27 #[.int .i64 (n : Int)] w fun e w' => e = .returned (.string (bA (Lib.decDigits n))) ∧ Below w.heap.size w w' := by
  go_enter Tryd.func27, Tryd.ntmps27
  go_wp2
  go_loopg [0, 3] n (fun g s0 s3 wr => ∃ (m : Nat) (sl : List UInt8), m = g ∧ s0 = .int .i64 (m : Int) ∧ s3 = .string (bA sl) ∧ m < 1000 ∧ sl.length + m ≤ 1000 ∧ Lib.decDigits m ++ sl = Lib.decDigits n ∧ Below w.heap.size w wr)
  case atStart => exact ⟨n, [], rfl, rfl, rfl, hn, by simp; omega, by simp, Below.refl _ _⟩
  case round =>
    obtain ⟨m, sl, rfl, rfl, rfl, hm, hsl, hd, hb⟩ := hrel
    obtain ⟨r, hr⟩ : ∃ r, r = m % 10 := ⟨_, rfl⟩
    obtain ⟨d, hdv⟩ : ∃ d, d = m / 10 := ⟨_, rfl⟩
    have hdig := digits_rec m
    rw [← hr, ← hdv] at hdig
    have e1 : (m : Int).tmod 10 = (r : Int) := by rw [Int.tmod_eq_emod_of_nonneg (by omega)]; omega
    have e2 : (m : Int).tdiv 10 = (d : Int) := by rw [Int.tdiv_eq_ediv_of_nonneg (by omega)]; omega
    have e1' : (m : Int) % 10 = (r : Int) := by omega
    have e2' : (m : Int) / 10 = (d : Int) := by omega
    have hr10 : r < 10 := by omega
    have e3 : IntKind.u8.wrap (48 + (r : Int)) = 48 + (r : Int) := u8_wrap (k := 48 + r) (by omega)
    have e4 : ((48 + r : Nat) : Int) = 48 + (r : Int) := by omega
    have hconv := (OwnU.new wr w.heap.size [48 + r] (by simp) hb.size (by simp)).string (by simp) (by simp; omega)
    rw [show (u8V [48 + r]).toArray = #[Value.int .u8 ((48 + r : Nat) : Int)] from rfl, show ([48 + r] : List Nat).length = 1 from rfl, show (⟨(u8L [48 + r]).toArray⟩ : ByteArray) = bA [UInt8.ofNat (48 + r)] from rfl, e4] at hconv
    have hb1 := hb.alloc hb.size (Obj.cells #[Value.int .u8 (48 + (r : Int))] 5)
    have Hb1 := Lib.hid hb1
    generalize hW : wr.alloc (Obj.cells #[Value.int .u8 (48 + (r : Int))] 5) = W at *
    have hadd := run_string_add_sum (P := Tryd.prog) W (bA [UInt8.ofNat (48 + r)]) (bA sl) (by rw [bA_size, bA_size]; simp; omega)
    rw [bA_append] at hadd
    obtain ⟨sl', hsl'⟩ : ∃ sl', sl' = [UInt8.ofNat (48 + r)] ++ sl := ⟨_, rfl⟩
    rw [← hsl'] at hadd
    have hl' : sl'.length = sl.length + 1 := by rw [hsl']; simp
    generalize bA [UInt8.ofNat (48 + r)] = d1 at *
    by_cases h10 : m < 10
    · have hfin : bA sl' = bA (Lib.decDigits n) := by rw [hsl', ← hd, hdig, if_pos h10, show m = r by omega]
      have hd0 : (d : Int) = 0 := by omega
      have hq : ((d : Int) == 0) = true := by rw [hd0]; rfl
      have Hfin := Lib.hid hfin
      clear hdig hd hfin hd0 hb hb1 hdv hr hsl'
      go_wp2
      go_ret
      exact ⟨by rw [Hfin.out]; rfl, Hb1.out⟩
    · have hq : ((d : Int) == 0) = false := by simp; omega
      have hrec : Lib.decDigits d ++ sl' = Lib.decDigits n := by rw [hsl', ← hd, hdig, if_neg h10, List.append_assoc]
      have Hrec := Lib.hid hrec
      have Hl' := Lib.hid hl'
      have hdm : d < m := by omega
      have H10 := Lib.hid h10; have Hdm := Lib.hid hdm
      clear hdig hd hrec hb hb1 hr hsl' h10 hdm hdv hl'
      go_wp2
      have hdm := Hdm.out
      go_roundg d
      case measure => go_light; omega
      case rel => exact ⟨d, sl', rfl, rfl, rfl, by omega, by have := Hl'.out; omega, Hrec.out, Hb1.out⟩

end Go.Proofs.YtokjcapheogkoaaDoor
