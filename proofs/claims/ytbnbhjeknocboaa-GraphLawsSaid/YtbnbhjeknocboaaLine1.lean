/- The function literals of graph.Line, graph.Induced and arborlaw.GraphMakes. -/
import Derived.Test.YtbnbhjeknocboaaForm
import Derived.Test.YtbnbhjeknocboaaGLaw
import Derived.Deep.RegionHeld3
namespace Go.Proofs.Ytbnbhjeknocboaa
open Go.RowKit

theorem ieq {a b : Int} (h : a = b) : (a == b) = true := by simp [h]
theorem ine {a b : Int} (h : ¬ a = b) : (a == b) = false := by simp [h]

set_option maxHeartbeats 3200000 in
set_option maxRecDepth 100000 in
theorem line1_any {L : List (Int × Int)} {v : Value} {T i j : Nat} (w : World) (hv : w.cell? ⟨T, 1, none⟩ = some v) (he : IsEdges w v L) (hi : i < L.length) (hj : j < L.length) :
    Calls Try.prog 38 #[.int .i64 (i : Int), .int .i64 (j : Int), .pointer (some ⟨T, 0, none⟩)] w fun e w' => e = .returned (.bool (share L i j)) ∧ Below w.heap.size w w' := by
  obtain ⟨ad, cap, bb, o, rfl, hcap, hmax, hadr, -, hcell⟩ := he
  obtain rfl := hadr (by omega)
  obtain ⟨x, y, Hx, cx, cy⟩ := edges_at hcell (Below.refl _ _) hi
  obtain ⟨u, z, Hu, cu, cz⟩ := edges_at hcell (Below.refl _ _) hj
  generalize hr : share L i j = r
  unfold share at hr
  rw [Hx.out, Hu.out] at hr
  simp only at hr
  have Hr := Lib.hid hr
  clear hr hcell hadr Hx Hu
  go_enter Try.func38, Try.ntmps38
  go_upto_region 1 with fail
  go_cut [6, 7] from 8 to 17 (fun s6 s7 wx => ∃ p q : Nat, s6 = .pointer (some ⟨p, 0, none⟩) ∧ s7 = .pointer (some ⟨q, 0, none⟩) ∧ wx.cell? ⟨p, 0, none⟩ = some (.int .i64 x) ∧ wx.cell? ⟨p, 1, none⟩ = some (.int .i64 y) ∧ wx.cell? ⟨q, 0, none⟩ = some (.int .i64 u) ∧ wx.cell? ⟨q, 1, none⟩ = some (.int .i64 z) ∧ Below w.heap.size w wx)
  case first =>
    go_region_held3 (fun w' => w'.cell? ⟨T, 1, none⟩ = some (.slice (some ⟨bb, o, none⟩) L.length cap) ∧ w'.cell? ⟨bb, o + i * 2, none⟩ = some (.int .i64 x) ∧ w'.cell? ⟨bb, o + i * 2 + 1, none⟩ = some (.int .i64 y) ∧ w'.cell? ⟨bb, o + j * 2, none⟩ = some (.int .i64 u) ∧ w'.cell? ⟨bb, o + j * 2 + 1, none⟩ = some (.int .i64 z)) (go_keep) (fail)
    all_goals
      go_wp2_with fail
      go_meet
      refine ⟨_, _, rfl, rfl, ?_, ?_, ?_, ?_, ?_⟩
      · go_simp
      · go_simp
      · go_simp
      · go_simp
      · exact ((below2 _ _ _).drew)
  case rest => 
    obtain ⟨p, q, rfl, rfl, cp0, cp1, cq0, cq1, hb⟩ := hcut
    have Hb := Lib.hid hb
    clear hb cx cy cu cz hv
    by_cases e1 : x = u
    · have q1 := ieq e1
      have E1 := Lib.hid e1
      clear e1
      go_wp2
      go_ret
      exact ⟨ret_bool (by rw [← Hr.out]; simp [E1.out]), Hb.out⟩
    · have q1 := ine e1
      by_cases e2 : x = z
      · have q2 := ieq e2
        have E2 := Lib.hid e2
        clear e1 e2
        go_wp2
        go_ret
        exact ⟨ret_bool (by rw [← Hr.out]; simp [E2.out]), Hb.out⟩
      · have q2 := ine e2
        by_cases e3 : y = u
        · have q3 := ieq e3
          have E3 := Lib.hid e3
          clear e1 e2 e3
          go_wp2
          go_ret
          exact ⟨ret_bool (by rw [← Hr.out]; simp [E3.out]), Hb.out⟩
        · have q3 := ine e3
          by_cases e4 : y = z
          · have q4 := ieq e4
            have E4 := Lib.hid e4
            clear e1 e2 e3 e4
            go_wp2
            go_ret
            exact ⟨ret_bool (by rw [← Hr.out]; simp [E4.out]), Hb.out⟩
          · have q4 := ine e4
            have E := Lib.hid (show ¬ (x = u ∨ x = z ∨ y = u ∨ y = z) by omega)
            clear e1 e2 e3 e4
            go_wp2
            go_ret
            exact ⟨ret_bool (by rw [← Hr.out]; exact (decide_eq_false E.out).symm), Hb.out⟩

/-- What a table tells of two nodes that a list names. -/
def pickG (G : Nat → Nat → Bool) (m : List Int) (i j : Nat) : Bool := G (m.getD i 0).toNat (m.getD j 0).toNat

set_option maxHeartbeats 1600000 in
theorem induced1_any {N : Nat} {G : Nat → Nat → Bool} {m : List Int} {v u : Value} {T K i j : Nat} (w : World) (hv : w.cell? ⟨T, 0, none⟩ = some v) (hu : w.cell? ⟨K, 0, none⟩ = some u) (hg : HasGrid w v N G) (hm : IsInts w u m)
    (hok : ∀ k, k < m.length → 0 ≤ m.getD k 0 ∧ m.getD k 0 < (N : Int)) (hi : i < m.length) (hj : j < m.length) :
    Calls Try.prog 39 #[.int .i64 (i : Int), .int .i64 (j : Int), .pointer (some ⟨T, 0, none⟩), .pointer (some ⟨K, 0, none⟩)] w fun e w' => e = .returned (.bool (pickG G m i j)) ∧ Below w.heap.size w w' := by
  obtain ⟨ad, cap, bb, o, rfl, hcap, hmax, hadr, -, hcell⟩ := hm
  obtain rfl := hadr (by omega)
  have ci := hcell i hi
  have cj := hcell j hj
  obtain ⟨i1, i2⟩ := hok i hi
  obtain ⟨j1, j2⟩ := hok j hj
  unfold pickG
  obtain ⟨x, hx⟩ := Int.eq_ofNat_of_zero_le i1
  obtain ⟨y, hy⟩ := Int.eq_ofNat_of_zero_le j1
  rw [hx] at ci i2
  rw [hy] at cj j2
  rw [hx, hy]
  have hxN : x < N := by omega
  have hyN : y < N := by omega
  simp only [Int.toNat_natCast]
  obtain ⟨b, o2, c, r, rfl, h1, h2⟩ := hg.entry hxN hyN
  clear hg hok hcell hadr i1 j1 i2 j2 hx hy
  generalize G x y = z at *
  go_enter Try.func39, Try.ntmps39
  go_wp2
  go_quiet (fail)
  go_wp2
  go_ret
  exact ⟨rfl, Below.drewN' (Below.refl _ _) _⟩

set_option maxHeartbeats 1600000 in
theorem makes3_any {N : Nat} {G : Nat → Nat → Bool} {m : List Int} {v u : Value} {T K i j : Nat} (w : World) (hv : w.cell? ⟨T, 0, none⟩ = some v) (hu : w.cell? ⟨K, 0, none⟩ = some u) (hg : HasGrid w v N G) (hm : IsInts w u m)
    (hok : ∀ k, k < m.length → 0 ≤ m.getD k 0 ∧ m.getD k 0 < (N : Int)) (hi : i < m.length) (hj : j < m.length) :
    Calls Try.prog 23 #[.int .i64 (i : Int), .int .i64 (j : Int), .pointer (some ⟨T, 0, none⟩), .pointer (some ⟨K, 0, none⟩)] w fun e w' => e = .returned (.bool (pickG G m i j)) ∧ Below w.heap.size w w' := by
  obtain ⟨ad, cap, bb, o, rfl, hcap, hmax, hadr, -, hcell⟩ := hm
  obtain rfl := hadr (by omega)
  have ci := hcell i hi
  have cj := hcell j hj
  obtain ⟨i1, i2⟩ := hok i hi
  obtain ⟨j1, j2⟩ := hok j hj
  unfold pickG
  obtain ⟨x, hx⟩ := Int.eq_ofNat_of_zero_le i1
  obtain ⟨y, hy⟩ := Int.eq_ofNat_of_zero_le j1
  rw [hx] at ci i2
  rw [hy] at cj j2
  rw [hx, hy]
  have hxN : x < N := by omega
  have hyN : y < N := by omega
  simp only [Int.toNat_natCast]
  obtain ⟨b, o2, c, r, rfl, h1, h2⟩ := hg.entry hxN hyN
  clear hg hok hcell hadr i1 j1 i2 j2 hx hy
  generalize G x y = z at *
  go_enter Try.func23, Try.ntmps23
  go_wp2
  go_quiet (fail)
  go_wp2
  go_ret
  exact ⟨rfl, Below.drewN' (Below.refl _ _) _⟩

set_option maxHeartbeats 1600000 in
theorem makes1_any {n : Nat} {G : Nat → Nat → Bool} {v : Value} {T i j : Nat} (w : World) (hv : w.cell? ⟨T, 0, none⟩ = some v) (hg : HasGrid w v n G) (hi : i < n) (hj : j < n) :
    Calls Try.prog 17 #[.int .i64 (i : Int), .int .i64 (j : Int), .pointer (some ⟨T, 0, none⟩)] w fun e w' => e = .returned (.bool (!G i j)) ∧ Below w.heap.size w w' := by
  obtain ⟨b, o, c, r, rfl, h1, h2⟩ := hg.entry hi hj
  clear hg
  generalize hx : G i j = x at *
  clear hx
  go_enter Try.func17, Try.ntmps17
  go_wp2
  go_ret
  exact ⟨rfl, Below.refl _ _⟩

set_option maxHeartbeats 3200000 in
set_option maxRecDepth 100000 in
theorem makes2_any {L : List (Int × Int)} {v : Value} {T i j : Nat} (w : World) (hv : w.cell? ⟨T, 0, none⟩ = some v) (he : IsEdges w v L) (hi : i < L.length) (hj : j < L.length) :
    Calls Try.prog 21 #[.int .i64 (i : Int), .int .i64 (j : Int), .pointer (some ⟨T, 0, none⟩)] w fun e w' => e = .returned (.bool (share L i j)) ∧ Below w.heap.size w w' := by
  obtain ⟨ad, cap, bb, o, rfl, hcap, hmax, hadr, -, hcell⟩ := he
  obtain rfl := hadr (by omega)
  obtain ⟨x, y, Hx, cx, cy⟩ := edges_at hcell (Below.refl _ _) hi
  obtain ⟨u, z, Hu, cu, cz⟩ := edges_at hcell (Below.refl _ _) hj
  generalize hr : share L i j = r
  unfold share at hr
  rw [Hx.out, Hu.out] at hr
  simp only at hr
  have Hr := Lib.hid hr
  clear hr hcell hadr Hx Hu
  by_cases e1 : x = u
  · have q1 := ieq e1
    have E1 := Lib.hid e1
    clear e1
    go_enter Try.func21, Try.ntmps21
    go_wp2
    go_quiet (fail)
    go_wp2
    go_ret
    exact ⟨ret_bool (by rw [← Hr.out]; simp [E1.out]), Below.drewN' (Below.refl _ _) _⟩
  · have q1 := ine e1
    by_cases e2 : x = z
    · have q2 := ieq e2
      have E2 := Lib.hid e2
      clear e1 e2
      go_enter Try.func21, Try.ntmps21
      go_wp2
      go_quiet (fail)
      go_wp2
      go_ret
      exact ⟨ret_bool (by rw [← Hr.out]; simp [E2.out]), Below.drewN' (Below.refl _ _) _⟩
    · have q2 := ine e2
      by_cases e3 : y = u
      · have q3 := ieq e3
        have E3 := Lib.hid e3
        clear e1 e2 e3
        go_enter Try.func21, Try.ntmps21
        go_wp2
        go_quiet (fail)
        go_wp2
        go_ret
        exact ⟨ret_bool (by rw [← Hr.out]; simp [E3.out]), Below.drewN' (Below.refl _ _) _⟩
      · have q3 := ine e3
        by_cases e4 : y = z
        · have q4 := ieq e4
          have E4 := Lib.hid e4
          clear e1 e2 e3 e4
          go_enter Try.func21, Try.ntmps21
          go_wp2
          go_quiet (fail)
          go_wp2
          go_ret
          exact ⟨ret_bool (by rw [← Hr.out]; simp [E4.out]), Below.drewN' (Below.refl _ _) _⟩
        · have q4 := ine e4
          have E := Lib.hid (show ¬ (x = u ∨ x = z ∨ y = u ∨ y = z) by omega)
          clear e1 e2 e3 e4
          go_enter Try.func21, Try.ntmps21
          go_wp2
          go_quiet (fail)
          go_wp2
          go_ret
          exact ⟨ret_bool (by rw [← Hr.out]; exact (decide_eq_false E.out).symm), Below.drewN' (Below.refl _ _) _⟩

end Go.Proofs.Ytbnbhjeknocboaa
