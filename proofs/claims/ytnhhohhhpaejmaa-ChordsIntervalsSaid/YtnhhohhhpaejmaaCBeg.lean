/- arborlaw.chordsBegun answers true. -/
import Derived.Test.YtnhhohhhpaejmaaRg4
namespace Go.Proofs.Ytnhhohhhpaejmaa
open Go Go.RowKit

set_option maxHeartbeats 1600000 in
set_option maxRecDepth 100000 in
theorem chordsBegun_any (w : World) : Calls Try.prog 10 #[] w fun e w' => e = .returned (.bool true) ∧ Below w.heap.size w w' := by
  go_enter Try.func10, Try.ntmps10
  go_wp2_with fail
  refine (fourG_any _).mono ?_
  rintro e w1 ⟨v, rfl, hE, hb1⟩
  have HE := Lib.hid hE; have Hb1 := Lib.hid hb1
  clear hE hb1
  go_wp2_with fail
  refine (order_chords 4 fourG v w1 HE.out).mono ?_
  rintro e w2 ⟨c, a, o, h, hsp, rfl, hb2, hres⟩
  obtain ⟨h1, h2⟩ := GraphSpec.uniq hsp four_spec
  subst h1
  subst h2
  obtain ⟨m, hm, rfl, hom⟩ : ∃ m, HolR 4 (adj fourG) m ∧ o = .slice none 0 0 ∧ w2.ownsRow w1.heap.size 3 1 h m.length (nvals m) := by
    rcases hres with ⟨h1, -⟩ | ⟨-, N, hN, -, ⟨L, hL, hLl, -⟩ | ⟨m, hm, ho, hh⟩⟩
    · exact absurd rfl h1
    · obtain rfl : N = 4 := by omega
      exact absurd hLl (four_order hL)
    · obtain rfl : N = 4 := by omega
      exact ⟨m, hm, ho, hh⟩
  have hm4 : m.length = 4 := by have := hm.ge; have := hol_len hm; omega
  obtain ⟨ah, kh, rfl⟩ := ownsRow_form hom
  rw [hm4]
  have Hb2 := Lib.hid (upc Hb1.out hb2)
  clear hsp hb2 hres hm hom hm4
  have F2 := Lib.hid (FV.new w2 0 0)
  go_upto_region 2 with fail
  have Hb3 := Lib.hid (upc Hb2.out (below1 w2 (Obj.cells #[.int .i64 0, .int .i64 0] 27)))
  generalize w2.alloc (Obj.cells #[.int .i64 0, .int .i64 0] 27) = w3 at *
  generalize w2.heap.size = E at *
  go_wp2_with fail
  refine (fourG_any _).mono ?_
  rintro e w4 ⟨v4, rfl, hE4, hb4⟩
  have HE4 := Lib.hid hE4; have Hb4 := Lib.hid hb4
  clear hE4 hb4
  go_wp2_with fail
  refine (cliquesT_any 4 fourG v4 w4 HE4.out).mono ?_
  rintro e w5 ⟨c, a, q, rfl, hsp, hb5, hres⟩
  obtain ⟨h1, h2⟩ := SmallSpec.uniq hsp four_small
  subst h1
  subst h2
  obtain ⟨L, hL4, hq⟩ : ∃ L : List (List Nat), L.length = 4 ∧ IRow w5 w4.heap.size q (L.map ints) := by
    rcases hres with ⟨h1, -⟩ | ⟨-, N, L, hN, -, -, hL, -, hh⟩
    · exact absurd rfl h1
    · obtain rfl : N = 4 := by omega
      exact ⟨L, by rw [hL.uniq four_cqs]; rfl, hh⟩
  obtain ⟨aq, kq, rfl⟩ := hq.form
  rw [List.length_map, hL4]
  have F5 := Lib.hid ((F2.out.below Hb4.out).below hb5)
  have Hb5 := Lib.hid (upc (upc Hb3.out Hb4.out) hb5)
  clear hsp hb5 hres hq hL4
  have F6 := Lib.hid (F5.out.below (below1 w5 (Obj.cells #[.int .i64 0, .int .i64 0] 27)))
  obtain ⟨f0, f1, -, -, -⟩ := F6.out.facts
  obtain ⟨g0, g1, -, -, -⟩ := (FV.new w5 0 0).facts
  go_wp2
  go_ret
  exact ⟨rfl, Hb5.out.alloc Hb5.out.size _⟩

end Go.Proofs.Ytnhhohhhpaejmaa
