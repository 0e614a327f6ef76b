/- arborlaw.PartsStrong answers true: the walk. -/
import Derived.Test.YtmhcnekbfngafaaBow
import Derived.Test.YtmhcnekbfngafaaStrB
import Derived.Test.YtmhcnekbfngafaaPA
import Derived.Test.YtmhcnekbfngafaaFVar
namespace Go.Proofs.Ytmhcnekbfngafaa
open Go Go.RowKit

theorem ups {a b c : World} (h : Below a.heap.size a b) (k : Below b.heap.size b c) : Below a.heap.size a c := h.trans (k.mono h.size)
theorem IsRows.formS {w : World} {v : Value} {m : List (List Int)} (h : IsRows w v m) : ∃ a c, v = .slice a m.length c := by
  obtain ⟨a, c, _, _, rfl, _⟩ := h
  exact ⟨a, c, rfl⟩

/-- One row of rows. -/
theorem IsRows.at' {w : World} {a : Option Addr} {len c : Nat} {m : List (List Int)} (h : IsRows w (.slice a len c) m) {k : Nat} (hk : k < m.length) : ∃ r, (∃ b o, a = some ⟨b, o, none⟩ ∧ w.cell? ⟨b, o + k, none⟩ = some r) ∧ IsInts w r (m.getD k []) := by
  obtain ⟨a2, c2, b, o, e, h1, h2, h3, h4, h5⟩ := h
  simp only [Value.slice.injEq] at e
  obtain ⟨rfl, rfl, rfl⟩ := e
  obtain ⟨r, hr, hi⟩ := h5 k hk
  exact ⟨r, ⟨b, o, h3 (by omega), hr⟩, hi⟩

/-- What stands ahead of the law's own work. -/
structure LwS (w wr : World) (s v2 : Value) (l : List (Int × Int)) (C D : Nat) (c a c' a' : Int) : Prop where
  hb : Below w.heap.size w wr
  hs : IsEdges wr s l
  ho : IsEdges wr v2 l
  f : FV wr C c a
  g : FV wr D c' a'
theorem LwS.below {w wr w' : World} {s v2 : Value} {l : List (Int × Int)} {C D : Nat} {c a c' a' : Int} (h : LwS w wr s v2 l C D c a c' a') (hb : Below wr.heap.size wr w') : LwS w w' s v2 l C D c a c' a' :=
  ⟨ups h.hb hb, h.hs.below hb, h.ho.below hb, h.f.below hb, h.g.below hb⟩
/-- The row of those that are in a part that was told. -/
structure DnS (w5 wr : World) (bD N : Nat) (D : Nat → Bool) : Prop where
  hb : Below w5.heap.size w5 wr
  row : wr.rowIs bD 4 N (rb D)
theorem DnS.below {w5 wr w' : World} {bD N : Nat} {D : Nat → Bool} (h : DnS w5 wr bD N D) (hb : Below wr.heap.size wr w') : DnS w5 w' bD N D :=
  ⟨ups h.hb hb, h.row.of_block (hb.block _ h.row.lt)⟩

theorem DnS.grown {w5 wr w' : World} {bD N : Nat} {D : Nat → Bool} (h : DnS w5 wr bD N D) {row : Option Nat} (hg : wr.grownBy w' row) (hr : ∀ q, row = some q → w5.heap.size ≤ q ∧ q ≠ bD) : DnS w5 w' bD N D :=
  ⟨h.hb.grown hg h.hb.size (fun q e => (hr q e).1), h.row.of_block (hg.block _ h.row.lt (fun e => (hr _ e.symm).2 rfl))⟩
theorem DnS.set {w5 wr : World} {bD N : Nat} {D : Nat → Bool} (h : DnS w5 wr bD N D) (hD : w5.heap.size ≤ bD) (k : Nat) (x : Bool) : DnS w5 (wr.setCell ⟨bD, k, none⟩ (.bool x)) bD N (fun q => if q = k then x else D q) :=
  ⟨h.hb.setCell hD _, row_set_rb h.row k x⟩
theorem DnS.congr {w5 wr : World} {bD N : Nat} {D D' : Nat → Bool} (h : DnS w5 wr bD N D) (e : ∀ q, q < N → D q = D' q) : DnS w5 wr bD N D' := ⟨h.hb, row_rb h.row e⟩

set_option maxHeartbeats 6400000 in
set_option maxRecDepth 100000 in
theorem strongLaw_any (n : Int) (l : List (Int × Int)) (hl : l.length * 16 ≤ 140737488351232) (sv : Value) (w : World) (h : IsEdges w sv l) :
    Calls Try.prog 9 #[.int .i64 n, sv] w fun e w' => e = .returned (.bool true) ∧ Below w.heap.size w w' := by
  obtain ⟨ad, cap, rfl⟩ := h.form
  have H0 := Lib.hid h
  clear h
  go_enter Try.func9, Try.ntmps9
  go_upto_region 2 with (at_builtin; refine wpList_append_edges rfl _ _ 22 rfl w.heap.size Try.underlying22 info2 _ [] rfl (OwnE.nil _ _) _ l rfl H0.out _ (List.nil_append l) (by simp; omega) (Nat.le_refl _) ?_; intro a2 c2 w2 ho2 hg2; have hb2 := below_grown0 hg2; have E2 := Lib.hid (H0.out.below hb2); have O2 := Lib.hid ho2.edges; have Hb2 := Lib.hid hb2; clear ho2 hg2 hb2)
  go_wp2_with fail
  refine (rarcs_any l n _ w2 E2.out).mono ?_
  rintro e w3 ⟨c, a, hsp, rfl, hb3⟩
  have Hsp := Lib.hid hsp
  have b4 := ups hb3 (below1 w3 (Obj.cells #[.int .i64 c, .int .i64 a] 27))
  have E4 := Lib.hid (E2.out.below b4); have O4 := Lib.hid (O2.out.below b4); have Hb4 := Lib.hid (ups Hb2.out b4); have F4 := Lib.hid (FV.new w3 c a)
  clear hsp hb3 b4
  go_upto_region 3 with fail
  generalize w3.alloc (Obj.cells #[.int .i64 c, .int .i64 a] 27) = w4 at *
  generalize w3.heap.size = C at *
  clear E2 O2 Hb2
  by_cases hc : c = 0
  · subst hc
    obtain ⟨hgood, rfl⟩ := Hsp.out.good
    have hn0 := hgood.lo
    have hn1 := hgood.hi
    obtain ⟨N, rfl⟩ := Int.eq_ofNat_of_zero_le hn0
    have Hg := Lib.hid hgood
    clear hgood
    go_wp2_with fail
    refine (strong_ok Hg.out _ w4 O4.out).mono ?_
    rintro e w6 ⟨v6, S, rfl, hsel, hlq, hrows, hb6⟩
    obtain ⟨a6, c6, rfl⟩ := hrows.formS
    rw [List.length_map]
    have b7 := ups hb6 (below1 w6 (Obj.cells #[.int .i64 0, .int .i64 0] 27))
    have L7 := Lib.hid (show LwS w (w6.alloc (Obj.cells #[.int .i64 0, .int .i64 0] 27)) (.slice ad l.length cap) (.slice a2 l.length c2) l C w6.heap.size 0 0 0 0 from ⟨ups Hb4.out b7, E4.out.below b7, O4.out.below b7, F4.out.below b7, FV.new w6 0 0⟩)
    have R7 := Lib.hid (hrows.below (below1 w6 (Obj.cells #[.int .i64 0, .int .i64 0] 27)))
    have Hsel := Lib.hid hsel; have Hlq := Lib.hid hlq
    clear hsel hlq hrows hb6 b7 E4 O4 Hb4 F4
    go_upto_region 4 with fail
    generalize w6.alloc (Obj.cells #[.int .i64 0, .int .i64 0] 27) = w7 at *
    generalize w6.heap.size = D at *
    go_wp2_with fail
    refine (partsBegun_any w7).mono ?_
    rintro e w8 ⟨rfl, hb8⟩
    have L8 := Lib.hid (L7.out.below hb8); have R8 := Lib.hid (R7.out.below hb8)
    clear hb8 L7 R7
    obtain ⟨f0, f1, -, -, -⟩ := L8.out.f.facts
    obtain ⟨g0, g1, -, -, -⟩ := L8.out.g.facts
    go_wp2_with fail
    refine (rpairs_any l l _ _ w8 L8.out.ho L8.out.hs).mono ?_
    rintro e w9 ⟨rfl, hb9⟩
    rw [decide_eq_true rfl]
    have L9 := Lib.hid (L8.out.below hb9); have R9 := Lib.hid (R8.out.below hb9)
    clear hb9 L8 R8 f0 f1 g0 g1
    obtain ⟨f0, f1, -, -, -⟩ := L9.out.f.facts
    by_cases h40 : 40 < N
    · have q40 : (40 : Int) < (N : Int) := by omega
      go_wp2
      go_ret
      exact ⟨rfl, L9.out.hb⟩
    have q40 : ¬ (40 : Int) < (N : Int) := by omega
    go_wp2_with fail
    refine (leads_any l N _ w9 L9.out.hs (by omega) Hg.out.ends).mono ?_
    rintro e w10 ⟨v10, G0, rfl, hgr, hG0, hb10⟩
    obtain ⟨Bg, ga, gc, gb, go', R, rfl, hgc, hga, hgrid⟩ := hgr
    have hgrid2 := hgrid.congr (G' := gA l) fun i j hi hj => by
      rw [Bool.eq_iff_iff, gA_iff, wx_way Hg.out hi]
      exact hG0 i hi j hj
    have Hgr := Lib.hid hgrid2; have Hga := Lib.hid hga
    have HP := Lib.hid (gA_pre l N)
    have Hb10 := Lib.hid (ups L9.out.hb hb10); have R10 := Lib.hid (R9.out.below hb10)
    clear hgrid hgrid2 hga hG0 hb10 L9 R9 f0 f1
    generalize gA l = G at *
    have hmk2 := run_make_row' (P := Try.prog) 60 4 (.bool false) 1 Try.underlying60 info4 rfl .i64 .i64 N (by omega) (by omega)
    have hr11 := World.rowIs_made w10 (.bool false) N 4
    have hb11 := below1 w10 (.cells (madeCells #[.bool false] N) 4)
    have D11 := Lib.hid (show DnS w10 (w10.alloc (.cells (madeCells #[.bool false] N) 4)) w10.heap.size N (dnB G (S.take 0)) from ⟨hb11, (hr11.congr (g := rb fun _ => false) fun _ _ => rfl).congr fun q _ => by simp [rb, dnB]⟩)
    clear hr11 hb11
    go_upto_region 12 with fail
    clear hmk2
    generalize w10.alloc (.cells (madeCells #[.bool false] N) 4) = w11 at *
    obtain ⟨m, hm⟩ : ∃ m, m = S.length := ⟨_, rfl⟩
    have Hm := Lib.hid hm
    have hmN : m ≤ 100 := by
      have h1 := nodup_few N S Hsel.out.nd fun v hv => (lds_mem.1 (Hsel.out.mem v hv)).1
      omega
    rw [← hm]
    clear hm
    go_wp2
    go_loopg [11] m (fun g s11 wr => ∃ k : Nat, k ≤ m ∧ g = m - k ∧ s11 = .int .i64 k ∧ DnS w10 wr w10.heap.size N (dnB G (S.take k)))
    case atStart => exact ⟨0, Nat.zero_le _, rfl, rfl, D11.out⟩
    case round =>
      obtain ⟨k, hk, rfl, rfl, hd⟩ := hrel
      obtain ⟨wq, rfl⟩ : ∃ wq : World, wq = wr := ⟨_, rfl⟩
      have Hd := Lib.hid hd
      by_cases hlt : k < m
      · obtain ⟨hpN, hok⟩ := Hsel.out.next HP.out (show k < S.length by rw [← Hm.out]; exact hlt)
        have hgrid := Hgr.out.below hd.hb
        have hrow := hd.row
        generalize hp : S.getD k 0 = p at *
        generalize hDD : dnB G (S.take k) = DD at *
        have Hp := Lib.hid hp; have HDD := Lib.hid hDD; have Hok := Lib.hid hok; have Hgq := Lib.hid hgrid
        obtain rfl := (Hga.out (by omega)).1
        clear hp hDD hok hgrid hd
        go_wp2
        go_loopg [12, 13] (p + 1) (fun g s12 s13 wr => ∃ (v : Nat) (f : Int), s12 = .int .i64 f ∧ s13 = .int .i64 v ∧ g = p + 1 - v ∧ wr = wq ∧ ((v ≤ p ∧ f = -1) ∨ (v = p + 1 ∧ f = p)))
        case atStart => exact ⟨0, -1, rfl, rfl, rfl, rfl, Or.inl ⟨Nat.zero_le _, rfl⟩⟩
        case round =>
          obtain ⟨v, f, rfl, rfl, rfl, rfl, hvf⟩ := hrel
          rcases hvf with ⟨hvp, rfl⟩ | ⟨rfl, rfl⟩
          · have hvN : v < N := by omega
            have cd := hrow.cell hvN
            simp only [rb] at cd
            have hok1 := Hok.out v hvp
            have Hok1 := Lib.hid hok1
            clear hok1
            go_wp2
            clear cd
            go_loopg [14, 15] N (fun g s14 s15 wx => ∃ u : Nat, u ≤ N ∧ g = N - u ∧ s15 = .int .i64 u ∧ s14 = .bool (okB G DD v u) ∧ wx = wr)
            case atStart => exact ⟨0, Nat.zero_le _, rfl, rfl, by rw [okB_zero], rfl⟩
            case round =>
              obtain ⟨u, hu, rfl, rfl, rfl, rfl⟩ := hrel
              by_cases huN : u < N
              · have cu := hrow.cell huN
                simp only [rb] at cu
                have h1 := Hgq.out.head u huN
                have h2 := Hgq.out.cell huN hvN
                have h3 := Hgq.out.head v hvN
                have h4 := Hgq.out.cell hvN huN
                have hsu := okB_succ G DD v u
                generalize okB G DD v u = o1 at *
                generalize DD u = du at *
                generalize G u v = guv at *
                generalize G v u = gvu at *
                have Hsu := Lib.hid hsu
                clear hsu
                cases o1 with
                | false =>
                  clear h1 h2 h3 h4 cu
                  go_wp2
                  go_roundg (N - (u + 1))
                  case measure => go_light; omega
                  case rel => exact ⟨u + 1, by omega, rfl, by go_num, by rw [Hsu.out]; rfl, rfl⟩
                | true =>
                  cases du with
                  | true =>
                    clear h1 h2 h3 h4
                    go_wp2
                    go_roundg (N - (u + 1))
                    case measure => go_light; omega
                    case rel => exact ⟨u + 1, by omega, rfl, by go_num, by rw [Hsu.out]; rfl, rfl⟩
                  | false =>
                    cases guv with
                    | false =>
                      clear h3 h4
                      go_wp2
                      go_roundg (N - (u + 1))
                      case measure => go_light; omega
                      case rel => exact ⟨u + 1, by omega, rfl, by go_num, by rw [Hsu.out]; rfl, rfl⟩
                    | true =>
                      go_wp2
                      go_roundg (N - (u + 1))
                      case measure => go_light; omega
                      case rel => exact ⟨u + 1, by omega, rfl, by go_num, by rw [Hsu.out]; simp, rfl⟩
              · obtain rfl : u = N := by omega
                rw [Hok1.out]
                by_cases hvp2 : v = p
                · subst hvp2
                  rw [decide_eq_true rfl]
                  go_wp2
                  go_roundg (0)
                  case measure => go_light; omega
                  case rel => exact ⟨v + 1, v, rfl, by go_num, by omega, rfl, Or.inr ⟨rfl, rfl⟩⟩
                · rw [decide_eq_false hvp2]
                  go_wp2
                  go_roundg (p + 1 - (v + 1))
                  case measure => go_light; omega
                  case rel => exact ⟨v + 1, -1, rfl, by go_num, rfl, rfl, Or.inl ⟨by omega, rfl⟩⟩
          · have hpt : ((p : Int) + 1 < (N : Int)) ∨ ¬ ((p : Int) + 1 < (N : Int)) := Classical.em _
            obtain ⟨gr, hgr6, hrows6⟩ := R10.out.at' (show k < (S.map fun p => ints (cls N G p)).length by rw [List.length_map, ← Hm.out]; exact hlt)
            have e6 : (S.map fun p => ints (cls N G p)).getD k [] = ints (cls N G p) := by
              rw [← Hp.out]
              simp [List.getD, List.getElem?_eq_getElem (show k < S.length by rw [← Hm.out]; exact hlt)]
            rw [e6] at hrows6
            obtain ⟨b6, o6, ea6, ck6⟩ := hgr6
            subst ea6
            have Hr6 := Lib.hid hrows6
            clear e6 hrows6
            have hDz : w10.heap.size < wr.heap.size := hrow.lt
            obtain ⟨wb, rfl⟩ : ∃ wb : World, wb = wr := ⟨_, rfl⟩
            rcases hpt with hpp | hpp
            all_goals
              go_wp2
              go_loopg [16, 17] N (fun g s16 s17 wx => ∃ i : Nat, i ≤ N ∧ g = N - i ∧ s17 = .int .i64 i ∧ DnS w10 wx w10.heap.size N (fun q => DD q || (decide (q < i) && eqvB G p q)) ∧ wb.grownBy wx (some w10.heap.size) ∧ wx.ownsRow wb.heap.size 3 1 s16 (clsTo G p i).length (nvals (clsTo G p i)))
              case atStart => exact ⟨0, Nat.zero_le _, rfl, rfl, ⟨Hd.out.hb, row_rb Hd.out.row fun q _ => by simp⟩, World.grownBy.refl _ _, World.ownsRow_nil _ _ _ _⟩
              case round =>
                obtain ⟨i, hi, rfl, rfl, hd3, hg3, ho3⟩ := hrel
                obtain ⟨aP, cP, rfl⟩ := ownsRow_form ho3
                have Hd3 := Lib.hid hd3; have Hg3 := Lib.hid hg3; have Ho3 := Lib.hid ho3
                have hcl := clsTo_len G p i
                have hz3 := hg3.size
                clear hg3 ho3
                by_cases hil : i < N
                · have hgr3 := Hgr.out.below hd3.hb
                  have t1 := hgr3.head p hpN
                  have t2 := hgr3.cell hpN hil
                  have t3 := hgr3.head i hil
                  have t4 := hgr3.cell hil hpN
                  have cd := hd3.row.cell hil
                  have fd := hd3.row.frozen i
                  have ld := hd3.row.lt
                  simp only [rb] at cd
                  have hsu := clsTo_succ G p i
                  have heq : eqvB G p i = (G p i && G i p) := rfl
                  rw [heq] at hsu
                  clear hd3 hgr3
                  by_cases hb : (G p i && G i p) = true
                  · rw [if_pos hb] at hsu
                    have hb2 : G p i = true ∧ G i p = true := by simpa using hb
                    have Hb := Lib.hid (heq.trans hb); have Hsu := Lib.hid hsu
                    rw [hb2.1] at t2
                    rw [hb2.2] at t4
                    clear hb hsu heq hb2
                    generalize hcc : clsTo G p i = cc at *
                    have Hcc := Lib.hid hcc
                    clear hcc
                    go_upto_region 34 with (at_builtin; refine wpList_append_has rfl (.tmp 132) (.tmp 134) 39 rfl wb.heap.size 3 (.int .i64 0) 8 Try.underlying39 info3 rfl (.slice aP cc.length cP) cc.length (nvals cc) rfl (Ho3.out.alloc _) _ 1 (nvals [i]) rfl (HasCells.one _ _ _ rfl) (by omega) (by omega) (by simp; omega) ?_; intro a8 c8 w8' ho8 hg8; have D8 := Lib.hid ((Hd3.out.below (below1 wr (Obj.cells #[.int .i64 (i : Int)] 3))).grown hg8 (fun q e => by have := (Ho3.out.lt q e).1; omega)); have G8 := Lib.hid ((Hg3.out.trans (World.grownBy_alloc wr (Obj.cells #[.int .i64 (i : Int)] 3) (some w10.heap.size))).andThen hg8 (fun q e => Or.inl (Ho3.out.lt q e).1)); have Ho8 := Lib.hid ho8; clear ho8 hg8)
                    have cd8 := D8.out.row.cell hil
                    have fd8 := D8.out.row.frozen i
                    have ld8 := D8.out.row.lt
                    clear t1 t2 t3 t4 cd fd ld
                    go_wp2
                    go_roundg (N - (i + 1))
                    case measure => go_light; omega
                    case rel => exact ⟨i + 1, by omega, rfl, by go_num, (D8.out.set (Nat.le_refl _) i true).congr fun q hq => by
                      by_cases e : q = i
                      · subst e; simp [Hb.out]
                      · rw [if_neg e]
                        have : decide (q < i + 1) = decide (q < i) := by simp; omega
                        rw [this], G8.out.trans (grown_set _ w10.heap.size i _), by
                      have h9 := Ho8.out.kept (grown_set w8' w10.heap.size i (.bool true)) (own_side Ho8.out (by omega))
                      rw [Hsu.out]
                      simpa [nvals, ints] using h9⟩
                  · have hb' : (G p i && G i p) = false := by simpa using hb
                    rw [if_neg hb, List.append_nil] at hsu
                    have Hb := Lib.hid (heq.trans hb'); have Hsu := Lib.hid hsu
                    clear hb hsu heq
                    have fin : DnS w10 wr w10.heap.size N (fun q => DD q || (decide (q < i + 1) && eqvB G p q)) := Hd3.out.congr fun q hq => by
                      by_cases e : q = i
                      · subst e; simp [Hb.out]
                      · have : decide (q < i + 1) = decide (q < i) := by simp; omega
                        rw [this]
                    have Hfin := Lib.hid fin
                    clear fin
                    cases h1 : G p i with
                    | false =>
                      rw [h1] at t2
                      clear hb' h1 t3 t4
                      go_wp2
                      go_roundg (N - (i + 1))
                      case measure => go_light; omega
                      case rel => exact ⟨i + 1, by omega, rfl, by go_num, Hfin.out, Hg3.out, by rw [Hsu.out]; exact Ho3.out⟩
                    | true =>
                      rw [h1] at t2 hb'
                      have h2 : G i p = false := by simpa using hb'
                      rw [h2] at t4
                      clear hb' h1 h2
                      go_wp2
                      go_roundg (N - (i + 1))
                      case measure => go_light; omega
                      case rel => exact ⟨i + 1, by omega, rfl, by go_num, Hfin.out, Hg3.out, by rw [Hsu.out]; exact Ho3.out⟩
                · obtain rfl : i = N := by omega
                  have ck := below_cell hd3.hb ck6
                  have hgot := Hr6.out.below hd3.hb
                  have hcls : clsTo G p i = cls i G p := rfl
                  rw [hcls] at Ho3 ⊢
                  have hwant : IsInts wr (.slice aP (cls i G p).length cP) (ints (cls i G p)) := IsInts.owned Ho3.out
                  have Hgot := Lib.hid hgot; have Hwant := Lib.hid hwant
                  clear hgot hwant hd3 hcls
                  go_wp2_with (go_at_call 23; refine (ints_any (ints (cls i G p)) (ints (cls i G p)) _ _ wr Hgot.out Hwant.out).mono ?_; rintro e w12 ⟨rfl, hdr⟩; rw [decide_eq_true rfl]; have D12 := Lib.hid (Hd3.out.below hdr.below); clear hdr)
                  go_roundg (m - (k + 1))
                  case measure => go_light; omega
                  case rel => exact ⟨k + 1, by omega, rfl, by go_num, D12.out.congr fun q hq => by
                    have e1 : S.take (k + 1) = S.take k ++ [p] := by
                      rw [List.take_add_one, List.getElem?_eq_getElem (show k < S.length by rw [← Hm.out]; exact hlt)]
                      have := Hp.out
                      rw [List.getD, List.getElem?_eq_getElem (show k < S.length by rw [← Hm.out]; exact hlt)] at this
                      simp only [Option.getD_some] at this
                      rw [this]; rfl
                    rw [e1, dnB_snoc, HDD.out]
                    simp [hq]⟩
      · obtain rfl : k = m := by omega
        have hall := fun v (hv : v < N) => Hsel.out.all HP.out Hlq.out hv
        have hrow := hd.row
        rw [Hm.out, List.take_length] at hrow
        have Hall := Lib.hid hall
        clear hd hall
        go_wp2
        go_loopg [18] N (fun g s18 wx => ∃ u : Nat, u ≤ N ∧ g = N - u ∧ s18 = .int .i64 u ∧ wx = wq)
        case atStart => exact ⟨0, Nat.zero_le _, rfl, rfl, rfl⟩
        case round =>
          obtain ⟨u, hu, rfl, rfl, rfl⟩ := hrel
          by_cases huN : u < N
          · have cu := hrow.cell huN
            simp only [rb] at cu
            rw [Hall.out u huN] at cu
            go_wp2
            go_roundg (N - (u + 1))
            case measure => go_light; omega
            case rel => exact ⟨u + 1, by omega, rfl, by go_num, rfl⟩
          · obtain rfl : u = N := by omega
            go_wp2
            go_ret
            exact ⟨rfl, ups Hb10.out Hd.out.hb⟩
  · have qc : (c != 0) = true := by simpa using hc
    have Hc := Lib.hid hc
    clear hc
    go_wp2_with fail
    refine (strong_bad Hsp.out Hc.out _ w4 O4.out).mono ?_
    rintro e w6 ⟨rfl, hb6⟩
    have b7 := ups hb6 (below1 w6 (Obj.cells #[.int .i64 c, .int .i64 a] 27))
    have L7 := Lib.hid (show LwS w (w6.alloc (Obj.cells #[.int .i64 c, .int .i64 a] 27)) (.slice ad l.length cap) (.slice a2 l.length c2) l C w6.heap.size c a c a from ⟨ups Hb4.out b7, E4.out.below b7, O4.out.below b7, F4.out.below b7, FV.new w6 c a⟩)
    clear hb6 b7 E4 O4 Hb4 F4
    go_upto_region 4 with fail
    generalize w6.alloc (Obj.cells #[.int .i64 c, .int .i64 a] 27) = w7 at *
    generalize w6.heap.size = D at *
    go_wp2_with fail
    refine (partsBegun_any w7).mono ?_
    rintro e w8 ⟨rfl, hb8⟩
    have L8 := Lib.hid (L7.out.below hb8)
    clear hb8 L7
    obtain ⟨f0, f1, -, -, -⟩ := L8.out.f.facts
    obtain ⟨g0, g1, -, -, -⟩ := L8.out.g.facts
    go_wp2_with fail
    refine (rpairs_any l l _ _ w8 L8.out.ho L8.out.hs).mono ?_
    rintro e w9 ⟨rfl, hb9⟩
    rw [decide_eq_true rfl]
    have L9 := Lib.hid (L8.out.below hb9)
    clear hb9 L8 f0 f1 g0 g1
    obtain ⟨f0, f1, -, -, -⟩ := L9.out.f.facts
    go_wp2
    go_ret
    exact ⟨rfl, L9.out.hb⟩

end Go.Proofs.Ytmhcnekbfngafaa
