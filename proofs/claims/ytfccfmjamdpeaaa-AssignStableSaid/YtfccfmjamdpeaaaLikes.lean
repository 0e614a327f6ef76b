/- arborref.LikesFault. -/
import Derived.Test.YtfccfmjamdpeaaaStable
namespace Go.Proofs.Ytfccfmjamdpeaaa
open Go.RowKit

/-- The cells of a slice of rows. -/
theorem IsRows.cells {w : World} {v : Value} {m : List (List Int)} (h : IsRows w v m) : ∃ vals, HasCells w v m.length vals ∧ ∀ j, j < m.length → ∃ r, vals[j]? = some r ∧ IsInts w r (m.getD j []) := by
  obtain ⟨a, cap, b, o, rfl, h2, h3, h4, h4', h5⟩ := h
  refine ⟨(List.range m.length).map fun j => (w.cell? ⟨b, o + j, none⟩).getD (.slice none 0 0), ⟨a, cap, rfl, by simp, fun e => ⟨by have := h4' e; omega, h4' e⟩, fun ad had j u hu => ?_, fun u hu => ?_⟩, fun j hj => ?_⟩
  · have hj : j < m.length := by have := (List.getElem?_eq_some_iff.1 hu).1; simpa using this
    rw [h4 (by omega)] at had
    obtain rfl := Option.some.inj had
    obtain ⟨r, hr, _⟩ := h5 j hj
    rw [Addr.add_lit, hr]
    rw [List.getElem?_map, List.getElem?_range hj, Option.map_some, hr] at hu
    exact hu
  · obtain ⟨j, hj, rfl⟩ := List.mem_map.1 hu
    obtain ⟨r, hr, a', cap', b', o', rfl, _⟩ := h5 j (by simpa using hj)
    rw [hr]; rfl
  · obtain ⟨r, hr, hi⟩ := h5 j hj
    exact ⟨r, by rw [List.getElem?_map, List.getElem?_range hj, Option.map_some, hr]; rfl, hi⟩

/-- An owned row of rows reads as them. -/
theorem IsRows.owned {w : World} {base : Nat} {e : TypeId} {v : Value} {n : Nat} {vals : List Value} {m : List (List Int)} (h : w.ownsRow base e 1 v n vals) (hn : n = m.length)
    (hv : ∀ j, j < m.length → ∃ r, vals[j]? = some r ∧ IsInts w r (m.getD j [])) : IsRows w v m := by
  subst hn
  obtain ⟨a, c, rfl⟩ := ownsRow_form h
  obtain ⟨h1, h2, h3, b, h4, h5⟩ := ownsRow_cap h
  refine ⟨a, c, b, 0, rfl, h1, h2, fun hp => (h4 hp).1, h3, fun j hj => ?_⟩
  obtain ⟨r, hr, hi⟩ := hv j hj
  exact ⟨r, by rw [Nat.zero_add]; exact h5 j r hr, hi⟩

theorem HasCells.below {w w' : World} {v : Value} {m : Nat} {xs : List Value} (h : HasCells w v m xs) (hb : Below w.heap.size w w') : HasCells w' v m xs := by
  obtain ⟨a, cap, h1, h2, h3, h4, h5⟩ := h
  exact ⟨a, cap, h1, h2, h3, fun ad had j u hu => below_cell hb (h4 ad had j u hu), h5⟩

/-- Two slices of rows, one behind the other. -/
theorem IsRows.both {w w2 : World} {base : Nat} {v : Value} {n : Nat} {va vb : List Value} {ma mb : List (List Int)} (h2 : w2.ownsRow base 51 1 v n (va ++ vb)) (hn : n = (ma ++ mb).length) (hal : va.length = ma.length)
    (ha : ∀ j, j < ma.length → ∃ r, va[j]? = some r ∧ IsInts w r (ma.getD j [])) (hb : ∀ j, j < mb.length → ∃ r, vb[j]? = some r ∧ IsInts w r (mb.getD j [])) (k : Below w.heap.size w w2) : IsRows w2 v (ma ++ mb) := by
  refine IsRows.owned h2 hn fun j hj => ?_
  by_cases e : j < ma.length
  · obtain ⟨r, hr, hi⟩ := ha j e
    exact ⟨r, by rw [List.getElem?_append_left (by omega)]; exact hr, by rw [getD_append_left' e]; exact hi.below k⟩
  · obtain ⟨q, rfl⟩ : ∃ q, j = ma.length + q := ⟨j - ma.length, by omega⟩
    rw [List.length_append] at hj
    obtain ⟨r, hr, hi⟩ := hb q (by omega)
    exact ⟨r, by rw [List.getElem?_append_right (by omega), hal, show ma.length + q - ma.length = q by omega]; exact hr, by rw [getD_append_right']; exact hi.below k⟩

set_option maxHeartbeats 3200000 in
set_option maxRecDepth 100000 in
theorem likesFault_any (ma mb : List (List Int)) (s t : Value) (w : World) (h : IsRows w s ma) (h' : IsRows w t mb) :
    Calls Try.prog 39 #[s, t] w (Faulty (LikesSpec ma mb) w) := by
  have ha := h
  have hb := h'
  obtain ⟨a, cap, b, o, rfl, -, -, -, -, -⟩ := h
  obtain ⟨a', cap', b', o', rfl, -, -, -, -, -⟩ := h'
  have hf1 := F1.start w
  have Hf1 := Lib.hid hf1
  clear hf1
  by_cases hbig : 100 < ma.length
  · have hbig2 : (100 : Int) < (ma.length : Int) := by omega
    go_enter Try.func39, Try.ntmps39
    go_wp2_with (go_at_call 19; refine (F_any _ _ _).mono ?_; rintro e w1 ⟨rfl, rfl⟩)
    exact bodyPost_ret (v := .agg #[.int .i64 2, .int .i64 0]) (by simp [results, Try.results39, go_sem]) rfl ⟨2, 0, Or.inl ⟨hbig, rfl, rfl⟩, rfl, below2 _ _ _⟩
  have hbig' : ma.length ≤ 100 := by omega
  have Hbig := Lib.hid hbig'
  by_cases hlen : mb.length = ma.length
  · have hl1 : ((mb.length : Int) != (ma.length : Int)) = false := by rw [hlen]; simp
    have hl2 : ((mb.length : Int) == (ma.length : Int)) = true := by rw [hlen]; simp
    have hm : (ma ++ mb).length = ma.length + mb.length := by simp
    have hb1 := below1 w (Obj.cells #[Value.int IntKind.i64 0, Value.int IntKind.i64 0] 27)
    obtain ⟨va, hva, hva'⟩ := (ha.below hb1).cells
    obtain ⟨vb, hvb, hvb'⟩ := (hb.below hb1).cells
    have Hva' := Lib.hid hva'; have Hvb' := Lib.hid hvb'; have Hlen := Lib.hid hlen; have Hvb := Lib.hid hvb
    have hval : va.length = ma.length := by obtain ⟨_, _, _, hh, _⟩ := hva; exact hh
    have hmb : mb.length ≤ 100 := by omega
    clear ha hb hva' hvb' hvb hlen hb1
    go_enter Try.func39, Try.ntmps39
    go_wp2_with (first
      | (at_builtin; refine wpList_append_has rfl (.const (.slice none 0 0)) (.tmp 21) 40 rfl (w.heap.size + 1) 51 (.slice none 0 0) 24 Try.underlying40 infoS rfl _ 0 [] rfl (World.ownsRow_nil _ _ _ _) _ ma.length va rfl hva (by omega) (by omega) (by rw [World.size_alloc]; omega) ?_; intro a1 c1 w1 hown1 hg1; simp only [Nat.zero_add, List.nil_append] at hown1; have hsz1 := hg1.size; rw [World.size_alloc] at hsz1; have hk1 := (Below.refl (w.heap.size + 1) _).grown hg1 (by rw [World.size_alloc]; omega) (fun _ h => by cases h); have hk1' := (Below.refl (w.alloc (Obj.cells #[Value.int IntKind.i64 0, Value.int IntKind.i64 0] 27)).heap.size _).grown hg1 (Nat.le_refl _) (fun _ h => by cases h))
      | (at_builtin; refine wpList_append_has rfl (.tmp 22) (.tmp 23) 40 rfl (w.heap.size + 1) 51 (.slice none 0 0) 24 Try.underlying40 infoS rfl _ ma.length va rfl hown1 _ mb.length vb rfl (Hvb.out.below hk1') (by omega) (by omega) (by omega) ?_; intro a2 c2 w2 hown2 hg2))
    have hk2 := hk1.grown hg2 (by omega) (fun g hg => (hown1.lt g hg).1)
    have hF := Hf1.out.below (hk2.mono (by rw [World.size_alloc]; exact Nat.le_refl _))
    have hL := IsRows.both hown2 hm.symm hval Hva'.out Hvb'.out (hk2.mono (by rw [World.size_alloc]; exact Nat.le_refl _))
    clear hg2 hk2 hown2 hown1 hk1 hk1' hg1 hsz1 hl1 hl2 hva Hvb Hva' Hvb' hval Hf1
    rw [← hm] at hL ⊢
    have hfin : ∀ c d, OrdSpec (ma ++ mb) ma.length 0 c d → LikesSpec ma mb c d := fun c d h => Or.inr (Or.inr ⟨hbig', Hlen.out, h⟩)
    have hml : (ma ++ mb).length ≤ 200 := by omega
    have Fin := Lib.hid hfin
    clear hfin hm hbig
    generalize ma ++ mb = m at *
    have hn : ma.length ≤ 100 := hbig'
    clear hbig' Hbig
    generalize hna : ma.length = n at *
    clear hna
    generalize w.heap.size = B at *
    obtain ⟨a0, cap0, b0, o0, he, hcap0, hmax0, hadr, -, hcell⟩ := hL
    simp only [Value.slice.injEq, true_and] at he
    obtain ⟨rfl, rfl⟩ := he
    have Hf0 := Lib.hid hF
    clear hF
    go_loopg [7] m.length (fun g s7 wr => ∃ k : Nat, k ≤ m.length ∧ g = m.length - k ∧ s7 = .int .i64 k ∧ F1 w wr B ∧ Below w2.heap.size w2 wr ∧ ∀ r, r < k → RowPerm n (m.getD r []))
    case atStart => exact ⟨0, Nat.zero_le _, rfl, rfl, Hf0.out, Below.refl _ _, fun _ h => absurd h (Nat.not_lt_zero _)⟩
    case round =>
      obtain ⟨k, hk, rfl, rfl, hf, hb2, hok⟩ := hrel
      have Hok := Lib.hid hok; clear hok
      have cz0 := hf.hz.cell (show 0 < 2 by omega)
      have cz1 := hf.hz.cell (show 1 < 2 by omega)
      have zz0 := hf.hz.frozen 0
      have zz1 := hf.hz.frozen 1
      have hBl := hf.hz.lt
      by_cases hlt : k < m.length
      · obtain rfl := hadr (by omega)
        obtain ⟨x, Hx, ra, rcap, hc, hr⟩ := rows_at hcell hb2 hlt
        obtain ⟨ra', rcap', rb', ro, he, hrc, hrm, hra, -, hrcell⟩ := id hr
        simp only [Value.slice.injEq, true_and] at he
        obtain ⟨rfl, rfl⟩ := he
        have Hf := Lib.hid hf; have Hb2 := Lib.hid hb2
        clear hf hcell hadr hr hb2
        by_cases hlen : x.length = n
        · have hl1 : ((x.length : Int) != (n : Int)) = false := by rw [hlen]; simp
          have hl2 : ((x.length : Int) == (n : Int)) = true := by rw [hlen]; simp
          have Hlen := Lib.hid hlen; clear hlen
          clear cz0 cz1 zz0 zz1
          go_wp2
          clear hl1 hl2
          obtain ⟨wo, rfl⟩ : ∃ wo : World, wo = wr := ⟨_, rfl⟩
          go_loopg [8] n (fun g s8 wr => ∃ p : Nat, p ≤ n ∧ g = n - p ∧ s8 = .int .i64 p ∧ Drew wo wr ∧ ∀ q, q < p → NameOk n x q)
          case atStart => exact ⟨0, Nat.zero_le _, rfl, rfl, Drew.refl _, fun _ h => absurd h (Nat.not_lt_zero _)⟩
          case round =>
            obtain ⟨p, hp, rfl, rfl, hd, hokp⟩ := hrel
            have Hokp := Lib.hid hokp; clear hokp
            have hf := Hf.out.below hd.below
            have hbd : Below wo.heap.size wo wr := hd.below
            have cz0 := hf.hz.cell (show 0 < 2 by omega)
            have cz1 := hf.hz.cell (show 1 < 2 by omega)
            have zz0 := hf.hz.frozen 0
            have zz1 := hf.hz.frozen 1
            have hBl := hf.hz.lt
            have Hf := Lib.hid hf
            clear hf
            by_cases hltp : p < n
            · have hltx : p < x.length := by have := Hlen.out; omega
              obtain rfl := hra (by omega)
              obtain ⟨z, Hz, hcz⟩ := ints_at hrcell hbd hltx
              have hc := below_cell hbd hc
              have hrcell' : ∀ j, j < x.length → wr.cell? ⟨rb', ro + j, none⟩ = some (.int .i64 (x.getD j 0)) := fun j hj => below_cell hbd (hrcell j hj)
              have Hd := Lib.hid hd; have Hrc := Lib.hid hrcell'
              clear hrcell hra hd hrcell' hbd
              by_cases hz1 : z < 0
              · go_wp2_with (go_at_call 19; refine (F_any _ _ _).mono ?_; rintro e w1 ⟨rfl, rfl⟩)
                obtain ⟨e0, e1, e2⟩ := Hf.out.putA (.int .i64 3) (.int .i64 k) (Obj.cells #[Value.int .i64 3, .int .i64 k] 27)
                exact bodyPost_ret (v := .agg #[.int .i64 3, .int .i64 k]) (by simp [results, Try.results39, go_sem, e0, e1]) rfl ⟨3, k, Fin.out _ _ (Or.inl ⟨k, hlt, Hok.out, by rw [Hx.out]; exact Or.inr ⟨Hlen.out, p, hltp, Hokp.out, fun hh => by have := hh.1; rw [Hz.out] at this; omega, Or.inl ⟨by rw [Hz.out]; omega, rfl⟩⟩, by omega⟩), rfl, e2⟩
              · by_cases hz2 : (n : Int) ≤ z
                · go_wp2_with (go_at_call 19; refine (F_any _ _ _).mono ?_; rintro e w1 ⟨rfl, rfl⟩)
                  obtain ⟨e0, e1, e2⟩ := Hf.out.putA (.int .i64 3) (.int .i64 k) (Obj.cells #[Value.int .i64 3, .int .i64 k] 27)
                  exact bodyPost_ret (v := .agg #[.int .i64 3, .int .i64 k]) (by simp [results, Try.results39, go_sem, e0, e1]) rfl ⟨3, k, Fin.out _ _ (Or.inl ⟨k, hlt, Hok.out, by rw [Hx.out]; exact Or.inr ⟨Hlen.out, p, hltp, Hokp.out, fun hh => by have := hh.2.1; rw [Hz.out] at this; omega, Or.inl ⟨by rw [Hz.out]; omega, rfl⟩⟩, by omega⟩), rfl, e2⟩
                · clear cz0 cz1 zz0 zz1
                  go_wp2
                  obtain ⟨wm, rfl⟩ : ∃ wm : World, wm = wr := ⟨_, rfl⟩
                  go_loopg [9] p (fun g s9 wr => ∃ q : Nat, q ≤ p ∧ g = p - q ∧ s9 = .int .i64 q ∧ Drew wm wr ∧ ∀ r, r < q → x.getD r 0 ≠ z)
                  case atStart => exact ⟨0, Nat.zero_le _, rfl, rfl, Drew.refl _, fun _ h => absurd h (Nat.not_lt_zero _)⟩
                  case round =>
                    obtain ⟨q, hq, rfl, rfl, hd2, hne⟩ := hrel
                    have Hne := Lib.hid hne; clear hne
                    have hbd : Below wm.heap.size wm wr := hd2.below
                    have hc := below_cell hbd hc
                    have hcz := below_cell hbd hcz
                    by_cases hltq : q < p
                    · obtain ⟨y, Hy, hcy⟩ := ints_at Hrc.out hbd (show q < x.length by omega)
                      have hf := Hf.out.below hbd
                      have cz0 := hf.hz.cell (show 0 < 2 by omega)
                      have cz1 := hf.hz.cell (show 1 < 2 by omega)
                      have zz0 := hf.hz.frozen 0
                      have zz1 := hf.hz.frozen 1
                      have hBl := hf.hz.lt
                      have Hf := Lib.hid hf
                      have Hd2 := Lib.hid hd2
                      clear hf hbd hd2
                      by_cases hyz : y = z
                      · have hb1 : (y == z) = true := by simp [hyz]
                        have hb2 : (y != z) = false := by simp [hyz]
                        have Hyz := Lib.hid hyz; clear hyz
                        go_wp2
                        go_quiet (fail)
                        obtain ⟨q1, rfl⟩ : ∃ q1, q1 = nq := ⟨nq, rfl⟩
                        have hf := Hf.out.drewN q1
                        generalize wr.drewN q1 = w5 at hf ⊢
                        clear cz0 cz1 zz0 zz1 hBl
                        have cz0 := hf.hz.cell (show 0 < 2 by omega)
                        have cz1 := hf.hz.cell (show 1 < 2 by omega)
                        have zz0 := hf.hz.frozen 0
                        have zz1 := hf.hz.frozen 1
                        have hBl := hf.hz.lt
                        have Hf := Lib.hid hf
                        clear hf
                        go_wp2_with (go_at_call 19; refine (F_any _ _ _).mono ?_; rintro e w1 ⟨rfl, rfl⟩)
                        obtain ⟨e0, e1, e2⟩ := Hf.out.putA (.int .i64 5) (.int .i64 k) (Obj.cells #[Value.int .i64 5, .int .i64 k] 27)
                        exact bodyPost_ret (v := .agg #[.int .i64 5, .int .i64 k]) (by simp [results, Try.results39, go_sem, e0, e1]) rfl ⟨5, k, Fin.out _ _ (Or.inl ⟨k, hlt, Hok.out, by rw [Hx.out]; exact Or.inr ⟨Hlen.out, p, hltp, Hokp.out, fun hh => hh.2.2 q hltq (by rw [Hy.out, Hz.out]; exact Hyz.out), Or.inr ⟨by rw [Hz.out]; omega, rfl⟩⟩, by omega⟩), rfl, e2⟩
                      · have hb1 : (y == z) = false := by simp [hyz]
                        have hb2 : (y != z) = true := by simp [hyz]
                        have Hyz := Lib.hid hyz; clear hyz
                        clear cz0 cz1 zz0 zz1
                        go_wp2
                        go_quiet (fail)
                        go_wp2
                        go_roundg (p - (q + 1))
                        case measure => go_light; omega
                        case rel => exact ⟨q + 1, by omega, rfl, by go_num, Hd2.out.add _, fun r hr => by
                          by_cases e : r = q
                          · rw [e, Hy.out]; exact Hyz.out
                          · exact Hne.out r (by omega)⟩
                    · have Hd2 := Lib.hid hd2
                      clear hbd hd2
                      go_wp2
                      go_roundg (n - (p + 1))
                      case measure => go_light; omega
                      case rel => exact ⟨p + 1, by omega, rfl, by go_num, Hd.out.trans Hd2.out, fun r hr => by
                        by_cases e : r = p
                        · rw [e]; exact ⟨by rw [Hz.out]; omega, by rw [Hz.out]; omega, fun j hj => by rw [Hz.out]; exact Hne.out j (by omega)⟩
                        · exact Hokp.out r (by omega)⟩
            · have hb3 := Hb2.out.trans (hbd.mono Hb2.out.size)
              have Hb3 := Lib.hid hb3
              clear hb3 hbd hd cz0 cz1 zz0 zz1
              go_wp2
              go_roundg (m.length - (k + 1))
              case measure => go_light; omega
              case rel => exact ⟨k + 1, by omega, rfl, by go_num, Hf.out, Hb3.out, fun r hr => by
                by_cases e : r = k
                · subst e; rw [Hx.out]; exact ⟨Hlen.out, fun q hq => Hokp.out q (by omega)⟩
                · exact Hok.out r (by omega)⟩
        · have hl1 : ((x.length : Int) != (n : Int)) = true := by simp; omega
          have hl2 : ((x.length : Int) == (n : Int)) = false := by simp; omega
          have Hlen := Lib.hid hlen; clear hlen
          go_wp2_with (go_at_call 19; refine (F_any _ _ _).mono ?_; rintro e w1 ⟨rfl, rfl⟩)
          obtain ⟨e0, e1, e2⟩ := Hf.out.putA (.int .i64 6) (.int .i64 k) (Obj.cells #[Value.int .i64 6, .int .i64 k] 27)
          exact bodyPost_ret (v := .agg #[.int .i64 6, .int .i64 k]) (by simp [results, Try.results39, go_sem, e0, e1]) rfl ⟨6, k, Fin.out _ _ (Or.inl ⟨k, hlt, Hok.out, by rw [Hx.out]; exact Or.inl ⟨Hlen.out, rfl⟩, by omega⟩), rfl, e2⟩
      · obtain rfl : m.length = k := by omega
        have Hf := Lib.hid hf
        clear hf hcell hadr hb2
        go_wp2
        obtain ⟨e0, e1, e2⟩ := Hf.out.put (.int .i64 0) (.int .i64 0)
        exact bodyPost_ret (v := .agg #[.int .i64 0, .int .i64 0]) (by simp [results, Try.results39, go_sem, e0, e1]) rfl ⟨0, 0, Fin.out _ _ (Or.inr ⟨Hok.out, rfl, rfl⟩), rfl, e2⟩
  · have hl1 : ((mb.length : Int) != (ma.length : Int)) = true := by simp; omega
    have hl2 : ((mb.length : Int) == (ma.length : Int)) = false := by simp; omega
    go_enter Try.func39, Try.ntmps39
    go_wp2_with (go_at_call 19; refine (F_any _ _ _).mono ?_; rintro e w1 ⟨rfl, rfl⟩)
    exact bodyPost_ret (v := .agg #[.int .i64 6, .int .i64 ma.length]) (by simp [results, Try.results39, go_sem]) rfl ⟨6, ma.length, Or.inr (Or.inl ⟨hbig', hlen, rfl, rfl⟩), rfl, below2 _ _ _⟩

end Go.Proofs.Ytfccfmjamdpeaaa
