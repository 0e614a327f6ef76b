/- assign.orders: what is wrong with lists of which each names all. -/
import Derived.Test.YtfccfmjamdpeaaaLeast
namespace Go.Proofs.Ytfccfmjamdpeaaa
open Go.RowKit

/-- Name p of a list is one below n, and new. -/
def NameOk (n : Nat) (x : List Int) (p : Nat) : Prop := 0 ≤ x.getD p 0 ∧ x.getD p 0 < n ∧ ∀ q, q < p → x.getD q 0 ≠ x.getD p 0
/-- A list names all below n. -/
def RowPerm (n : Nat) (x : List Int) : Prop := x.length = n ∧ ∀ p, p < n → NameOk n x p
/-- What is wrong with a list that does not. -/
def RowBad (n : Nat) (x : List Int) (c : Int) : Prop :=
  (x.length ≠ n ∧ c = 6) ∨ (x.length = n ∧ ∃ p, p < n ∧ (∀ q, q < p → NameOk n x q) ∧ ¬ NameOk n x p ∧ ((¬ (0 ≤ x.getD p 0 ∧ x.getD p 0 < n) ∧ c = 3) ∨ ((0 ≤ x.getD p 0 ∧ x.getD p 0 < n) ∧ c = 5)))

theorem RowBad.not {n : Nat} {x : List Int} {c : Int} (h : RowBad n x c) : ¬ RowPerm n x := by
  rintro ⟨h1, h2⟩
  rcases h with ⟨a, _⟩ | ⟨_, p, hp, _, hn, _⟩
  · exact a h1
  · exact hn (h2 p hp)
theorem RowBad.uniq {n : Nat} {x : List Int} {c c' : Int} (h : RowBad n x c) (h' : RowBad n x c') : c = c' := by
  rcases h with ⟨a, rfl⟩ | ⟨a, p, hp, hq, hn, hc⟩ <;> rcases h' with ⟨a', rfl⟩ | ⟨a', p', hp', hq', hn', hc'⟩
  · rfl
  · exact absurd a' a
  · exact absurd a a'
  · have e : p = p' := by
      rcases Nat.lt_trichotomy p p' with h | h | h
      · exact absurd (hq' p h) hn
      · exact h
      · exact absurd (hq p' h) hn'
    subst e
    rcases hc with ⟨b1, rfl⟩ | ⟨b1, rfl⟩ <;> rcases hc' with ⟨d1, rfl⟩ | ⟨d1, rfl⟩ <;> first | rfl | exact absurd d1 b1 | exact absurd b1 d1
theorem RowBad.ne0 {n : Nat} {x : List Int} {c : Int} (h : RowBad n x c) : c ≠ 0 := by
  rcases h with ⟨_, rfl⟩ | ⟨_, p, _, _, _, ⟨_, rfl⟩ | ⟨_, rfl⟩⟩ <;> omega

/-- What orders tells. -/
def OrdSpec (l : List (List Int)) (n : Nat) (base : Int) (c a : Int) : Prop :=
  (∃ i, i < l.length ∧ (∀ r, r < i → RowPerm n (l.getD r [])) ∧ RowBad n (l.getD i []) c ∧ a = base + i) ∨ ((∀ r, r < l.length → RowPerm n (l.getD r [])) ∧ c = 0 ∧ a = 0)

theorem OrdSpec.uniq {l : List (List Int)} {n : Nat} {base c a c' a' : Int} (h : OrdSpec l n base c a) (h' : OrdSpec l n base c' a') : c = c' ∧ a = a' := by
  rcases h with ⟨i, hi, hr, hb, rfl⟩ | ⟨hr, rfl, rfl⟩ <;> rcases h' with ⟨i', hi', hr', hb', rfl⟩ | ⟨hr', rfl, rfl⟩
  · have e : i = i' := by
      rcases Nat.lt_trichotomy i i' with h | h | h
      · exact absurd (hr' i h) hb.not
      · exact h
      · exact absurd (hr i' h) hb'.not
    subst e
    exact ⟨hb.uniq hb', rfl⟩
  · exact absurd (hr' i hi) hb.not
  · exact absurd (hr i' hi') hb'.not
  · exact ⟨rfl, rfl⟩

theorem getD_append_left' {l l' : List (List Int)} {i : Nat} (h : i < l.length) : (l ++ l').getD i [] = l.getD i [] := by simp [List.getD, List.getElem?_append_left h]
theorem getD_append_right' {l l' : List (List Int)} {i : Nat} : (l ++ l').getD (l.length + i) [] = l'.getD i [] := by
  rw [List.getD, List.getD, List.getElem?_append_right (by omega), show l.length + i - l.length = i from by omega]

theorem OrdSpec.left {l l' : List (List Int)} {n : Nat} {c a : Int} (h : OrdSpec l n 0 c a) (hc : c ≠ 0) : OrdSpec (l ++ l') n 0 c a := by
  rcases h with ⟨i, hi, hr, hb, rfl⟩ | ⟨_, rfl, _⟩
  · exact Or.inl ⟨i, by simp; omega, fun r hr' => by rw [getD_append_left' (by omega)]; exact hr r hr', by rw [getD_append_left' hi]; exact hb, rfl⟩
  · exact absurd rfl hc
theorem OrdSpec.perm {l : List (List Int)} {n : Nat} {base a : Int} (h : OrdSpec l n base 0 a) : (∀ r, r < l.length → RowPerm n (l.getD r [])) ∧ a = 0 := by
  rcases h with ⟨i, hi, hr, hb, rfl⟩ | ⟨h, _, e⟩
  · exact absurd rfl hb.ne0
  · exact ⟨h, e⟩
theorem OrdSpec.right {l l' : List (List Int)} {n : Nat} {c a a0 : Int} (h : OrdSpec l n 0 0 a0) (h' : OrdSpec l' n l.length c a) : OrdSpec (l ++ l') n 0 c a := by
  have hp := h.perm.1
  rcases h' with ⟨i, hi, hr, hb, rfl⟩ | ⟨hr, rfl, rfl⟩
  · refine Or.inl ⟨l.length + i, by simp; omega, fun r hr' => ?_, by rw [getD_append_right']; exact hb, by omega⟩
    by_cases e : r < l.length
    · rw [getD_append_left' e]; exact hp r e
    · have := hr (r - l.length) (by omega)
      rw [← getD_append_right' (l := l), show l.length + (r - l.length) = r from by omega] at this
      exact this
  · refine Or.inr ⟨fun r hr' => ?_, rfl, rfl⟩
    by_cases e : r < l.length
    · rw [getD_append_left' e]; exact hp r e
    · have := hr (r - l.length) (by simp at hr'; omega)
      rw [← getD_append_right' (l := l), show l.length + (r - l.length) = r from by omega] at this
      exact this

/-- The result's own cell, and what was there. -/
structure F1 (w wr : World) (B : Nat) : Prop where
  hb : Below w.heap.size w wr
  hz : wr.rowIs B 27 2 (fun _ => .int .i64 0)
  hB : w.heap.size ≤ B

theorem F1.start (w : World) : F1 w (w.alloc (Obj.cells #[Value.int IntKind.i64 0, Value.int IntKind.i64 0] 27)) w.heap.size :=
  ⟨below1 _ _, World.rowIs_alloc w #[Value.int IntKind.i64 0, Value.int IntKind.i64 0] 27 (fun _ => .int .i64 0) (fun i hi => by
    match i, hi with
    | 0, _ => rfl
    | 1, _ => rfl), Nat.le_refl _⟩
theorem F1.alloc {w wr : World} {B : Nat} (h : F1 w wr B) (o : Obj) : F1 w (wr.alloc o) B := ⟨h.hb.alloc h.hb.size _, h.hz.alloc _, h.hB⟩
theorem F1.setOther {w wr : World} {B : Nat} (h : F1 w wr B) {p : Addr} (x : Value) (h0 : w.heap.size ≤ p.block) (h1 : B ≠ p.block) : F1 w (wr.setCell p x) B :=
  ⟨h.hb.setCell h0 _, h.hz.setOther h1 _, h.hB⟩
theorem F1.drew {w wr : World} {B : Nat} (h : F1 w wr B) : F1 w wr.drew B := ⟨h.hb.drew, h.hz, h.hB⟩
theorem F1.drewN {w wr : World} {B : Nat} (h : F1 w wr B) (n : Nat) : F1 w (wr.drewN n) B := ⟨Below.drewN' h.hb n, h.hz, h.hB⟩
theorem F1.below {w wr w' : World} {B : Nat} (h : F1 w wr B) (hb : Below wr.heap.size wr w') : F1 w w' B :=
  ⟨h.hb.trans (hb.mono h.hb.size), h.hz.of_block (hb.block _ h.hz.lt), h.hB⟩
/-- What the result's cell holds behind the store. -/
theorem F1.put {w wr : World} {B : Nat} (h : F1 w wr B) (c a : Value) :
    ((wr.setCell ⟨B, 0, none⟩ c).setCell ⟨B, 1, none⟩ a).cell? ⟨B, 0, none⟩ = some c ∧ ((wr.setCell ⟨B, 0, none⟩ c).setCell ⟨B, 1, none⟩ a).cell? ⟨B, 1, none⟩ = some a ∧ Below w.heap.size w ((wr.setCell ⟨B, 0, none⟩ c).setCell ⟨B, 1, none⟩ a) :=
  ⟨((h.hz.set 0 c).set 1 a).cell (show 0 < 2 by omega), ((h.hz.set 0 c).set 1 a).cell (show 1 < 2 by omega), (h.hb.setCell h.hB _).setCell h.hB _⟩

/-- .. where the fault was made in a block of its own. -/
theorem F1.putA {w wr : World} {B : Nat} (h : F1 w wr B) (c a : Value) (o : Obj) :
    (((wr.setCell ⟨B, 0, none⟩ c).setCell ⟨B, 1, none⟩ a).alloc o).cell? ⟨B, 0, none⟩ = some c ∧ (((wr.setCell ⟨B, 0, none⟩ c).setCell ⟨B, 1, none⟩ a).alloc o).cell? ⟨B, 1, none⟩ = some a ∧ Below w.heap.size w (((wr.setCell ⟨B, 0, none⟩ c).setCell ⟨B, 1, none⟩ a).alloc o) := by
  obtain ⟨e0, e1, e2⟩ := h.put c a
  exact ⟨below_cell (below1 _ _) e0, below_cell (below1 _ _) e1, e2.alloc e2.size _⟩

/-- The names that have been seen. -/
def seenB (x : List Int) (k : Nat) : Nat → Bool := fun v => (x.take k).any (fun y => y == (v : Int))
theorem seenB_yes {x : List Int} {k : Nat} {v : Nat} (hk : k ≤ x.length) : seenB x k v = true ↔ ∃ q, q < k ∧ x.getD q 0 = v := by
  unfold seenB
  rw [List.any_eq_true]
  constructor
  · rintro ⟨y, hy, e⟩
    obtain ⟨q, hq, rfl⟩ := List.mem_iff_getElem.1 hy
    have hq' : q < k := by simp at hq; omega
    refine ⟨q, hq', ?_⟩
    simp at e
    simpa [List.getD, show q < x.length by omega] using e
  · rintro ⟨q, hq, e⟩
    have hqx : q < x.length := by omega
    refine ⟨x[q], ?_, ?_⟩
    · rw [List.mem_iff_getElem]
      exact ⟨q, by simp; omega, by simp⟩
    · simpa [List.getD, hqx] using e
theorem seenB_succ {x : List Int} {k : Nat} {v z : Nat} (hk : k < x.length) (hz : x.getD k 0 = z) : seenB x (k + 1) v = if v = z then true else seenB x k v := by
  by_cases e : v = z
  · subst e; rw [if_pos rfl, seenB_yes (by omega)]; exact ⟨k, by omega, hz⟩
  · rw [if_neg e, Bool.eq_iff_iff, seenB_yes (by omega), seenB_yes (by omega)]
    constructor
    · rintro ⟨q, hq, h⟩
      by_cases e2 : q = k
      · subst e2; omega
      · exact ⟨q, by omega, h⟩
    · rintro ⟨q, hq, h⟩
      exact ⟨q, by omega, h⟩

set_option maxHeartbeats 1600000 in
set_option maxRecDepth 100000 in
theorem orders_any (m : List (List Int)) (s : Value) (n : Nat) (base : Int) (w : World) (h : IsRows w s m) (hn : n ≤ 100) (hm : m.length ≤ 100) (hb0 : 0 ≤ base) (hb1 : base ≤ 1000) :
    Calls Try.prog 85 #[s, .int .i64 n, .int .i64 base] w (Faulty (OrdSpec m n base) w) := by
  obtain ⟨a, cap, b, o, rfl, hcap, hmax, hadr, -, hcell⟩ := h
  have hmk := run_make_row' (P := Try.prog) 38 4 (.bool false) 1 Try.underlying38 info4 rfl .i64 .i64 n (by omega) (by omega)
  have hf1 := F1.start w
  have Hf1 := Lib.hid hf1
  clear hf1
  go_enter Try.func85, Try.ntmps85
  go_wp2
  generalize w.alloc (Obj.cells #[Value.int IntKind.i64 0, Value.int IntKind.i64 0] 27) = w1 at *
  generalize hB : w.heap.size = B at *
  have HB := Lib.hid hB
  clear hB
  go_loopg [14] m.length (fun g s14 wr => ∃ k : Nat, k ≤ m.length ∧ g = m.length - k ∧ s14 = .int .i64 k ∧ F1 w wr B ∧ ∀ r, r < k → RowPerm n (m.getD r []))
  case atStart => exact ⟨0, Nat.zero_le _, rfl, rfl, Hf1.out, fun _ h => absurd h (Nat.not_lt_zero _)⟩
  case round =>
    obtain ⟨k, hk, rfl, rfl, hf, hok⟩ := hrel
    have Hok := Lib.hid hok; clear hok
    by_cases hlt : k < m.length
    · obtain rfl := hadr (by omega)
      obtain ⟨x, Hx, ra, rcap, hc, hr⟩ := rows_at hcell hf.hb hlt
      obtain ⟨ra', rcap', rb', ro, he, hrc, hrm, hra, -, hrcell⟩ := id hr
      simp only [Value.slice.injEq, true_and] at he
      obtain ⟨rfl, rfl⟩ := he
      have cz0 := hf.hz.cell (show 0 < 2 by omega)
      have cz1 := hf.hz.cell (show 1 < 2 by omega)
      have zz0 := hf.hz.frozen 0
      have zz1 := hf.hz.frozen 1
      have hBl := hf.hz.lt
      have Hf := Lib.hid hf
      clear hf hcell hadr hr
      by_cases hlen : x.length = n
      · have hl1 : ((x.length : Int) != (n : Int)) = false := by rw [hlen]; simp
        have hl2 : ((x.length : Int) == (n : Int)) = true := by rw [hlen]; simp
        have Hlen := Lib.hid hlen; clear hlen
        have h1 := World.rowIs_made wr (.bool false) n 4
        have h2 := Hf.out.alloc (Obj.cells (madeCells #[.bool false] n) 4)
        have Hs := Lib.hid h1; have Hf2 := Lib.hid h2
        have hbl : Below wr.heap.size wr (wr.alloc (Obj.cells (madeCells #[.bool false] n) 4)) := below1 _ _
        have Hbl := Lib.hid hbl
        clear h1 h2 hbl cz0 cz1 zz0 zz1
        go_wp2
        clear hl1 hl2 hmk
        generalize wr.alloc (Obj.cells (madeCells #[Value.bool false] n) 4) = w2 at *
        generalize hbse : wr.heap.size = bs at *
        have hbs : B < bs := by omega
        have hbz : wr.heap.size ≤ bs := by omega
        clear hbse hBl
        obtain ⟨wo, rfl⟩ : ∃ wo : World, wo = wr := ⟨_, rfl⟩
        go_loopg [31] x.length (fun g s31 wi => ∃ p : Nat, p ≤ x.length ∧ g = x.length - p ∧ s31 = .int .i64 p ∧ F1 w wi B ∧ wi.rowIs bs 4 n (rb (seenB x p)) ∧ Below bs wo wi ∧ ∀ q, q < p → NameOk n x q)
        case atStart => exact ⟨0, Nat.zero_le _, rfl, rfl, Hf2.out, Hs.out.congr (fun i _ => by simp [rb, seenB]), Hbl.out, fun _ h => absurd h (Nat.not_lt_zero _)⟩
        case round =>
          obtain ⟨p, hp, rfl, rfl, hf, hs, hb2, hokp⟩ := hrel
          have cz0 := hf.hz.cell (show 0 < 2 by omega)
          have cz1 := hf.hz.cell (show 1 < 2 by omega)
          have zz0 := hf.hz.frozen 0
          have zz1 := hf.hz.frozen 1
          have hsb := hs.lt
          have hB0 := hf.hB
          have hBl := hf.hz.lt
          by_cases hltx : p < x.length
          · obtain rfl := hra (by omega)
            obtain ⟨z, Hz, hcz0⟩ := ints_at hrcell (Below.refl _ _) hltx
            have hcz : wr.cell? ⟨rb', ro + p, none⟩ = some (.int .i64 z) := by
              rw [hb2.cell (p := ⟨rb', ro + p, none⟩) (Nat.lt_of_lt_of_le (World.block_lt_of_cell? _ _ hcz0) (by omega))]; exact hcz0
            have Hf3 := Lib.hid hf; have Hs3 := Lib.hid hs; have Hokp := Lib.hid hokp; have Hb2 := Lib.hid hb2
            clear hf hs hokp hb2 hrcell hra hcz0
            have hpn : p < n := by have := Hlen.out; omega
            by_cases hz1 : z < 0
            · go_wp2_with (go_at_call 83; refine (fault_any _ _ _).mono ?_; rintro e w1 ⟨rfl, rfl⟩)
              obtain ⟨e0, e1, e2⟩ := Hf3.out.putA (.int .i64 3) (.int .i64 (base + k)) (Obj.cells #[Value.int .i64 3, .int .i64 (base + k)] 27)
              exact bodyPost_ret (v := .agg #[.int .i64 3, .int .i64 (base + k)]) (by simp [results, Try.results85, go_sem, e0, e1]) rfl ⟨3, base + k, Or.inl ⟨k, hlt, Hok.out, by rw [Hx.out]; exact Or.inr ⟨Hlen.out, p, hpn, Hokp.out, fun hh => by have := hh.1; rw [Hz.out] at this; omega, Or.inl ⟨by rw [Hz.out]; omega, rfl⟩⟩, rfl⟩, rfl, e2⟩
            · by_cases hz2 : (n : Int) ≤ z
              · go_wp2_with (go_at_call 83; refine (fault_any _ _ _).mono ?_; rintro e w1 ⟨rfl, rfl⟩)
                obtain ⟨e0, e1, e2⟩ := Hf3.out.putA (.int .i64 3) (.int .i64 (base + k)) (Obj.cells #[Value.int .i64 3, .int .i64 (base + k)] 27)
                exact bodyPost_ret (v := .agg #[.int .i64 3, .int .i64 (base + k)]) (by simp [results, Try.results85, go_sem, e0, e1]) rfl ⟨3, base + k, Or.inl ⟨k, hlt, Hok.out, by rw [Hx.out]; exact Or.inr ⟨Hlen.out, p, hpn, Hokp.out, fun hh => by have := hh.2.1; rw [Hz.out] at this; omega, Or.inl ⟨by rw [Hz.out]; omega, rfl⟩⟩, rfl⟩, rfl, e2⟩
              · obtain ⟨v, rfl⟩ : ∃ v : Nat, z = v := ⟨z.toNat, by omega⟩
                have hvn : v < n := by omega
                have cs := Hs3.out.cell hvn
                have zs := Hs3.out.frozen v
                simp only [rb] at cs
                cases hsv : seenB x p v with
                | true =>
                  rw [hsv] at cs
                  have Hsv := Lib.hid hsv
                  clear hsv
                  go_wp2_with (go_at_call 83; refine (fault_any _ _ _).mono ?_; rintro e w1 ⟨rfl, rfl⟩)
                  obtain ⟨e0, e1, e2⟩ := Hf3.out.putA (.int .i64 5) (.int .i64 (base + k)) (Obj.cells #[Value.int .i64 5, .int .i64 (base + k)] 27)
                  exact bodyPost_ret (v := .agg #[.int .i64 5, .int .i64 (base + k)]) (by simp [results, Try.results85, go_sem, e0, e1]) rfl ⟨5, base + k, Or.inl ⟨k, hlt, Hok.out, by
                    rw [Hx.out]
                    refine Or.inr ⟨Hlen.out, p, hpn, Hokp.out, fun hh => ?_, Or.inr ⟨by rw [Hz.out]; omega, rfl⟩⟩
                    obtain ⟨q, hq, e⟩ := (seenB_yes (by omega)).1 Hsv.out
                    exact hh.2.2 q hq (by rw [e, Hz.out]), rfl⟩, rfl, e2⟩
                | false =>
                  rw [hsv] at cs
                  have fin1 := Hf3.out.setOther (p := ⟨bs, v, none⟩) (.bool true) (by show w.heap.size ≤ bs; omega) (by show B ≠ bs; omega)
                  have fin2 := row_set_rb Hs3.out v true
                  have fin3 := Hb2.out.setCell (p := ⟨bs, v, none⟩) (Nat.le_refl _) (.bool true)
                  have Hsv := Lib.hid hsv; have Fin1 := Lib.hid fin1; have Fin2 := Lib.hid fin2; have Fin3 := Lib.hid fin3
                  clear hsv fin1 fin2 fin3 cz0 cz1 zz0 zz1
                  go_wp2
                  go_roundg (x.length - (p + 1))
                  case measure => go_light; omega
                  case rel =>
                    exact ⟨p + 1, by omega, rfl, by go_num, Fin1.out, row_rb Fin2.out (fun i _ => (seenB_succ hltx Hz.out).symm), Fin3.out, fun q hq => by
                      by_cases e : q = p
                      · subst e
                        refine ⟨by rw [Hz.out]; omega, by rw [Hz.out]; omega, fun q' hq' e => ?_⟩
                        have := (seenB_yes (v := v) (show q ≤ x.length by omega)).2 ⟨q', hq', by rw [e, Hz.out]⟩
                        rw [Hsv.out] at this; cases this
                      · exact Hokp.out q (by omega)⟩
          · have Hf3 := Lib.hid hf; have Hokp := Lib.hid hokp
            clear hf hs hokp hb2 cz0 cz1 zz0 zz1
            go_wp2
            go_roundg (m.length - (k + 1))
            case measure => go_light; omega
            case rel => exact ⟨k + 1, by omega, rfl, by go_num, Hf3.out, fun r hr => by
              by_cases e : r = k
              · subst e; rw [Hx.out]; exact ⟨Hlen.out, fun q hq => Hokp.out q (by have := Hlen.out; omega)⟩
              · exact Hok.out r (by omega)⟩
      · have hl1 : ((x.length : Int) != (n : Int)) = true := by simp; omega
        have hl2 : ((x.length : Int) == (n : Int)) = false := by simp; omega
        have Hlen := Lib.hid hlen; clear hlen
        go_wp2_with (go_at_call 83; refine (fault_any _ _ _).mono ?_; rintro e w1 ⟨rfl, rfl⟩)
        obtain ⟨e0, e1, e2⟩ := Hf.out.putA (.int .i64 6) (.int .i64 (base + k)) (Obj.cells #[Value.int .i64 6, .int .i64 (base + k)] 27)
        exact bodyPost_ret (v := .agg #[.int .i64 6, .int .i64 (base + k)]) (by simp [results, Try.results85, go_sem, e0, e1]) rfl ⟨6, base + k, Or.inl ⟨k, hlt, Hok.out, Or.inl ⟨by rw [Hx.out]; exact Hlen.out, rfl⟩, rfl⟩, rfl, e2⟩
    · obtain rfl : m.length = k := by omega
      have cz0 := hf.hz.cell (show 0 < 2 by omega)
      have cz1 := hf.hz.cell (show 1 < 2 by omega)
      have zz0 := hf.hz.frozen 0
      have zz1 := hf.hz.frozen 1
      have Hf := Lib.hid hf
      clear hf hcell hadr
      go_wp2
      obtain ⟨e0, e1, e2⟩ := Hf.out.put (.int .i64 0) (.int .i64 0)
      exact bodyPost_ret (v := .agg #[.int .i64 0, .int .i64 0]) (by simp [results, Try.results85, go_sem, e0, e1]) rfl ⟨0, 0, Or.inr ⟨Hok.out, rfl, rfl⟩, rfl, e2⟩

end Go.Proofs.Ytfccfmjamdpeaaa
