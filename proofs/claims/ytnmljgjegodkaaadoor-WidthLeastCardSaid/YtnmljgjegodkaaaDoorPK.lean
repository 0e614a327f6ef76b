/- arborref.orders, with Width's function value: the least that comes of any order. arborref.Width, by what its function value does. -/
import Derived.Test.YtnmljgjegodkaaaDoorFitF
import Derived.Test.YtnmljgjegodkaaaDoorPG
import Derived.Laws.ByValue
import Derived.Maps.RangeWalk
import Derived.Test.YtnmljgjegodkaaaDoorHasGrid
import Derived.Test.YtnmljgjegodkaaaDoorPA
namespace Go.Proofs.YtnmljgjegodkaaaDoor
open Go.RowKit Go.Maps

/-- Numbers below n, all different. -/
def PartW (n : Nat) (l : List Int) : Prop := (∀ i, i < l.length → 0 ≤ l.getD i 0 ∧ l.getD i 0 < n) ∧ ∀ i j, i < l.length → j < i → l.getD j 0 ≠ l.getD i 0
theorem getD_snocW (l : List Int) (v : Int) (i : Nat) : (l ++ [v]).getD i 0 = if i < l.length then l.getD i 0 else if i = l.length then v else 0 := by
  by_cases h : i < l.length
  · rw [if_pos h, List.getD, List.getElem?_append_left h, List.getD]
  · by_cases e : i = l.length
    · subst e; simp [List.getD]
    · rw [if_neg h, if_neg e, List.getD, List.getElem?_eq_none (by simp; omega)]; rfl
theorem PartW.snoc {n v : Nat} {l : List Int} (h : PartW n l) (hv : v < n) (hne : ∀ i, i < l.length → l.getD i 0 ≠ (v : Int)) : PartW n (l ++ [(v : Int)]) := by
  refine ⟨fun i hi => ?_, fun i j hi hj => ?_⟩
  · rw [getD_snocW]
    by_cases e : i < l.length
    · rw [if_pos e]; exact h.1 i e
    · rw [if_neg e, if_pos (by simp at hi; omega)]; omega
  · rw [getD_snocW, getD_snocW]
    have : j < l.length := by simp at hi; omega
    rw [if_pos this]
    by_cases e : i < l.length
    · rw [if_pos e]; exact h.2 i j e hj
    · rw [if_neg e, if_pos (by simp at hi; omega)]; exact hne j this
/-- What a run leaves. -/
structure RunW (K : Int → World → Prop) (b : Nat) (W : Int) (o : Prop) (x : Int) (w w' : World) (y : Int) : Prop where
  k : K y w'
  g : w.grownBy w' (some b)
  le : y ≤ x
  lo : W ≤ x → W ≤ y
  at' : o → y ≤ W
theorem IsInts.keptW {w w' : World} {s : Value} {l : List Int} {b : Nat} (h : IsInts w s l) (hl : ∀ g, s.ownBlock = some g → g < w.heap.size ∧ g ≠ b) (hg : w.grownBy w' (some b)) : IsInts w' s l :=
  h.kept hg (fun g e => (hl g e).1) fun g e k => (hl g e).2 (Option.some.inj k).symm
theorem next_pre {n : Nat} {l Ls : List Int} (hp : l <+: Ls) (hlt : l.length < Ls.length) (hLs : ∀ i, i < Ls.length → 0 ≤ Ls.getD i 0 ∧ Ls.getD i 0 < n) : ∃ c : Nat, c < n ∧ l ++ [(c : Int)] <+: Ls := by
  obtain ⟨r, rfl⟩ := hp
  cases r with
  | nil => simp at hlt
  | cons a r =>
    have h1 := hLs l.length (by simp)
    have e : (l ++ a :: r).getD l.length 0 = a := by simp [List.getD]
    rw [e] at h1
    exact ⟨a.toNat, by omega, ⟨r, by simp; omega⟩⟩
theorem pre_ne {n : Nat} {l Ls : List Int} {v : Int} (h : PartW n Ls) (hp : l ++ [v] <+: Ls) : ∀ i, i < l.length → l.getD i 0 ≠ v := fun i hi e => by
  obtain ⟨r, rfl⟩ := hp
  have h1 := h.2 l.length i (by simp) hi
  have e1 : ((l ++ [v]) ++ r).getD l.length 0 = v := by simp [List.getD]
  have e2 : ((l ++ [v]) ++ r).getD i 0 = l.getD i 0 := by simp [List.getD, List.getElem?_append_left hi]
  exact h1 (by rw [e1, e2, e])

set_option maxHeartbeats 3200000 in
set_option maxRecDepth 100000 in
theorem ordersW_run {n b : Nat} {W : Int} {Ls : List Int} (hn : n ≤ 100) (hLl : Ls.length = n) (hLs : PartW n Ls) (K : Int → World → Prop) (hK : ∀ x w w', K x w → Below w.heap.size w w' → K x w') (hKb : ∀ x w, K x w → b < w.heap.size) (c1 c2 : Value)
    (hcl : ∀ (l : List Int) (s : Value) (w : World) (x : Int), K x w → IsInts w s l → (∀ g, s.ownBlock = some g → g < w.heap.size ∧ g ≠ b) → l.length = n → PartW n l → Calls Tryd.prog 38 #[s, c1, c2] w fun e w' => e = .returned (.tuple #[]) ∧ ∃ y, RunW K b W (l = Ls) x w w' y) :
    ∀ (d : Nat) (l : List Int) (s : Value) (w : World) (x : Int), K x w → IsInts w s l → (∀ g, s.ownBlock = some g → g < w.heap.size ∧ g ≠ b) → l.length + d = n → PartW n l →
      Calls Tryd.prog 56 #[.int .i64 n, s, .func (.func 38) #[] #[c1, c2]] w fun e w' => e = .returned (.tuple #[]) ∧ ∃ y, RunW K b W (l <+: Ls) x w w' y := by
  intro d
  induction d with
  | zero =>
    intro l s w x hk hs hsb hd hp
    have hs0 := hs
    obtain ⟨a, cap, b', o, rfl, -, -, -, -, -⟩ := hs
    have hl2 : ((l.length : Int) == (n : Int)) = true := by simp; omega
    have Hs := Lib.hid hs0; have Hk := Lib.hid hk; have Hp := Lib.hid hp; have Hd := Lib.hid hd; have Hsb := Lib.hid hsb
    clear hs0 hk hp hd hK hsb
    have Hcl := Lib.hid hcl
    clear hcl
    go_enter Tryd.func56, Tryd.ntmps56
    go_wp2_with (go_at_call 38; refine (Hcl.out _ _ _ _ Hk.out Hs.out Hsb.out (by have := Hd.out; omega) Hp.out).mono ?_; rintro e w1 ⟨rfl, y, hr⟩)
    (try simp only [Exit.inBlock, Exit.then])
    refine bodyPost_ret (results_none rfl _ _ _) rfl ?_
    exact ⟨rfl, y, hr.k, hr.g, hr.le, hr.lo, fun h => hr.at' (h.eq_of_length (by have := Hd.out; omega))⟩
  | succ d ih =>
    intro l s w x hk hs hsb hd hp
    have hs0 := hs
    obtain ⟨a, cap, b', o, rfl, -, -, -, -, -⟩ := hs
    have hl2 : ((l.length : Int) == (n : Int)) = false := by simp; omega
    have Hs := Lib.hid hs0; have Hk := Lib.hid hk; have Hp := Lib.hid hp; have Ih := Lib.hid ih; have HK := Lib.hid hK; have Hsb := Lib.hid hsb
    have hbw := hKb _ _ hk
    have HKb := Lib.hid hKb
    have HLs := Lib.hid hLs
    have hlenl : l.length < n := by omega
    have Hd := Lib.hid hd
    clear hs0 hk hp ih hK hcl hsb hKb hd
    go_enter Tryd.func56, Tryd.ntmps56
    go_wp2
    clear hl2
    go_loopg [6] n (fun g s6 wr => ∃ (v : Nat) (y : Int), v ≤ n ∧ g = n - v ∧ s6 = .int .i64 v ∧ RunW K b W (∃ c : Nat, c < v ∧ l ++ [(c : Int)] <+: Ls) x w wr y)
    case atStart => exact ⟨0, x, Nat.zero_le _, rfl, rfl, Hk.out, World.grownBy.refl _ _, Int.le_refl _, fun h => h, fun ⟨c, hc, _⟩ => absurd hc (Nat.not_lt_zero _)⟩
    case round =>
      obtain ⟨v, y, hv, rfl, rfl, hr⟩ := hrel
      have Hr := Lib.hid hr
      have Hsr := Lib.hid (Hs.out.keptW Hsb.out hr.g)
      have hwr := hr.g.size
      clear hr
      by_cases hlt : v < n
      · go_wp2
        go_loopg [7, 8] l.length (fun g s7 s8 wx => ∃ k : Nat, k ≤ l.length ∧ g = l.length - k ∧ s8 = .int .i64 k ∧ wx = wr ∧ ∃ c : Bool, s7 = .bool c ∧ (c = true ↔ ∀ i, i < k → l.getD i 0 ≠ (v : Int)))
        case atStart => exact ⟨0, Nat.zero_le _, rfl, rfl, rfl, true, rfl, fun _ _ h => absurd h (Nat.not_lt_zero _), fun _ => rfl⟩
        case round =>
          obtain ⟨k, hk, rfl, rfl, rfl, c, rfl, hc⟩ := hrel
          have Hc := Lib.hid hc; clear hc
          by_cases hltk : k < l.length
          · obtain ⟨b2, o2, rfl, hcz⟩ := Hsr.out.atF hltk
            obtain ⟨z, hz0⟩ : ∃ z, l.getD k 0 = z := ⟨_, rfl⟩
            have Hz := Lib.hid hz0
            rw [hz0] at hcz
            clear hz0
            cases c with
            | false =>
              go_wp2
              go_roundg (l.length - (k + 1))
              case measure => go_light; omega
              case rel => exact ⟨k + 1, by omega, rfl, by go_num, rfl, false, rfl, (fun h => by cases h), fun h => absurd (Hc.out.2 fun i hi => h i (by omega)) (by simp)⟩
            | true =>
              by_cases hz : z = (v : Int)
              · have hb1 : (z != (v : Int)) = false := by simp [hz]
                have hb2 : (z == (v : Int)) = true := by simp [hz]
                have Hzz := Lib.hid hz; clear hz
                go_wp2
                go_roundg (l.length - (k + 1))
                case measure => go_light; omega
                case rel => exact ⟨k + 1, by omega, rfl, by go_num, rfl, false, rfl, (fun h => by cases h), fun h => absurd (h k (by omega)) (by rw [Hz.out, Hzz.out]; simp)⟩
              · have hb1 : (z != (v : Int)) = true := by simp [hz]
                have hb2 : (z == (v : Int)) = false := by simp [hz]
                have Hzz := Lib.hid hz; clear hz
                go_wp2
                go_roundg (l.length - (k + 1))
                case measure => go_light; omega
                case rel => exact ⟨k + 1, by omega, rfl, by go_num, rfl, true, rfl, (fun _ i hi => by
                  by_cases e : i = k
                  · rw [e, Hz.out]; exact Hzz.out
                  · exact Hc.out.1 (by first | exact trivial | exact rfl) i (by omega)), fun _ => rfl⟩
          · obtain rfl : l.length = k := by omega
            cases c with
            | false =>
              have Hst := Lib.hid (show RunW K b W (∃ c : Nat, c < v + 1 ∧ l ++ [(c : Int)] <+: Ls) x w wr y from ⟨Hr.out.k, Hr.out.g, Hr.out.le, Hr.out.lo, fun ⟨c, hc, hp⟩ => by
                by_cases e : c = v
                · subst e
                  have hno : ¬ ∀ i, i < l.length → l.getD i 0 ≠ (c : Int) := fun h => absurd (Hc.out.2 h) (by simp)
                  exact absurd (pre_ne HLs.out hp) hno
                · exact Hr.out.at' ⟨c, by omega, hp⟩⟩)
              go_wp2
              go_roundg (n - (v + 1))
              case measure => go_light; omega
              case rel => exact ⟨v + 1, y, by omega, rfl, by go_num, Hst.out⟩
            | true =>
              have hcs := Hsr.out.cells
              have Hcs := Lib.hid hcs
              clear hcs
              go_wp2_with (first
                | (at_builtin; refine wpList_append_has rfl (.const (.slice none 0 0)) (.tmp 38) 30 rfl wr.heap.size 3 (.int .i64 0) 8 Tryd.underlying30 info3 rfl _ 0 [] rfl (World.ownsRow_nil _ _ _ _) _ l.length (l.map (Value.int .i64)) rfl Hcs.out (by omega) (by omega) (by omega) ?_; intro a1 c1 w1 hown1 hg1; simp only [Nat.zero_add, List.nil_append] at hown1; have hsz1 := hg1.size)
                | (at_builtin; refine wpList_append_has rfl (.tmp 39) (.tmp 41) 30 rfl wr.heap.size 3 (.int .i64 0) 8 Tryd.underlying30 info3 rfl _ l.length (l.map (Value.int .i64)) rfl (hown1.alloc _) _ 1 [.int .i64 v] rfl (HasCells.one _ _ _ rfl) (by omega) (by omega) (by rw [World.size_alloc]; omega) ?_; intro a2 c2 w2 hown2 hg2)
                | (go_at_call 56; have hbw2 := (((Below.refl wr.heap.size wr).grown hg1 (by omega) (fun _ h => by cases h)).alloc (by omega) (Obj.cells #[Value.int .i64 (v : Int)] 3)).grown hg2 (by rw [World.size_alloc]; omega) (fun g hg => (hown1.lt g hg).1); refine (Ih.out (l ++ [(v : Int)]) _ w2 y (HK.out _ _ _ Hr.out.k hbw2) (IsInts.owned (by simpa using hown2)) (fun g e => ⟨(hown2.lt g e).2, by have := (hown2.lt g e).1; omega⟩) (by have := Hd.out; simp; omega) (Hp.out.snoc hlt (Hc.out.1 (by first | exact trivial | exact rfl)))).mono ?_; rintro e w3 ⟨rfl, y3, hr3⟩))
              have Hst := Lib.hid (show RunW K b W (∃ c : Nat, c < v + 1 ∧ l ++ [(c : Int)] <+: Ls) x w w3 y3 from ⟨hr3.k, (Hr.out.g.trans ((grown_of_below hbw2).but _)).trans hr3.g, Int.le_trans hr3.le Hr.out.le, fun h => hr3.lo (Hr.out.lo h), fun ⟨c, hc, hp⟩ => by
                by_cases e : c = v
                · subst e; exact hr3.at' hp
                · exact Int.le_trans hr3.le (Hr.out.at' ⟨c, by omega, hp⟩)⟩)
              go_roundg (n - (v + 1))
              case measure => go_light; omega
              case rel => exact ⟨v + 1, y3, by omega, rfl, by go_num, Hst.out⟩
      · obtain rfl : v = n := by omega
        have Hst := Lib.hid (show RunW K b W (l <+: Ls) x w wr y from ⟨Hr.out.k, Hr.out.g, Hr.out.le, Hr.out.lo, fun h => Hr.out.at' (by
          obtain ⟨c, hc, hp⟩ := next_pre h (by omega) HLs.out.1
          exact ⟨c, hc, hp⟩)⟩)
        go_wp2
        go_end0
        exact ⟨rfl, y, Hst.out⟩
end Go.Proofs.YtnmljgjegodkaaaDoor
namespace Go.Proofs.YtnmljgjegodkaaaDoor
open Go Go.RowKit

/-- What the function value finds: the table's box, and the best so far. -/
structure KW (w0 : World) (gv : Value) (A b : Nat) (x : Int) (w : World) : Prop where
  hb : Below w0.heap.size w0 w
  ca : w.cell? ⟨A, 0, none⟩ = some gv
  r : w.rowIs b 3 1 (ri fun _ => x)
  ne : A ≠ b
  lo : w0.heap.size ≤ b
theorem KW.below {w0 w w' : World} {gv : Value} {A b : Nat} {x : Int} (h : KW w0 gv A b x w) (hb : Below w.heap.size w w') : KW w0 gv A b x w' :=
  ⟨h.hb.trans (hb.mono h.hb.size), below_cell hb h.ca, h.r.of_block (hb.block _ h.r.lt), h.ne, h.lo⟩
theorem KW.put {w0 w : World} {gv : Value} {A b : Nat} {x : Int} (h : KW w0 gv A b x w) (y : Int) : KW w0 gv A b y (w.setCell ⟨b, 0, none⟩ (.int .i64 y)) :=
  ⟨h.hb.setCell (p := ⟨b, 0, none⟩) h.lo _, by rw [World.cell?_setCell_far _ _ _ _ (show b ≠ A from h.ne.symm)]; exact h.ca, row_ri (row_set_ri h.r 0 y) (fun k hk => if_pos (by omega)), h.ne, h.lo⟩
theorem KW.start (w : World) (gv : Value) (x : Int) (T : TypeId) : KW w gv w.heap.size (w.heap.size + 1) x ((w.alloc (Obj.cells #[gv] T)).alloc (Obj.cells #[.int .i64 x] 3)) := by
  have hb := below2 w (Obj.cells #[gv] T) (Obj.cells #[.int .i64 x] 3)
  refine ⟨hb, ?_, ?_, by omega, by omega⟩
  · rw [World.cell?_alloc_past _ _ _ (by simp), World.cell?_alloc_at _ _ _ _ rfl]; rfl
  · have := World.rowIs_alloc (w.alloc (Obj.cells #[gv] T)) #[.int .i64 x] 3 (ri fun _ => x) (fun i hi => by
      match i, hi with
      | 0, _ => rfl)
    rw [World.size_alloc] at this
    exact this

theorem ordersTopW_run {n b : Nat} {W : Int} {Ls : List Int} (hn : n ≤ 100) (hLl : Ls.length = n) (hLs : PartW n Ls) (K : Int → World → Prop) (hK : ∀ x w w', K x w → Below w.heap.size w w' → K x w') (hKb : ∀ x w, K x w → b < w.heap.size) (c1 c2 : Value)
    (hcl : ∀ (l : List Int) (s : Value) (w : World) (x : Int), K x w → IsInts w s l → (∀ g, s.ownBlock = some g → g < w.heap.size ∧ g ≠ b) → l.length = n → PartW n l → Calls Tryd.prog 38 #[s, c1, c2] w fun e w' => e = .returned (.tuple #[]) ∧ ∃ y, RunW K b W (l = Ls) x w w' y)
    (w : World) (x : Int) (hk : K x w) : Calls Tryd.prog 37 #[.int .i64 n, .func (.func 38) #[] #[c1, c2]] w fun e w' => e = .returned (.tuple #[]) ∧ ∃ y, RunW K b W True x w w' y := by
  have H := Lib.hid (ordersW_run hn hLl hLs K hK hKb c1 c2 hcl n [] (.slice none 0 0) w x hk (IsInts.nil w) (fun g h => by simp [Value.ownBlock] at h) (by simp) ⟨fun i hi => absurd hi (Nat.not_lt_zero _), fun i j hi => absurd hi (Nat.not_lt_zero _)⟩)
  clear hcl hK hk hKb hLs
  go_enter Tryd.func37, Tryd.ntmps37
  go_wp2_with (go_at_call 56; refine H.out.mono ?_; rintro e w1 ⟨rfl, y, hr⟩)
  go_end0
  exact ⟨rfl, y, hr.k, hr.g, hr.le, hr.lo, fun _ => hr.at' (List.nil_prefix)⟩

/-- Width, if its function value does what it has to. -/
theorem rwidth_of {N : Nat} {G : Nat → Nat → Bool} {W : Int} {Ls : List Int} (hn : N ≤ 100) (hLl : Ls.length = N) (hLs : PartW N Ls) (gv : Value) (w : World) (hg : HasGrid w gv N G) (hW : W ≤ (N : Int) - 1)
    (hcl : ∀ (l : List Int) (s : Value) (wx : World) (x : Int), KW w gv w.heap.size (w.heap.size + 1) x wx → IsInts wx s l → (∀ g, s.ownBlock = some g → g < wx.heap.size ∧ g ≠ w.heap.size + 1) → l.length = N → PartW N l →
      Calls Tryd.prog 38 #[s, .pointer (some ⟨w.heap.size, 0, none⟩), .pointer (some ⟨w.heap.size + 1, 0, none⟩)] wx fun e w' => e = .returned (.tuple #[]) ∧ ∃ y, RunW (KW w gv w.heap.size (w.heap.size + 1)) (w.heap.size + 1) W (l = Ls) x wx w' y) :
    Calls Tryd.prog 14 #[gv] w fun e w' => e = .returned (.int .i64 W) ∧ Below w.heap.size w w' := by
  obtain ⟨ga, gc, rfl⟩ : ∃ ga gc, gv = .slice ga N gc := by
    obtain ⟨B, a, c, b, o, R, h, -⟩ := hg
    exact ⟨a, c, h⟩
  have hw1 : IntKind.i64.wrap ((N : Int) - 1) = (N : Int) - 1 := by simp [IntKind.wrap, IntKind.bits, IntKind.signed]; omega
  have H0 := Lib.hid (KW.start w (.slice ga N gc) ((N : Int) - 1) 40)
  have HO := Lib.hid (fun wx hk => ordersTopW_run hn hLl hLs (KW w (.slice ga N gc) w.heap.size (w.heap.size + 1)) (fun _ _ _ h hb => h.below hb) (fun _ _ h => h.r.lt) _ _ hcl wx ((N : Int) - 1) hk)
  have hc0 := H0.out.ca
  clear hcl hLs hg
  have c0 : (w.alloc (Obj.cells #[.slice ga N gc] 40)).cell? ⟨w.heap.size, 0, none⟩ = some (.slice ga N gc) := by rw [World.cell?_alloc_at _ _ _ _ rfl]; rfl
  go_enter Tryd.func14, Tryd.ntmps14
  go_upto_region 2 with fail
  generalize (w.alloc (Obj.cells #[.slice ga N gc] 40)).alloc (Obj.cells #[.int .i64 ((N : Int) - 1)] 3) = w1 at *
  clear c0
  go_upto_region 3 with (go_at_call 37; refine (HO.out w1 H0.out).mono ?_; rintro e w2 ⟨rfl, y, hr⟩; have Hr := Lib.hid hr; clear hr)
  obtain rfl : y = W := by
    have h1 := Hr.out.lo hW
    have h2 := Hr.out.at' trivial
    omega
  have cy := Hr.out.k.r.cell (show 0 < 1 by omega)
  have Hb := Lib.hid Hr.out.k.hb
  simp only [ri] at cy
  clear hc0
  go_wp2
  exact bodyPost_ret (v := .int .i64 y) (by simp [results, Tryd.results14, go_sem]) rfl ⟨rfl, Hb.out⟩
end Go.Proofs.YtnmljgjegodkaaaDoor
