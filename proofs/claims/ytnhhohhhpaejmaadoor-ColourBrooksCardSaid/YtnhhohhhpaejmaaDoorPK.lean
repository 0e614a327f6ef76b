/- colour.back: colours for an order's nodes, the last one first: the walk. colour.spread: an order from a node on, among those that are open: the walk. The function literals of colour.Brooks and colour.atCut: which nodes are open. colour.atCut: what it keeps in memory. -/
import Derived.Test.YtnhhohhhpaejmaaDoorPN
import Derived.Test.YtnhhohhhpaejmaaDoorPJ
import Derived.Test.YtnhhohhhpaejmaaDoorPD
import Derived.Test.YtnhhohhhpaejmaaDoorPF
import Derived.Test.YtnhhohhhpaejmaaDoorGOwn
import Derived.Test.YtnhhohhhpaejmaaDoorPA
import Derived.Deep.LoopGhost
import Derived.Deep.Light
import Derived.BigQuiet
import Derived.Shelf.Abstract
import Derived.Maps.RangeWalk
namespace Go.Proofs.YtnhhohhhpaejmaaDoor
open Go Go.RowKit Go.Maps

/-- The colours of the first j of a row. -/
def usedB (C : Nat → Int) (L : List Nat) (j : Nat) (z : Int) : Bool := (L.take j).any fun u => decide (C u = z)
theorem usedB_zero (C : Nat → Int) (L : List Nat) (z : Int) : usedB C L 0 z = false := by simp [usedB]
theorem usedB_succ {C : Nat → Int} {L : List Nat} {j : Nat} (h : j < L.length) (z : Int) : usedB C L (j + 1) z = (usedB C L j z || decide (z = C (L.getD j 0))) := by
  unfold usedB
  rw [List.take_add_one, List.any_append, List.getD, List.getElem?_eq_getElem h]
  simp only [Option.toList_some, List.any_cons, List.any_nil, Bool.or_false, Option.getD_some, eq_comm]
theorem usedB_all {C : Nat → Int} {L : List Nat} {z : Int} : usedB C L L.length z = true ↔ ∃ u ∈ L, C u = z := by
  unfold usedB
  rw [List.take_length, List.any_eq_true]
  simp

theorem grown_of {w w' : World} (h : Below w.heap.size w w') (row : Option Nat) : w.grownBy w' row := ⟨h.os, h.tape, h.output, h.size, fun k hk _ => h.block k hk⟩
/-- One element of a row. -/
theorem NB.lookB {w : World} {B N : Nat} {V : Nat → Value} {X : Nat → List Nat} (h : NB w B N V X) {r j : Nat} (hr : r < N) (hj : j < (X r).length) :
    ∃ g c, V r = .slice (some ⟨g, 0, none⟩) (X r).length c ∧ w.cell? ⟨g, j, none⟩ = some (.int .i64 ((X r).getD j 0 : Nat)) := by
  have ho := h.owns hr
  have hx : (nvals (X r))[j]? = some (.int .i64 ((X r).getD j 0 : Nat)) := by
    simp [nvals, ints, List.getD, List.getElem?_eq_getElem hj]
  rcases ho.2 with ⟨e, h0⟩ | ⟨g, cap, cur, e, -⟩
  · omega
  · have c := ho.cells (g := g) (by rw [e]; rfl) _ _ hx
    rw [Addr.add_lit, Nat.zero_add] at c
    exact ⟨g, cap, e, c⟩

set_option maxHeartbeats 6400000 in
set_option maxRecDepth 100000 in
theorem back_any {N D : Nat} {G : Nat → Nat → Bool} {X : Nat → List Nat} {O : List Nat} {C0 : Nat → Int} (hX : ∀ v w, v < N → (w ∈ X v ↔ w < N ∧ G v w = true)) (hs : ∀ a b, a < N → b < N → G a b = G b a) (hirr : ∀ a, a < N → G a a = false)
    (hO : OrdO N G D O C0) (hN : N ≤ 100) (hD : D ≤ 100) (hl : ∀ v, v < N → (X v).length ≤ 1000) (hC : ∀ v, v < N → -1 ≤ C0 v ∧ C0 v ≤ 100) (B bC : Nat) (V : Nat → Value) (ao : Option Addr) (co : Nat) (w : World)
    (hnb : ∀ wr, w.grownBy wr (some bC) → NB wr B N V X) (ho : ∀ wr, w.grownBy wr (some bC) → IsInts wr (.slice ao O.length co) (ints O)) (hc : w.rowIs bC 3 N (ri C0)) (hbB : B ≠ bC) :
    Calls Tryd.prog 29 #[.slice (some ⟨B, 0, none⟩) N N, .slice ao O.length co, .slice (some ⟨bC, 0, none⟩) N N] w fun e w' =>
      e = .returned (.tuple #[]) ∧ ∃ C, BackI N G D O C0 C 0 ∧ w'.rowIs bC 3 N (ri C) ∧ w.grownBy w' (some bC) := by
  have hmm := @run_makeMap Tryd.prog
  have hOl : O.length ≤ 100 := Nat.le_trans (by
    have : ∀ (n : Nat) (l : List Nat), l.Nodup → (∀ v ∈ l, v < n) → l.length ≤ n := by
      intro n
      induction n with
      | zero =>
        intro l _ h
        cases l with
        | nil => exact Nat.le_refl _
        | cons a l => exact absurd (h a (by simp)) (Nat.not_lt_zero _)
      | succ n ih =>
        intro l hd h
        have h1 := ih (l.erase n) (hd.erase _) fun v hv => by
          have h2 := h v (List.mem_of_mem_erase hv)
          have h3 : v ≠ n := fun e => by rw [e] at hv; exact (List.Nodup.not_mem_erase hd) hv
          omega
        have h2 := List.length_erase (a := n) (l := l)
        split at h2 <;> omega
    exact this N O hO.nd hO.lt) hN
  have HX := Lib.hid hX; have HO := Lib.hid hO; have HNB := Lib.hid hnb; have Ho := Lib.hid ho; have Hs := Lib.hid hs; have Hirr := Lib.hid hirr; have Hl := Lib.hid hl; have HC := Lib.hid hC; have Hc0 := Lib.hid hc
  have hbC : bC < w.heap.size := hc.lt
  clear hX hO hnb ho hs hirr hl hC hc
  generalize hon : O.length = n at *
  have Hon := Lib.hid hon
  clear hon
  have hw1 : IntKind.i64.wrap ((n : Int) - 1) = (n : Int) - 1 := IntWalk.i64_in _ (by omega)
  go_enter Tryd.func29, Tryd.ntmps29
  go_wp2
  clear hw1
  go_loopg [6] n (fun g s6 wr => ∃ (i : Nat) (z : Int) (C : Nat → Int), i ≤ n ∧ i = g ∧ s6 = .int .i64 z ∧ z + 1 = (i : Int) ∧ BackI N G D O C0 C i ∧ wr.rowIs bC 3 N (ri C) ∧ w.grownBy wr (some bC))
  case atStart => exact ⟨n, (n : Int) - 1, C0, Nat.le_refl _, rfl, rfl, by omega, by rw [← Hon.out]; exact BackI.start N G D O C0, Hc0.out, World.grownBy.refl _ _⟩
  case round =>
    obtain ⟨i, z, C, hi, rfl, rfl, hz, hb, hrow, hg⟩ := hrel
    obtain ⟨wo, rfl⟩ : ∃ wo : World, wo = wr := ⟨_, rfl⟩
    have Hb := Lib.hid hb; have Hrow := Lib.hid hrow; have Hg := Lib.hid hg
    clear hb hrow hg
    cases i with
    | zero =>
      obtain rfl : z = -1 := by omega
      clear hz
      go_wp2
      go_end0
      exact ⟨rfl, C, Hb.out, Hrow.out, Hg.out⟩
    | succ k =>
      obtain rfl : z = (k : Int) := by omega
      clear hz
      obtain ⟨bo, oo, rfl, ck⟩ := ints_at' (Ho.out wo Hg.out) (Below.refl _ _) (k := k) (by rw [Hon.out]; omega)
      have hvN : O.getD k 0 < N := HO.out.lt _ (by rw [List.getD, List.getElem?_eq_getElem (show k < O.length by rw [Hon.out]; omega)]; exact List.getElem_mem _)
      have hkn : k < n := by omega
      have hNB := HNB.out wo Hg.out
      have hcB := hNB.ro.cell hvN
      obtain ⟨ag, cg, eV⟩ := hNB.form hvN
      rw [eV] at hcB
      have HNB2 := Lib.hid hNB
      have heV := Lib.hid eV
      have hlv := Hl.out _ hvN
      have hbCw : bC < wo.heap.size := Nat.lt_of_lt_of_le hbC Hg.out.size
      have hM0 := SMap.made wo
      have hb1 := below1 wo (.map #[] 0)
      have hMz : wo.heap.size < (wo.alloc (.map #[] 0)).heap.size := by rw [World.size_alloc]; omega
      have hcB1 := below_cell hb1 hcB
      have HM0 := Lib.hid hM0; have Hb1 := Lib.hid hb1
      have hwk : IntKind.i64.wrap ((k : Int) - 1) = (k : Int) - 1 := IntWalk.i64_in _ (by omega)
      have HX2 := Lib.hid (fun u => HX.out (O.getD k 0) u hvN)
      have Hnext := Lib.hid (fun (c : Nat) h1 h2 => Hb.out.next HO.out (i := k) (by rw [Hon.out]; omega) Hs.out Hirr.out (c := c) h1 h2)
      have Hlow := Lib.hid (fun (c : Nat) h1 => HO.out.low k (by rw [Hon.out]; omega) C c Hb.out.old h1)
      have Hcol := Lib.hid (show ∀ u, u < N → -1 ≤ C u ∧ C u ≤ 100 from fun u hu => by
        by_cases e : u ∈ O.drop (k + 1)
        · have := Hb.out.rng u e; omega
        · rw [Hb.out.old u e]; exact HC.out u hu)
      generalize hv : O.getD k 0 = v at *
      have Hv := Lib.hid hv
      clear hv hM0 hb1 hNB eV hcB
      go_wp2
      generalize wo.alloc (.map #[] 0) = w1 at *
      generalize hbM : wo.heap.size = bM at *
      have HbM := Lib.hid hbM
      clear hbM hcB1 ck
      go_loopg [29] (X v).length (fun g s29 wr => ∃ j n' : Nat, j ≤ (X v).length ∧ g = (X v).length - j ∧ s29 = .int .i64 (j : Int) ∧ n' ≤ j ∧ SMap wr bM n' (usedB C (X v) j) ∧ Below bM wo wr ∧ bM < wr.heap.size)
      case atStart => exact ⟨0, 0, Nat.zero_le _, rfl, rfl, Nat.le_refl _, HM0.out.congr fun z => (usedB_zero _ _ _).symm, Hb1.out, hMz⟩
      case round =>
        obtain ⟨j, n', hj, rfl, rfl, hn', hm, hbq, hqz⟩ := hrel
        have hbq2 : Below wo.heap.size wo wr := by rw [HbM.out]; exact hbq
        have Hm := Lib.hid hm; have Hbq := Lib.hid hbq; have Hbq2 := Lib.hid hbq2
        clear hm hbq hbq2
        by_cases hjl : j < (X v).length
        · obtain ⟨g, c, eV, hcj⟩ := (HNB2.out.below Hbq2.out).lookB hvN hjl
          rw [heV.out] at eV
          obtain ⟨rfl, -, rfl⟩ : ag = some ⟨g, 0, none⟩ ∧ (X v).length = (X v).length ∧ cg = c := by simpa using eV
          have huN : (X v).getD j 0 < N := ((HX2.out _).1 (by rw [List.getD, List.getElem?_eq_getElem hjl]; exact List.getElem_mem _)).1
          have hcu : wr.cell? ⟨bC, (X v).getD j 0, none⟩ = some (.int .i64 (C ((X v).getD j 0))) := (Hrow.out.of_block (Hbq2.out.block _ (by rw [HbM.out]; exact hbCw))).cell huN
          have hcr := Hcol.out _ huN
          have Hus := Lib.hid (fun z => usedB_succ (C := C) hjl z)
          clear eV
          generalize (X v).getD j 0 = u at *
          generalize C u = cu at *
          go_wp2_with (first
            | (at_mapUpdate; refine wpList_put_set rfl _ _ _ (.inl rfl) rfl Hm.out (z := cu) (by omega) (by omega) rfl rfl ?_; intro w2 hm2 hg2; have Hm2 := Lib.hid (hm2.congr fun z => (Hus.out z).symm); have Hb2 := Lib.hid (Hbq.out.grown hg2 (Nat.le_of_lt hqz) (fun g e => by cases e; exact Nat.le_refl _)); have hz2 := Nat.lt_of_lt_of_le hqz hg2.size; clear hm2 hg2))
          go_roundg ((X v).length - (j + 1))
          case measure => go_light; omega
          case rel => exact ⟨j + 1, n' + 1, by omega, rfl, by go_num, by omega, Hm2.out, Hb2.out, hz2⟩
        · obtain rfl : j = (X v).length := by omega
          have Huse := Lib.hid (fun z => show usedB C (X v) (X v).length z = true ↔ ∃ u, u < N ∧ G v u = true ∧ C u = z from usedB_all.trans ⟨fun ⟨u, h1, h2⟩ => ⟨u, ((HX2.out u).1 h1).1, ((HX2.out u).1 h1).2, h2⟩, fun ⟨u, h1, h2, h3⟩ => ⟨u, (HX2.out u).2 ⟨h1, h2⟩, h3⟩⟩)
          have Hrq := Lib.hid (Hrow.out.of_block (Hbq2.out.block _ (by rw [HbM.out]; exact hbCw)))
          generalize hUU : usedB C (X v) (X v).length = U at *
          clear hUU
          go_wp2
          go_loopg [11] D (fun g s11 wx => ∃ c : Nat, c ≤ D ∧ g = D - c ∧ s11 = .int .i64 (c : Int) ∧ wx = wr ∧ ∀ q : Nat, q < c → U q = true)
          case atStart => exact ⟨0, Nat.zero_le _, rfl, rfl, rfl, fun q hq => absurd hq (Nat.not_lt_zero _)⟩
          case round =>
            obtain ⟨c, hc, rfl, rfl, rfl, hall⟩ := hrel
            have hlk := Hm.out.lookN (v := c) (by omega)
            have hlow := Hlow.out c fun q hq => (Huse.out _).1 (hall q hq)
            cases hU : U (c : Int) with
            | true =>
              rw [hU] at hlk
              have Hall := Lib.hid (show ∀ q : Nat, q < c + 1 → U q = true from fun q hq => by
                by_cases e : q = c
                · subst e; exact hU
                · exact hall q (by omega))
              clear hall hU
              go_wp2
              go_roundg (D - (c + 1))
              case measure => go_light; omega
              case rel => exact ⟨c + 1, by omega, rfl, by go_num, rfl, Hall.out⟩
            | false =>
              rw [hU] at hlk
              have Hn := Lib.hid (Hnext.out c (fun q hq => (Huse.out _).1 (hall q hq)) (fun u hu hgu e => by
                have := (Huse.out (c : Int)).2 ⟨u, hu, hgu, e⟩
                rw [hU] at this; cases this))
              have hfz := Hrq.out.frozen v
              have hbl := Hrq.out.lt
              have hcv := Hrq.out.cell hvN
              have hset := Hrq.out.set v (.int .i64 (c : Int))
              have Hset := Lib.hid hset
              clear hall hU hset
              go_wp2
              go_roundg k
              case measure => go_light; omega
              case rel => exact ⟨k, (k : Int) - 1, _, by omega, rfl, rfl, by omega, Hn.out, Hset.out.congr fun q hq => by by_cases e : q = v <;> simp [ri, e], (Hg.out.andThen (grown_of Hbq2.out (some bC)) (fun j e => Or.inr e)).andThen (grown_set wr bC v _) (fun j e => Or.inr e)⟩

end Go.Proofs.YtnhhohhhpaejmaaDoor
namespace Go.Proofs.YtnhhohhhpaejmaaDoor
open Go Go.RowKit Go.Maps

/-- A function value tells op of nodes below N. -/
def TellsV (F : Nat) (lb : Array Value) (N : Nat) (op : Nat → Bool) (w : World) : Prop :=
  ∀ (W : World) (v : Nat), v < N → Below w.heap.size w W → Calls Tryd.prog F (#[.int .i64 (v : Int)] ++ lb) W fun e w' => e = .returned (.bool (op v)) ∧ Below W.heap.size W w'
/-- A set of nodes as a set of integers. -/
def natP (I : Nat → Bool) (z : Int) : Bool := decide (0 ≤ z) && I z.toNat
theorem natP_nat (I : Nat → Bool) (v : Nat) : natP I (v : Int) = I v := by simp [natP]
theorem natP_add (I : Nat → Bool) (v : Nat) (z : Int) : (natP I z || decide (z = (v : Int))) = natP (fun q => if q = v then true else I q) z := by
  unfold natP
  by_cases h : 0 ≤ z
  · obtain ⟨q, rfl⟩ := Int.eq_ofNat_of_zero_le h
    by_cases e : q = v
    · subst e; simp
    · have : ¬ (q : Int) = (v : Int) := by omega
      simp [e, this]
  · have : ¬ z = (v : Int) := by omega
    simp [h, this]
theorem owns_low {w : World} {base b' : Nat} {e : TypeId} {size : Nat} {v : Value} {n : Nat} {xs : List Value} (h : w.ownsRow base e size v n xs) (hb : b' ≤ base) : w.ownsRow b' e size v n xs := by
  obtain ⟨h1, h2⟩ := h
  refine ⟨h1, ?_⟩
  rcases h2 with h2 | ⟨g, cap, cur, e, hg, h3⟩
  · exact Or.inl h2
  · exact Or.inr ⟨g, cap, cur, e, Nat.le_trans hb hg, h3⟩
theorem spr_len {N : Nat} {G : Nat → Nat → Bool} {op : Nat → Bool} {f : Nat} {O : List Nat} {I : Nat → Bool} {i : Nat} (h : SprI N G op f O I i) : O.length ≤ N := by
  have : ∀ (n : Nat) (l : List Nat), l.Nodup → (∀ v ∈ l, v < n) → l.length ≤ n := by
    intro n
    induction n with
    | zero =>
      intro l _ h
      cases l with
      | nil => exact Nat.le_refl _
      | cons a l => exact absurd (h a (by simp)) (Nat.not_lt_zero _)
    | succ n ih =>
      intro l hd h
      have h1 := ih (l.erase n) (hd.erase _) fun v hv => by
        have h2 := h v (List.mem_of_mem_erase hv)
        have h3 : v ≠ n := fun e => by rw [e] at hv; exact (List.Nodup.not_mem_erase hd) hv
        omega
      have h2 := List.length_erase (a := n) (l := l)
      split at h2 <;> omega
  exact this N O h.nd h.lt
/-- Under way. -/
structure SpSt (w wr : World) (bM n : Nat) (v : Value) (O : List Nat) (I : Nat → Bool) : Prop where
  hb : Below w.heap.size w wr
  bm : w.heap.size ≤ bM
  m : SMap wr bM n (natP I)
  own : wr.ownsRow (bM + 1) 3 1 v O.length (nvals O)
theorem SpSt.below {w wr w' : World} {bM n : Nat} {v : Value} {O : List Nat} {I : Nat → Bool} (h : SpSt w wr bM n v O I) (hb : Below wr.heap.size wr w') : SpSt w w' bM n v O I :=
  ⟨h.hb.trans (hb.mono h.hb.size), h.bm, h.m.below hb, ownsRow_below h.own hb (Nat.le_refl _)⟩
theorem SpSt.put {w wr w' : World} {bM n : Nat} {v : Value} {O : List Nat} {I J : Nat → Bool} (h : SpSt w wr bM n v O I) (hm : SMap w' bM (n + 1) (natP J)) (hg : wr.grownBy w' (some bM)) : SpSt w w' bM (n + 1) v O J :=
  ⟨h.hb.grown hg h.hb.size (fun g e => by have := Option.some.inj e; have := h.bm; omega), h.bm, hm, h.own.kept hg (by
    cases hv : v.ownBlock with
    | none => exact Or.inl rfl
    | some g => exact Or.inr fun e => by have h1 := (h.own.lt g hv).1; have h2 := Option.some.inj e; omega)⟩
theorem SpSt.push {w wr w' : World} {bM n : Nat} {v v' : Value} {O O' : List Nat} {I : Nat → Bool} (h : SpSt w wr bM n v O I) (ho : w'.ownsRow (bM + 1) 3 1 v' O'.length (nvals O')) (hg : wr.grownBy w' v.ownBlock) : SpSt w w' bM n v' O' I :=
  ⟨h.hb.grown hg h.hb.size (fun g e => by have := (h.own.lt g e).1; have := h.bm; omega), h.bm, h.m.kept (hg.block _ h.m.lt (fun e => by have := (h.own.lt _ e.symm).1; omega)), ho⟩

set_option maxHeartbeats 6400000 in
set_option maxRecDepth 100000 in
theorem spread_any {N : Nat} {G : Nat → Nat → Bool} {X : Nat → List Nat} (hX : ∀ v w, v < N → (w ∈ X v ↔ w < N ∧ G v w = true)) (hN : N ≤ 100) (hl : ∀ v, v < N → (X v).length ≤ 1000) (B : Nat) (V : Nat → Value) {f : Nat} (hf : f < N) (op : Nat → Bool) (F : Nat) (lb : Array Value) (w : World)
    (eg : ∀ args w, (callFunc F args).run Tryd.prog w = .ok (.enter F args) w) (hT : TellsV F lb N op w) (hnb : NB w B N V X) :
    Calls Tryd.prog 30 #[.slice (some ⟨B, 0, none⟩) N N, .int .i64 (f : Int), .func (.func F) #[] lb] w fun e w' =>
      ∃ v O I, e = .returned v ∧ w'.ownsRow w.heap.size 3 1 v O.length (nvals O) ∧ SprI N G op f O I O.length ∧ Below w.heap.size w w' := by
  have hmm := @run_makeMap Tryd.prog
  have HL := Lib.hid hl; have HX := Lib.hid hX; have HNB := Lib.hid hnb; have HT := Lib.hid hT
  obtain ⟨w2, hput, hp2, hg2⟩ := (SMap.made w).put (z := (f : Int)) (by omega) (by omega)
  have hz1 : (w.alloc (.map #[] 0)).heap.size = w.heap.size + 1 := World.size_alloc _ _
  have hz2 : w.heap.size + 1 ≤ w2.heap.size := by rw [← hz1]; exact hg2.size
  have hb2 : Below w.heap.size w w2 := (below1 w (.map #[] 0)).grown hg2 (by omega) (fun g e => by have := Option.some.inj e; omega)
  have hb3 := below1 w2 (Obj.cells #[.int .i64 (f : Int)] 3)
  have hp3 := (hp2.below hb3).congr (Q := natP (fun q => if q = f then true else false)) fun z => by
    have := natP_add (fun _ => false) f z
    rw [← this]; simp [natP]
  have ho3 : (w2.alloc (Obj.cells #[.int .i64 (f : Int)] 3)).ownsRow (w.heap.size + 1) 3 1 (.slice (some ⟨w2.heap.size, 0, none⟩) 1 1) [f].length (nvals [f]) :=
    owns_low (World.ownsRow_lit (base := w2.heap.size) (e := 3) (size := 1) w2 #[.int .i64 (f : Int)] 1 (Nat.le_refl _) (by decide) rfl) hz2
  have St := Lib.hid (show SpSt w (w2.alloc (Obj.cells #[.int .i64 (f : Int)] 3)) w.heap.size (0 + 1) (.slice (some ⟨w2.heap.size, 0, none⟩) 1 1) [f] (fun q => if q = f then true else false) from ⟨hb2.trans (hb3.mono (by omega)), Nat.le_refl _, hp3, ho3⟩)
  have Hf := Lib.hid hf
  clear hl hX hnb hT hp2 hg2 hb2 hb3 hp3 ho3 hz1 hf
  go_enter Tryd.func30, Tryd.ntmps30
  go_upto_region 3 with fail
  clear hput hmm hz2
  generalize w2.alloc (Obj.cells #[.int .i64 (f : Int)] 3) = w3 at *
  generalize hbM : w.heap.size = bM at *
  have HbM := Lib.hid hbM
  clear hbM
  go_wp2
  go_loopg [8, 9] N (fun g s8 s9 wr => ∃ (i : Nat) (O : List Nat) (I : Nat → Bool) (n : Nat), i ≤ O.length ∧ g = N - i ∧ s9 = .int .i64 (i : Int) ∧ SprI N G op f O I i ∧ n ≤ O.length ∧ SpSt w wr bM n s8 O I)
  case atStart => exact ⟨0, [f], _, 0 + 1, Nat.zero_le _, rfl, rfl, SprI.start Hf.out, by simp, St.out⟩
  case round =>
    obtain ⟨i, O, I, n, hi, rfl, rfl, hs, hn, hst⟩ := hrel
    obtain ⟨wo, rfl⟩ : ∃ wo : World, wo = wr := ⟨_, rfl⟩
    obtain ⟨a8, c8, rfl⟩ := ownsRow_form hst.own
    have hlen := spr_len hs
    have Hs := Lib.hid hs; have Hst := Lib.hid hst
    clear hs hst
    generalize hOn : O.length = m at *
    have HOn := Lib.hid hOn
    clear hOn
    by_cases him : i < m
    · have hx := Hs.out.getN (k := i) (by rw [HOn.out]; exact him)
      obtain ⟨g8, rfl⟩ : ∃ g8, a8 = some ⟨g8, 0, none⟩ := by
        rcases Hst.out.own.2 with ⟨e, e0⟩ | ⟨g, cap', cur, e, -⟩
        · have := HOn.out; omega
        · simp only [Value.slice.injEq] at e; exact ⟨g, e.1⟩
      have hci : wo.cell? ⟨g8, i, none⟩ = some (.int .i64 ((O.getD i 0 : Nat) : Int)) := by
        have c := Hst.out.own.cells (g := g8) rfl i (.int .i64 ((O.getD i 0 : Nat) : Int)) (by simp [nvals, ints, List.getD, List.getElem?_eq_getElem (show i < O.length by rw [HOn.out]; exact him)])
        rw [Addr.add_lit, Nat.zero_add] at c
        exact c
      have hbw := Hst.out.hb
      have hNB := HNB.out.below hbw
      have hcB := hNB.ro.cell hx
      obtain ⟨ag, cg, eV⟩ := hNB.form hx
      rw [eV] at hcB
      have HNB2 := Lib.hid hNB; have heV := Lib.hid eV
      have HXx := Lib.hid (fun u => HX.out (O.getD i 0) u hx)
      have hlx := HL.out _ hx
      generalize hxx : O.getD i 0 = x at *
      have Hxx := Lib.hid hxx
      clear hxx hNB eV hbw
      go_wp2
      clear hcB hci
      go_loopg [8, 31] (X x).length (fun g s8 s31 wq => ∃ (j : Nat) (O2 : List Nat) (I2 : Nat → Bool) (n2 : Nat), j ≤ (X x).length ∧ g = (X x).length - j ∧ s31 = .int .i64 (j : Int) ∧ SprI N G op f O2 I2 i ∧ i < O2.length ∧ O2.getD i 0 = x ∧ n2 ≤ O2.length ∧ SpSt w wq bM n2 s8 O2 I2 ∧ ∀ k, k < j → op ((X x).getD k 0) = true → I2 ((X x).getD k 0) = true)
      case atStart => exact ⟨0, O, I, n, Nat.zero_le _, rfl, rfl, Hs.out, by rw [HOn.out]; exact him, Hxx.out, by rw [HOn.out]; exact hn, Hst.out, fun k hk => absurd hk (Nat.not_lt_zero _)⟩
      case round =>
        obtain ⟨j, O2, I2, n2, hj, rfl, rfl, hs2, hi2, hx2, hn2, hst2, hall⟩ := hrel
        obtain ⟨a9, c9, rfl⟩ := ownsRow_form hst2.own
        have hlen2 := spr_len hs2
        have Hs2 := Lib.hid hs2; have Hst2 := Lib.hid hst2; have Hall := Lib.hid hall; have Hi2 := Lib.hid hi2; have Hx2 := Lib.hid hx2
        clear hs2 hst2 hall hi2 hx2
        by_cases hjl : j < (X x).length
        · obtain ⟨g, c, eV, hcj⟩ := (HNB.out.below Hst2.out.hb).lookB hx hjl
          rw [heV.out] at eV
          obtain ⟨rfl, rfl⟩ : ag = some ⟨g, 0, none⟩ ∧ cg = c := by simpa using eV
          have hu := (HXx.out _).1 (show (X x).getD j 0 ∈ X x by rw [List.getD, List.getElem?_eq_getElem hjl]; exact List.getElem_mem _)
          obtain ⟨huN, hgu⟩ := hu
          have hlk := Hst2.out.m.lookN (v := (X x).getD j 0) (by omega)
          rw [natP_nat] at hlk
          have Hju := Lib.hid (show ∀ (I3 : Nat → Bool), (∀ q, I2 q = true → I3 q = true) → (op ((X x).getD j 0) = true → I3 ((X x).getD j 0) = true) → ∀ k, k < j + 1 → op ((X x).getD k 0) = true → I3 ((X x).getD k 0) = true from fun I3 h1 h2 k hk h3 => by
            by_cases e : k = j
            · subst e; exact h2 h3
            · exact h1 _ (Hall.out k (by omega) h3))
          have Hgu := Lib.hid hgu
          clear eV hgu Hall
          generalize (X x).getD j 0 = u at *
          cases hI : I2 u with
          | true =>
            rw [hI] at hlk
            have HI := Lib.hid hI
            clear hI
            go_wp2
            go_roundg ((X x).length - (j + 1))
            case measure => go_light; omega
            case rel => exact ⟨j + 1, O2, I2, n2, by omega, rfl, by go_num, Hs2.out, Hi2.out, Hx2.out, hn2, Hst2.out, Hju.out I2 (fun _ h => h) (fun _ => HI.out)⟩
          | false =>
            rw [hI] at hlk
            have HI := Lib.hid hI
            clear hI
            have hcall := HT.out wr u huN Hst2.out.hb
            cases hop : op u with
            | false =>
              rw [hop] at hcall
              have Hcall := Lib.hid hcall; have Hop := Lib.hid hop
              clear hcall hop
              go_wp2_with (go_at_fn F; refine Hcall.out.mono ?_; rintro e W' ⟨rfl, hbW⟩; have S3 := Lib.hid (Hst2.out.below hbW); clear hbW)
              go_roundg ((X x).length - (j + 1))
              case measure => go_light; omega
              case rel => exact ⟨j + 1, O2, I2, n2, by omega, rfl, by go_num, Hs2.out, Hi2.out, Hx2.out, hn2, S3.out, Hju.out I2 (fun _ h => h) (fun h => by rw [Hop.out] at h; cases h)⟩
            | true =>
              rw [hop] at hcall
              have Hcall := Lib.hid hcall; have Hop := Lib.hid hop
              clear hcall hop
              generalize hO2 : O2.length = m2 at *
              have HO2 := Lib.hid hO2
              clear hO2
              go_upto_region 10 with (go_at_fn F; refine Hcall.out.mono ?_; rintro e W' ⟨rfl, hbW⟩; have S3 := Lib.hid (Hst2.out.below hbW); clear hbW)
              clear hlk hcj
              go_upto_region 11 with (at_mapUpdate; refine wpList_put_set rfl _ _ _ (.inl rfl) rfl S3.out.m (z := (u : Int)) (by omega) (by omega) rfl rfl ?_; intro w5 hm5 hg5; have S5 := Lib.hid (S3.out.put (hm5.congr (Q := natP (fun q => if q = u then true else I2 q)) fun z => natP_add I2 u z) hg5); clear hm5 hg5)
              have Ho5 := Lib.hid (S5.out.below (below1 w5 (Obj.cells #[.int .i64 (u : Int)] 3)))
              have hsz5 : bM + 1 ≤ (w5.alloc (Obj.cells #[.int .i64 (u : Int)] 3)).heap.size := by rw [World.size_alloc]; have := S5.out.m.lt; omega
              go_wp2_with (at_builtin; refine wpList_append_has rfl (.tmp 46) (.tmp 48) 29 rfl (bM + 1) 3 (.int .i64 0) 8 Tryd.underlying29 info3 rfl (.slice a9 m2 c9) m2 (nvals O2) rfl (by rw [← HO2.out]; have := Ho5.out.own; rw [HO2.out] at this ⊢; exact this) _ 1 (nvals [u]) rfl (HasCells.one w5 (.int .i64 (u : Int)) 3 rfl) (by omega) (by omega) hsz5 ?_; intro a6 c6 w6 ho6 hg6; have S6 := Lib.hid (Ho5.out.push (O' := O2 ++ [u]) (by rw [List.length_append, List.length_singleton, HO2.out]; simpa [nvals, ints] using ho6) hg6); clear ho6 hg6)
              go_roundg ((X x).length - (j + 1))
              case measure => go_light; omega
              case rel =>
                have hi2 := Hi2.out
                refine ⟨j + 1, O2 ++ [u], fun q => if q = u then true else I2 q, n2 + 1, by omega, rfl, by go_num, Hs2.out.add (by rw [HO2.out]; exact hi2) huN (by rw [Hx2.out]; exact Hgu.out) HI.out Hop.out, by rw [List.length_append, List.length_singleton, HO2.out]; omega, by rw [getD_app (by rw [HO2.out]; exact hi2)]; exact Hx2.out, by rw [List.length_append, List.length_singleton, HO2.out]; omega, S6.out, Hju.out (fun q => if q = u then true else I2 q) (fun q h => ?_) (fun _ => ?_)⟩
                · by_cases e : q = u <;> simp [e, h]
                · simp
        · obtain rfl : j = (X x).length := by omega
          go_wp2
          go_roundg (N - (i + 1))
          case measure => go_light; omega
          case rel =>
            refine ⟨i + 1, O2, I2, n2, Hi2.out, rfl, by go_num, Hs2.out.next fun u hu hgu hou => ?_, hn2, Hst2.out⟩
            rw [Hx2.out] at hgu
            obtain ⟨k, hk, ek⟩ := List.getElem_of_mem ((HXx.out u).2 ⟨hu, hgu⟩)
            have e : (X x).getD k 0 = u := by rw [List.getD, List.getElem?_eq_getElem hk, Option.getD_some, ek]
            have := Hall.out k hk
            rw [e] at this
            exact this hou
    · obtain rfl : i = m := by omega
      go_wp2
      go_ret
      refine ⟨_, O, I, rfl, ?_, ?_, Hst.out.hb⟩
      · have h := owns_low Hst.out.own (show w.heap.size ≤ bM + 1 by rw [HbM.out]; omega)
        rw [HOn.out] at h ⊢; exact h
      · have h := Hs.out
        rw [HOn.out]; exact h

end Go.Proofs.YtnhhohhhpaejmaaDoor
namespace Go.Proofs.YtnhhohhhpaejmaaDoor
open Go Go.RowKit Go.Maps

set_option maxRecDepth 100000 in
theorem openAll_tells (N : Nat) (w : World) : TellsV 27 #[] N (fun _ => true) w := fun W v _ _ => by
  show Calls Tryd.prog 27 #[.int .i64 (v : Int)] W _
  go_enter Tryd.func27, Tryd.ntmps27
  go_wp2
  go_ret
  exact ⟨rfl, Below.refl _ _⟩
set_option maxRecDepth 100000 in
theorem openCut_tells {N x : Nat} {w : World} {b : Nat} (hc : w.cell? ⟨b, 0, none⟩ = some (.int .i64 (x : Int))) : TellsV 47 #[.pointer (some ⟨b, 0, none⟩)] N (fun q => !decide (q = x)) w := fun W v _ hb => by
  have h1 := below_cell hb hc
  show Calls Tryd.prog 47 #[.int .i64 (v : Int), .pointer (some ⟨b, 0, none⟩)] W fun e w' => e = .returned (.bool (!decide (v = x))) ∧ Below W.heap.size W w'
  clear hb hc
  cases hd : (!decide (v = x)) with
  | true =>
    have q : ((v : Int) != (x : Int)) = true := by
      have : ¬ v = x := by simpa using hd
      simp; omega
    clear hd
    go_enter Tryd.func47, Tryd.ntmps47
    go_wp2
    go_ret
    exact ⟨rfl, Below.refl _ _⟩
  | false =>
    have e : v = x := by simpa using hd
    subst e
    clear hd
    go_enter Tryd.func47, Tryd.ntmps47
    go_wp2
    go_ret
    exact ⟨rfl, Below.refl _ _⟩
set_option maxRecDepth 100000 in
theorem openIn_tells {N : Nat} {w : World} {b bM n : Nat} {I : Nat → Bool} (hN : N ≤ 100) (hc : w.cell? ⟨b, 0, none⟩ = some (.map (some bM))) (hm : SMap w bM n (natP I)) : TellsV 48 #[.pointer (some ⟨b, 0, none⟩)] N I w := fun W v hv hb => by
  have h1 := below_cell hb hc
  have h2 := (hm.below hb).lookN (v := v) (by omega)
  rw [natP_nat] at h2
  show Calls Tryd.prog 48 #[.int .i64 (v : Int), .pointer (some ⟨b, 0, none⟩)] W _
  clear hb hc hm
  generalize I v = r at *
  go_enter Tryd.func48, Tryd.ntmps48
  go_wp2
  go_ret
  exact ⟨rfl, Below.refl _ _⟩
set_option maxRecDepth 100000 in
theorem openTwo_tells {N x y : Nat} {w : World} {b c : Nat} (hx : w.cell? ⟨b, 0, none⟩ = some (.int .i64 (x : Int))) (hy : w.cell? ⟨c, 0, none⟩ = some (.int .i64 (y : Int))) :
    TellsV 33 #[.pointer (some ⟨b, 0, none⟩), .pointer (some ⟨c, 0, none⟩)] N (fun q => !decide (q = x) && !decide (q = y)) w := fun W v _ hb => by
  have h1 := below_cell hb hx
  have h2 := below_cell hb hy
  show Calls Tryd.prog 33 #[.int .i64 (v : Int), .pointer (some ⟨b, 0, none⟩), .pointer (some ⟨c, 0, none⟩)] W fun e w' => e = .returned (.bool (!decide (v = x) && !decide (v = y))) ∧ Below W.heap.size W w'
  clear hb hx hy
  by_cases e1 : v = x
  · subst e1
    rw [show (!decide (v = v) && !decide (v = y)) = false by simp]
    go_enter Tryd.func33, Tryd.ntmps33
    go_wp2
    go_ret
    exact ⟨rfl, Below.refl _ _⟩
  · have q1 : ((v : Int) != (x : Int)) = true := by simp; omega
    by_cases e2 : v = y
    · subst e2
      rw [show (!decide (v = x) && !decide (v = v)) = false by simp]
      clear e1
      go_enter Tryd.func33, Tryd.ntmps33
      go_wp2
      go_ret
      exact ⟨rfl, Below.refl _ _⟩
    · have q2 : ((v : Int) != (y : Int)) = true := by simp; omega
      rw [show (!decide (v = x) && !decide (v = y)) = true by simp [e1, e2]]
      clear e1 e2
      go_enter Tryd.func33, Tryd.ntmps33
      go_wp2
      go_ret
      exact ⟨rfl, Below.refl _ _⟩

end Go.Proofs.YtnhhohhhpaejmaaDoor
namespace Go.Proofs.YtnhhohhhpaejmaaDoor
open Go Go.RowKit Go.Maps

theorem wpList_next_ib {w : World} {ops : Array Oper} {rest : List Oper} {o : Oper} {a : Act} {Q : Exit → Act → World → Prop} (hg : o.guard = none) (it : Operand) (hop : o.op = Op.next it false) (b r n : Nat) (D : DataW Unit) (left : Lit → Bool) (cnt : Nat)
    (hit : a.eval it = .pointer (some ⟨r, 0, none⟩)) (h : w.ranges Tryd.prog 3 (plainElem Tryd.prog 4) b r n D left cnt)
    (hDone : cnt = 0 → (∀ kl, left kl = false) → wpList Tryd.prog ops Q rest (a.put o.dst (.tuple #[.bool false])) w)
    (hMore : ∀ (x : Int) (c : Value) (w' : World) (cnt' : Nat), left (.int .i64 x) = true → w'.ranges Tryd.prog 3 (plainElem Tryd.prog 4) b r n D (fun z => left z && !z.sameKey (.int .i64 x)) cnt' → cnt' < cnt →
      w.grownBy w' (some r) → w'.heap.size = w.heap.size → (Instr.entry (.pointer (some ⟨r, 0, none⟩))).run Tryd.prog w' = .ok (.tuple #[.int .i64 x, c]) w' → wpList Tryd.prog ops Q rest (a.put o.dst (.tuple #[.bool true, .int .i64 x, c])) w') :
    wpList Tryd.prog ops Q (o :: rest) a w :=
  wpList_next_ranges w hg it hop 3 intKeyedB (plainElem Tryd.prog 4) (Value.int .i64) Value.bool (fun key kl hkey => by obtain ⟨x, rfl, _⟩ := Maps.keyOf_int_inv Tryd.underlying3 hkey; exact ⟨x, rfl⟩) (fun v y hv => by obtain ⟨c, rfl, _⟩ := bool_inv hv; exact ⟨c, rfl⟩)
    b r n D left cnt hit h hDone (fun x c kl y w' cnt' hkey hlk hv hat hrg hlt hgr hsz hen => by
      obtain ⟨x', ex, rfl, hwx⟩ := Maps.keyOf_int_inv Tryd.underlying3 hkey
      have e : x = x' := by simpa using ex
      subst e
      exact hMore x (.bool c) w' cnt' hlk hrg hlt hgr hsz hen)

/-- What stands at the head of each round. -/
structure CtS (w wr : World) (N bC bX bD n x : Nat) (dn : Nat → Bool) (K : Nat → Int) : Prop where
  g : w.grownBy wr (some bC)
  cx : wr.cell? ⟨bX, 0, none⟩ = some (.int .i64 (x : Int))
  md : SMap wr bD n (natP dn)
  row : wr.rowIs bC 3 N (ri K)
  lo : w.heap.size ≤ bX ∧ w.heap.size ≤ bD ∧ bX ≠ bD ∧ bC < w.heap.size
section
variable {w wr w' : World} {N bC bX bD n x : Nat} {dn dn' : Nat → Bool} {K : Nat → Int}
theorem CtS.below (h : CtS w wr N bC bX bD n x dn K) (hb : Below wr.heap.size wr w') : CtS w w' N bC bX bD n x dn K :=
  ⟨h.g.andThen (grown_of hb (some bC)) (fun j e => Or.inr e), below_cell hb h.cx, h.md.below hb, h.row.of_block (hb.block _ h.row.lt), h.lo⟩
theorem CtS.putD (h : CtS w wr N bC bX bD n x dn K) (hm : SMap w' bD (n + 1) (natP dn')) (hg : wr.grownBy w' (some bD)) : CtS w w' N bC bX bD (n + 1) x dn' K := by
  obtain ⟨l1, l2, l3, l4⟩ := h.lo
  exact ⟨h.g.andThen hg (fun j e => Or.inl (by have := Option.some.inj e; omega)), (World.cell?_of_block (a := ⟨bX, 0, none⟩) (hg.block _ (World.block_lt_of_cell? _ _ h.cx) (fun e => l3 (Option.some.inj e)))).trans h.cx, hm, h.row.of_block (hg.block _ h.row.lt (fun e => by have := Option.some.inj e; omega)), h.lo⟩
theorem CtS.other (h : CtS w wr N bC bX bD n x dn K) {b : Nat} (hg : wr.grownBy w' (some b)) (h1 : w.heap.size ≤ b) (h2 : b ≠ bX) (h3 : b ≠ bD) : CtS w w' N bC bX bD n x dn K := by
  obtain ⟨l1, l2, l3, l4⟩ := h.lo
  exact ⟨h.g.andThen hg (fun j e => Or.inl (by have := Option.some.inj e; omega)), (World.cell?_of_block (a := ⟨bX, 0, none⟩) (hg.block _ (World.block_lt_of_cell? _ _ h.cx) (fun e => h2 (Option.some.inj e).symm))).trans h.cx, h.md.kept (hg.block _ h.md.lt (fun e => h3 (Option.some.inj e).symm)), h.row.of_block (hg.block _ h.row.lt (fun e => by have := Option.some.inj e; omega)), h.lo⟩
theorem CtS.set (h : CtS w wr N bC bX bD n x dn K) (k : Nat) (z : Int) : CtS w (wr.setCell ⟨bC, k, none⟩ (.int .i64 z)) N bC bX bD n x dn (fun q => if q = k then z else K q) := by
  obtain ⟨l1, l2, l3, l4⟩ := h.lo
  have hg := grown_set wr bC k (.int .i64 z)
  exact ⟨h.g.andThen hg (fun j e => Or.inr e), (World.cell?_of_block (a := ⟨bX, 0, none⟩) (hg.block _ (World.block_lt_of_cell? _ _ h.cx) (fun e => by have e2 : bX = bC := Option.some.inj e; omega))).trans h.cx, h.md.kept (hg.block _ h.md.lt (fun e => by have := Option.some.inj e; omega)), (h.row.set k _).congr fun q _ => by by_cases e : q = k <;> simp [ri, e], h.lo⟩
theorem CtS.congr (h : CtS w wr N bC bX bD n x dn K) {K' : Nat → Int} (e : ∀ q, q < N → K q = K' q) : CtS w wr N bC bX bD n x dn K' := ⟨h.g, h.cx, h.md, row_ri h.row e, h.lo⟩
theorem CtS.congrD (h : CtS w wr N bC bX bD n x dn K) (e : ∀ q, dn q = dn' q) : CtS w wr N bC bX bD n x dn' K := by
  have : dn = dn' := funext e
  rw [← this]; exact h
end
/-- What stands within a round: the part's set, and the variable that holds it. -/
structure CtR (w wr : World) (N bC bX bD n x : Nat) (dn : Nat → Bool) (K : Nat → Int) (bI bB m : Nat) (I : Nat → Bool) : Prop where
  s : CtS w wr N bC bX bD n x dn K
  mi : SMap wr bI m (natP I)
  cb : wr.cell? ⟨bB, 0, none⟩ = some (.map (some bI))
  lo : w.heap.size ≤ bI ∧ w.heap.size ≤ bB ∧ bI ≠ bX ∧ bI ≠ bD ∧ bI ≠ bB ∧ bB ≠ bX ∧ bB ≠ bD
section
variable {w wr w' : World} {N bC bX bD n x bI bB m : Nat} {dn dn' I I' : Nat → Bool} {K : Nat → Int}
theorem CtR.below (h : CtR w wr N bC bX bD n x dn K bI bB m I) (hb : Below wr.heap.size wr w') : CtR w w' N bC bX bD n x dn K bI bB m I := ⟨h.s.below hb, h.mi.below hb, below_cell hb h.cb, h.lo⟩
theorem CtR.putI (h : CtR w wr N bC bX bD n x dn K bI bB m I) (hm : SMap w' bI (m + 1) (natP I')) (hg : wr.grownBy w' (some bI)) : CtR w w' N bC bX bD n x dn K bI bB (m + 1) I' := by
  obtain ⟨l1, l2, l3, l4, l5, l6, l7⟩ := h.lo
  exact ⟨h.s.other hg l1 l3 l4, hm, (World.cell?_of_block (a := ⟨bB, 0, none⟩) (hg.block _ (World.block_lt_of_cell? _ _ h.cb) (fun e => l5 (Option.some.inj e).symm))).trans h.cb, h.lo⟩
theorem CtR.putD (h : CtR w wr N bC bX bD n x dn K bI bB m I) (hm : SMap w' bD (n + 1) (natP dn')) (hg : wr.grownBy w' (some bD)) : CtR w w' N bC bX bD (n + 1) x dn' K bI bB m I := by
  obtain ⟨l1, l2, l3, l4, l5, l6, l7⟩ := h.lo
  exact ⟨h.s.putD hm hg, h.mi.kept (hg.block _ h.mi.lt (fun e => l4 (Option.some.inj e))), (World.cell?_of_block (a := ⟨bB, 0, none⟩) (hg.block _ (World.block_lt_of_cell? _ _ h.cb) (fun e => l7 (Option.some.inj e)))).trans h.cb, h.lo⟩
theorem CtR.other (h : CtR w wr N bC bX bD n x dn K bI bB m I) {b : Nat} (hg : wr.grownBy w' (some b)) (h1 : w.heap.size ≤ b) (h2 : b ≠ bX ∧ b ≠ bD ∧ b ≠ bI ∧ b ≠ bB) : CtR w w' N bC bX bD n x dn K bI bB m I :=
  ⟨h.s.other hg h1 h2.1 h2.2.1, h.mi.kept (hg.block _ h.mi.lt (fun e => h2.2.2.1 (Option.some.inj e).symm)), (World.cell?_of_block (a := ⟨bB, 0, none⟩) (hg.block _ (World.block_lt_of_cell? _ _ h.cb) (fun e => h2.2.2.2 (Option.some.inj e).symm))).trans h.cb, h.lo⟩
end
theorem own_keep {w w' : World} {base b : Nat} {e : TypeId} {size : Nat} {v : Value} {n : Nat} {xs : List Value} (h : w.ownsRow base e size v n xs) (hg : w.grownBy w' (some b)) (hb : b < base) : w'.ownsRow base e size v n xs := h.kept hg (by
  cases hv : v.ownBlock with
  | none => exact Or.inl rfl
  | some g => exact Or.inr fun e => by have h1 := (h.lt g hv).1; have h2 := Option.some.inj e; omega)
/-- The part: the cut, and the first j of an order. -/
def inJ (x : Nat) (O : List Nat) (j q : Nat) : Bool := decide (q = x) || decide (q ∈ O.take j)
def dnJ (dn : Nat → Bool) (O : List Nat) (j q : Nat) : Bool := dn q || decide (q ∈ O.take j)
theorem mem_take_succA {O : List Nat} {j : Nat} (h : j < O.length) (q : Nat) : q ∈ O.take (j + 1) ↔ q ∈ O.take j ∨ q = O.getD j 0 := by
  rw [List.take_add_one, List.mem_append, List.getD, List.getElem?_eq_getElem h]; simp
theorem inJ_succ {x : Nat} {O : List Nat} {j : Nat} (h : j < O.length) : inJ x O (j + 1) = fun q => if q = O.getD j 0 then true else inJ x O j q := by
  funext q
  unfold inJ
  by_cases e : q = O.getD j 0
  · rw [if_pos e]; simp [(mem_take_succA h q).2 (.inr e)]
  · rw [if_neg e]
    have : (q ∈ O.take (j + 1)) ↔ q ∈ O.take j := (mem_take_succA h q).trans ⟨fun k => k.resolve_right e, .inl⟩
    simp [this]
theorem dnJ_succ {dn : Nat → Bool} {O : List Nat} {j : Nat} (h : j < O.length) : dnJ dn O (j + 1) = fun q => if q = O.getD j 0 then true else dnJ dn O j q := by
  funext q
  unfold dnJ
  by_cases e : q = O.getD j 0
  · rw [if_pos e]; simp [(mem_take_succA h q).2 (.inr e)]
  · rw [if_neg e]
    have : (q ∈ O.take (j + 1)) ↔ q ∈ O.take j := (mem_take_succA h q).trans ⟨fun k => k.resolve_right e, .inl⟩
    simp [this]
/-- The colours under way, where J is through. -/
def swK (K C : Nat → Int) (c : Int) (J : Nat → Bool) (q : Nat) : Int := if J q = true then swapC c (C q) else K q
theorem inJ_all {x : Nat} {O : List Nat} {n : Nat} (h : O.length = n) (q : Nat) : inJ x O n q = true ↔ q = x ∨ q ∈ O := by
  unfold inJ; rw [← h, List.take_length]; simp
theorem dnJ_all {dn : Nat → Bool} {O : List Nat} {n : Nat} (h : O.length = n) (q : Nat) : dnJ dn O n q = true ↔ dn q = true ∨ q ∈ O := by
  unfold dnJ; rw [← h, List.take_length]; simp
theorem left_natP {N : Nat} {I : Nat → Bool} {D : DataW Unit} (hN : N ≤ 100) (hI : ∀ q, I q = true → q < N) (h : ∀ l, Maps.has D l = true ↔ ∃ z : Int, (-1 ≤ z ∧ z ≤ 1000) ∧ natP I z = true ∧ l = .int .i64 z) : LeftIs N I (fun _ => false) (Maps.has D) := fun l => by
  rw [h l]
  constructor
  · rintro ⟨z, hz, h1, rfl⟩
    simp only [natP, Bool.and_eq_true, decide_eq_true_eq] at h1
    obtain ⟨q, rfl⟩ := Int.eq_ofNat_of_zero_le h1.1
    have h2 : I q = true := by simpa using h1.2
    exact ⟨q, hI q h2, h2, rfl, rfl⟩
  · rintro ⟨q, hq, h1, -, rfl⟩
    exact ⟨(q : Int), by omega, by rw [natP_nat]; exact h1, rfl⟩
/-- A part's set gone through: J is through. -/
structure AtRg (w wz : World) (N bC bX bD n x bI bO R m : Nat) (dn : Nat → Bool) (K C : Nat → Int) (c : Int) (I : Nat → Bool) (D : DataW Unit) (left : Lit → Bool) (cnt : Nat) (J : Nat → Bool) : Prop where
  rg : wz.ranges Tryd.prog 3 (plainElem Tryd.prog 4) bI R m D left cnt
  left : LeftIs N I J left
  sub : ∀ q, J q = true → I q = true
  st : CtS w wz N bC bX bD n x dn (swK K C c J)
  own : wz.rowIs bO 3 N (ri C)
theorem swK_add {K C : Nat → Int} {c : Int} {J : Nat → Bool} {v : Nat} (q : Nat) : (if q = v then swapC c (C v) else swK K C c J q) = swK K C c (fun u => J u || decide (v = u)) q := by
  unfold swK
  by_cases e : q = v
  · subst e; simp
  · have : ¬ v = q := fun h => e h.symm
    simp [e, this]
theorem AtRg.step {w w1 : World} {N bC bX bD n x bI bO R m v cnt1 : Nat} {dn : Nat → Bool} {K C : Nat → Int} {c : Int} {I : Nat → Bool} {D : DataW Unit} {left : Lit → Bool} {J : Nat → Bool}
    (hl : LeftIs N I J left) (hsub : ∀ q, J q = true → I q = true) (hv : v ≤ 1000) (hI : I v = true) (st1 : CtS w w1 N bC bX bD n x dn (swK K C c J)) (ho : w1.rowIs bO 3 N (ri C))
    (hrg1 : w1.ranges Tryd.prog 3 (plainElem Tryd.prog 4) bI R m D (fun z => left z && !z.sameKey (.int .i64 (v : Int))) cnt1) (hbI : bI ≠ bC) (hR : R ≠ bC) (hbO : bO ≠ bC) {w2 : World} (hg : w1.grownBy w2 (some bC)) (st2 : CtS w w2 N bC bX bD n x dn (fun q => if q = v then swapC c (C v) else swK K C c J q)) :
    AtRg w w2 N bC bX bD n x bI bO R m dn K C c I D (fun z => left z && !z.sameKey (.int .i64 (v : Int))) cnt1 (fun u => J u || decide (v = u)) := by
  refine ⟨hrg1.kept hg (fun e => hbI (Option.some.inj e)) (fun e => hR (Option.some.inj e)), hl.next hv, fun q hq => ?_, st2.congr fun q _ => swK_add q, ho.of_block (hg.block _ ho.lt (fun e => hbO (Option.some.inj e)))⟩
  simp only [Bool.or_eq_true, decide_eq_true_eq] at hq
  rcases hq with hq | rfl
  · exact hsub q hq
  · exact hI

end Go.Proofs.YtnhhohhhpaejmaaDoor
