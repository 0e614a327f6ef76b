/- assign.Stable: the walk. -/
import Derived.Test.YtfccfmjamdpeaaaOrd
import Derived.Test.YtfccfmjamdpeaaaGale
import Derived.Test.YtfccfmjamdpeaaaStableMem
import Derived.Deep.DeepMust
namespace Go.Proofs.Ytfccfmjamdpeaaa
open Go.RowKit

/-- The name at a place of a list. -/
def nameAt (m : List (List Int)) (i p : Nat) : Nat := ((m.getD i []).getD p 0).toNat
/-- The place of a name in a list. -/
def placeOf (m : List (List Int)) (i j : Nat) : Nat := idx (m.getD i []) j

/-- What is wrong with who likes whom. -/
def LikesSpec (a b : List (List Int)) (c at_ : Int) : Prop :=
  (100 < a.length ∧ c = 2 ∧ at_ = 0) ∨ (a.length ≤ 100 ∧ b.length ≠ a.length ∧ c = 6 ∧ at_ = a.length) ∨ (a.length ≤ 100 ∧ b.length = a.length ∧ OrdSpec (a ++ b) a.length 0 c at_)

theorem LikesSpec.uniq {a b : List (List Int)} {c d c' d' : Int} (h : LikesSpec a b c d) (h' : LikesSpec a b c' d') : c = c' ∧ d = d' := by
  rcases h with ⟨h1, rfl, rfl⟩ | ⟨h1, h2, rfl, rfl⟩ | ⟨h1, h2, h3⟩ <;> rcases h' with ⟨h1', rfl, rfl⟩ | ⟨h1', h2', rfl, rfl⟩ | ⟨h1', h2', h3'⟩ <;> first | exact ⟨rfl, rfl⟩ | omega | exact h3.uniq h3'

/-- What Stable answers. -/
def StableOk (a b : List (List Int)) (T : List Int) : Prop :=
  ∃ M, T = (List.range a.length).map (fun i => ((M i : Nat) : Int)) ∧ Perm a.length M ∧ NoPair a.length (placeOf a) (placeOf b) M ∧
    ∀ M', Perm a.length M' → NoPair a.length (placeOf a) (placeOf b) M' → ∀ i, i < a.length → placeOf a i (M i) ≤ placeOf a i (M' i)

def StablePost (a b : List (List Int)) (w : World) (e : Ending) (w' : World) : Prop :=
  Below w.heap.size w w' ∧
  ((∃ c d, LikesSpec a b c d ∧ c ≠ 0 ∧ e = .returned (.tuple #[.slice none 0 0, .agg #[.int .i64 c, .int .i64 d]])) ∨
   (LikesSpec a b 0 0 ∧ ∃ t T, StableOk a b T ∧ IsInts w' t T ∧ e = .returned (.tuple #[t, .agg #[.int .i64 0, .int .i64 0]])))

/-- Lists that name all: what the plain method asks. -/
theorem pref_of {m : List (List Int)} {n : Nat} (h : ∀ i, i < n → RowPerm n (m.getD i [])) : Pref n (nameAt m) (placeOf m) := by
  have hlt : ∀ i p, i < n → p < n → nameAt m i p < n ∧ (m.getD i []).getD p 0 = (nameAt m i p : Int) := fun i p hi hp => by
    obtain ⟨h1, h2, _⟩ := (h i hi).2 p hp
    unfold nameAt
    omega
  have hat : ∀ i p, i < n → p < n → placeOf m i (nameAt m i p) = p := fun i p hi hp => by
    unfold placeOf
    rw [← (hlt i p hi hp).2]
    exact idx_eq (by rw [(h i hi).1]; exact hp) (fun j hj => ((h i hi).2 p hp).2.2 j hj) rfl
  refine ⟨fun i p hi hp => (hlt i p hi hp).1, hat, fun i j hi hj => ?_⟩
  obtain ⟨q, q1, q2, q3⟩ := inj_surj n (fun p => nameAt m i (p - 1) + 1) (fun p a b => by have := (hlt i (p - 1) hi (by omega)).1; omega)
    (fun p p' a b a' b' e => by
      have h1 := hat i (p - 1) hi (by omega)
      have h2 := hat i (p' - 1) hi (by omega)
      have e' : nameAt m i (p - 1) = nameAt m i (p' - 1) := by omega
      rw [e', h2] at h1
      omega) (j + 1) (by omega) (by omega)
  have e : nameAt m i (q - 1) = j := by omega
  have := hat i (q - 1) hi (by omega)
  rw [e] at this
  exact ⟨by omega, by rw [this]; exact e⟩

set_option maxHeartbeats 12800000 in
set_option maxRecDepth 100000 in
theorem stable_any (ma mb : List (List Int)) (s t : Value) (w : World) (h : IsRows w s ma) (h' : IsRows w t mb) :
    Calls Try.prog 40 #[s, t] w (StablePost ma mb w) := by
  have ha := h
  have hb := h'
  obtain ⟨a, cap, b, o, rfl, hcap, hmax, hadr, -, hcell⟩ := h
  obtain ⟨a', cap', b', o', rfl, hcap', hmax', hadr', -, hcell'⟩ := h'
  have hf1 := F1.start w
  have Hf1 := Lib.hid hf1
  clear hf1
  by_cases hbig : 100 < ma.length
  · have hbig2 : (100 : Int) < (ma.length : Int) := by omega
    go_enter Try.func40, Try.ntmps40
    go_wp2_with (go_at_call 83; refine (fault_any _ _ _).mono ?_; rintro e w1 ⟨rfl, rfl⟩)
    exact bodyPost_ret (v := .tuple #[.slice none 0 0, .agg #[.int .i64 2, .int .i64 0]]) (by simp [results, Try.results40, go_sem]) rfl ⟨below2 _ _ _, Or.inl ⟨2, 0, Or.inl ⟨hbig, rfl, rfl⟩, by omega, rfl⟩⟩
  · by_cases hlen : mb.length = ma.length
    · have hl1 : ((mb.length : Int) != (ma.length : Int)) = false := by rw [hlen]; simp
      have hl2 : ((mb.length : Int) == (ma.length : Int)) = true := by rw [hlen]; simp
      have Ha := Lib.hid ha; have Hb := Lib.hid hb; have Hlen := Lib.hid hlen
      clear ha hb hlen
      go_enter Try.func40, Try.ntmps40
      go_wp2_with fail
      refine (orders_any ma _ ma.length 0 _ (Ha.out.below (below1 _ _)) (by omega) (by omega) (by omega) (by omega)).mono ?_
      rintro e w1 ⟨c, d, hsp, rfl, hb1⟩
      have hF1 := Hf1.out.below hb1
      have HF1 := Lib.hid hF1; have Hsp := Lib.hid hsp
      clear hF1 hsp
      by_cases hc : c = 0
      · subst hc
        have hBl := HF1.out.hz.lt
        go_wp2_with fail
        refine (orders_any mb _ ma.length ma.length _ ((Hb.out.below (below1 _ _)).below hb1 |>.below (below1 _ _)) (by omega) (by have := Hlen.out; omega) (by omega) (by omega)).mono ?_
        rintro e w2 ⟨c, d2, hsp2, rfl, hb2⟩
        have hF2 := (HF1.out.alloc (Obj.cells #[Value.int .i64 0, Value.int .i64 d] 27)).below hb2
        have HF2 := Lib.hid hF2; have Hsp2 := Lib.hid hsp2
        clear hF2 hsp2
        by_cases hc : c = 0
        · subst hc
          have hBl2 := HF2.out.hz.lt
          have hspec : LikesSpec ma mb 0 0 := Or.inr (Or.inr ⟨by omega, Hlen.out, by have := OrdSpec.right Hsp.out Hsp2.out; rw [Hsp2.out.perm.2] at this; exact this⟩)
          have hpa := Hsp.out.perm.1
          have hpb := Hsp2.out.perm.1
          rw [Hlen.out] at hpb
          have Hspec := Lib.hid hspec
          generalize hn : ma.length = n at *
          have hn1 : n ≤ 100 := by omega
          generalize hlb : mb.length = nb at *
          obtain rfl : n = nb := by have := Hlen.out; omega
          have hF3 := HF2.out.alloc (Obj.cells #[Value.int .i64 0, Value.int .i64 d2] 27)
          have HF3 := Lib.hid hF3; have Hpa := Lib.hid hpa; have Hpb := Lib.hid hpb; have Hn := Lib.hid hn; have Hlb := Lib.hid hlb
          have PA := pref_of hpa
          have PB := pref_of hpb
          have hmk24 := run_make_row' (P := Try.prog) 40 51 (.slice none 0 0) 24 Try.underlying40 infoS rfl .i64 .i64 n (by omega) (by omega)
          have hmk3 := run_make_row' (P := Try.prog) 51 3 (.int .i64 0) 8 Try.underlying51 info3 rfl .i64 .i64 n (by omega) (by omega)
          have HPA := Lib.hid PA; have HPB := Lib.hid PB
          clear hF3 hpa hpb hn hlb hspec PA PB
          go_wp2_with fail
          have hrk := RankMem.start (n := n) (Z := placeOf mb) HF3.out
          have hAe : (w2.alloc (Obj.cells #[Value.int .i64 0, Value.int .i64 d2] 27)).heap.size = w2.heap.size + 1 := by simp
          rw [hAe] at hrk
          have Hrk := Lib.hid hrk
          clear hrk hAe
          generalize w2.alloc (Obj.cells #[Value.int IntKind.i64 0, Value.int IntKind.i64 d2] 27) = wA at *
          generalize hNe : w2.heap.size + 1 = N at *
          have hBw := HF2.out.hB
          generalize hBe : w.heap.size = B at *
          have HB := Lib.hid hBe
          have hBN : B < N := by omega
          clear hmk24 hBl2 hNe hBe
          generalize wA.alloc (Obj.cells (madeCells #[Value.slice none 0 0] n) 51) = wB at *
          go_loopg [52] n (fun g s52 wr => ∃ k : Nat, k ≤ n ∧ g = n - k ∧ s52 = .int .i64 k ∧ RankMem w wr B N n k (placeOf mb))
          case atStart => exact ⟨0, Nat.zero_le _, rfl, rfl, Hrk.out⟩
          case round =>
            obtain ⟨k, hk, rfl, rfl, hR⟩ := hrel
            by_cases hlt : k < n
            · --KK
              --< rank
              obtain rfl := hadr' (by omega)
              obtain ⟨x, Hx, ra, rcap, hc, hr⟩ := rows_at (m := mb) (w := w) (b := b') (o := o') (k := k) (by rw [Hlb.out]; exact hcell') (Below.refl _ _) (show k < mb.length by rw [Hlb.out]; exact hlt)
              have hc := below_cell hR.hf.hb hc
              have hxl : x.length = n := by rw [← Hx.out]; exact (Hpb.out k hlt).1
              obtain ⟨ra', rcap', rb', ro, he, hrc, hrm, hra, -, hrcell⟩ := id hr
              simp only [Value.slice.injEq, true_and] at he
              obtain ⟨rfl, rfl⟩ := he
              obtain rfl := hra (by omega)
              have hsize := hR.size
              have hst1 : ∀ o, (wr.alloc o).cell? ⟨N, k, none⟩ = some (.slice none 0 0) := fun o => by have := (hR.top.alloc o).cell hlt; rw [if_neg (by omega)] at this; exact this
              have hst2 : ∀ o, (wr.alloc o).frozen? ⟨N, k, none⟩ = false := fun o => (hR.top.alloc o).frozen k
              have hin := hR.enter hBN
              have Hin := Lib.hid hin; have Hxl := Lib.hid hxl; have HR := Lib.hid hR
              clear hin hR hxl hr hcell' hadr'
              go_wp2
              clear hst1 hst2 hsize hmk3
              generalize (wr.alloc (Obj.cells (madeCells #[Value.int IntKind.i64 0] n) 3)).setCell ⟨N, k, none⟩ (Value.slice (some ⟨N + 1 + k, 0, none⟩) n n) = wC at *
              go_loopg [64] x.length (fun g s64 wi => ∃ p : Nat, p ≤ x.length ∧ g = x.length - p ∧ s64 = .int .i64 p ∧ RankIn w wi B N n k (placeOf mb) (fun i => if placeOf mb k i < p then placeOf mb k i else 0))
              case atStart => exact ⟨0, Nat.zero_le _, rfl, rfl, Hin.out.congr (fun i _ => by simp)⟩
              case round =>
                obtain ⟨p, hp, rfl, rfl, hI⟩ := hrel
                by_cases hltp : p < x.length
                · have hpn : p < n := by have := Hxl.out; omega
                  obtain ⟨z, Hz, hcz⟩ := ints_at hrcell hI.hf.hb hltp
                  have hzn : z = (nameAt mb k p : Int) := by
                    have h2 := (Hpb.out k hlt).2 p hpn
                    obtain ⟨u1, u2, _⟩ := h2
                    unfold nameAt
                    rw [Hx.out, Hz.out] at u1 ⊢
                    omega
                  have hvn := HPB.out.lt k p hlt hpn
                  have hat := HPB.out.at_ k p hlt hpn
                  have hinv : ∀ i, i < n → placeOf mb k i = p → i = nameAt mb k p := fun i hi e => by rw [← e]; exact ((HPB.out.of_ k i hlt hi).2).symm
                  generalize nameAt mb k p = v at *
                  subst hzn
                  have ct := hI.top.cell hlt
                  rw [if_pos (by omega)] at ct
                  have cv := hI.now.cell hvn
                  have zv := hI.now.frozen v
                  have fin := (hI.store hBN v p).congr (Zd := fun i => if placeOf mb k i < p + 1 then placeOf mb k i else 0) (fun i hi => by
                    by_cases e : i = v
                    · subst e; rw [if_pos rfl, hat, if_pos (by omega)]
                    · rw [if_neg e]
                      have : placeOf mb k i ≠ p := fun e2 => e (hinv i hi e2)
                      by_cases h2 : placeOf mb k i < p
                      · rw [if_pos h2, if_pos (by omega)]
                      · rw [if_neg h2, if_neg (by omega)])
                  simp only [rn] at cv
                  have Fin := Lib.hid fin
                  clear fin hat hinv hI hrcell
                  go_wp2
                  go_roundg (x.length - (p + 1))
                  case measure => go_light; omega
                  case rel => exact ⟨p + 1, by omega, rfl, by go_num, Fin.out⟩
                · have fin := (hI.congr (Zd := placeOf mb k) (fun i hi => by
                    have := (HPB.out.of_ k i hlt hi).1
                    rw [if_pos (by have := Hxl.out; omega)])).leave
                  have Fin := Lib.hid fin
                  clear fin hI hrcell
                  go_wp2
                  go_roundg (n - (k + 1))
                  case measure => go_light; omega
                  case rel => exact ⟨k + 1, by omega, rfl, by go_num, Fin.out⟩
              --> rank
            · obtain rfl : n = k := by omega
              have HR := Lib.hid hR
              have hsize := hR.size
              clear hR hcell' hadr'
              go_wp2
              go_cut [14, 15, 16] (fun s14 s15 s16 wx => ThreeRows wr n s14 s15 s16 wx)
              case first =>
                clear hsize
                go_region
                all_goals
                  go_wp2
                  go_meet
                all_goals first | exact ThreeRows.mk wr n _ _ _ 0 1 2 (by omega) (by omega) (by omega) (by omega) (by omega) (by omega) (by omega) (by omega) (by omega) | exact ThreeRows.mk wr n _ _ _ 0 2 1 (by omega) (by omega) (by omega) (by omega) (by omega) (by omega) (by omega) (by omega) (by omega) | exact ThreeRows.mk wr n _ _ _ 1 0 2 (by omega) (by omega) (by omega) (by omega) (by omega) (by omega) (by omega) (by omega) (by omega) | exact ThreeRows.mk wr n _ _ _ 1 2 0 (by omega) (by omega) (by omega) (by omega) (by omega) (by omega) (by omega) (by omega) (by omega) | exact ThreeRows.mk wr n _ _ _ 2 0 1 (by omega) (by omega) (by omega) (by omega) (by omega) (by omega) (by omega) (by omega) (by omega) | exact ThreeRows.mk wr n _ _ _ 2 1 0 (by omega) (by omega) (by omega) (by omega) (by omega) (by omega) (by omega) (by omega) (by omega)
              case rest =>
                obtain ⟨bt, bo, bx, rfl, rfl, rfl, dto, dtx, dox, lt1, lo1, lx1, lt2, lo2, lx2, hbl, ht, ho, hx⟩ := hcut
                have d : SDis w B N n bt bo bx wc.heap.size := ⟨by have := HB.out; omega, hBN, by omega, by omega, by omega, lt2, lo2, lx2, dto, dtx, dox⟩
                have hs0 : SMem w wc B N n bt bo bx wc.heap.size (placeOf mb) (fun _ => 0) (fun _ => 0) (fun _ => 0) (.slice none 0 0) [] :=
                  ⟨HR.out.hf.below hbl, (HR.out.top.of_block (hbl.block _ (by omega))).congr (fun j hj => by rw [if_pos hj]), fun j hj => (HR.out.rows j hj).of_block (hbl.block _ (by omega)), ht, ho, hx, World.ownsRow_nil _ _ _ _, Nat.le_refl _⟩
                have Hs0 := Lib.hid hs0
                clear hs0 ht ho hx hbl lt1 lo1 lx1 lt2 lo2 lx2 hsize HR Hrk
                generalize wc.heap.size = B2 at *
                go_wp2
                go_loopg [17, 85] n (fun g s17 s85 wi => ∃ k : Nat, k ≤ n ∧ g = n - k ∧ s85 = .int .i64 k ∧ SMem w wi B N n bt bo bx B2 (placeOf mb) (fun q => if q < k then -1 else 0) (fun q => if q < k then -1 else 0) (fun _ => 0) s17 (List.range k))
                case atStart => exact ⟨0, Nat.zero_le _, rfl, rfl, Hs0.out.congr (fun _ _ => by simp) (fun _ _ => by simp) (fun _ _ => rfl)⟩
                case round =>
                  obtain ⟨k, hk, rfl, rfl, hS⟩ := hrel
                  by_cases hlt : k < n
                  · --KK2
                    --< fill
                    obtain ⟨va, vc, rfl⟩ := ownsRow_form hS.hfr
                    have ct := hS.ht.cell hlt
                    have co := hS.ho.cell hlt
                    have zt := hS.ht.frozen k
                    have zo := hS.ho.frozen k
                    have hS2 := (hS.setT d k (-1)).setO d k (-1)
                    simp only [List.length_range] at hS2
                    have HS2 := Lib.hid hS2
                    clear hS
                    simp only [ri] at ct co
                    simp only [List.length_range]
                    have ho2 := hS2.hfr.alloc (Obj.cells #[Value.int .i64 (k : Int)] 3)
                    rw [List.length_range] at ho2
                    have HO := Lib.hid ho2
                    have hsz := hS2.sz
                    have Hsz := Lib.hid hsz
                    clear hS2 hsz ho2
                    go_wp2_with (first
                      | (at_builtin; go_must (refine wpList_append_has rfl (.tmp 94) (.tmp 96) 51 rfl B2 3 (.int .i64 0) 8 Try.underlying51 info3 rfl (.slice va k vc) k ((List.range k).map fun (i : Nat) => Value.int .i64 (i : Int)) rfl HO.out _ 1 [.int .i64 (k : Int)] rfl (HasCells.at _ _ _ rfl (by rw [size_setCell, size_setCell])) (by omega) (by omega) (le_alloc Hsz.out) ?_); intro a5 c5 w5 hown5 hg5))
                    have fin := HS2.out.push d (i := k) (by simpa using hown5) hg5
                    rw [← List.range_succ] at fin
                    go_roundg (n - (k + 1))
                    case measure => go_light; omega
                    case rel => exact ⟨k + 1, by omega, rfl, by go_num, fin.congr (fun q _ => by
                        by_cases e : q = k
                        · subst e; rw [if_pos rfl, if_pos (by omega)]
                        · rw [if_neg e]; by_cases e2 : q < k
                          · rw [if_pos e2, if_pos (by omega)]
                          · rw [if_neg e2, if_neg (by omega)]) (fun q _ => by
                        by_cases e : q = k
                        · subst e; rw [if_pos rfl, if_pos (by omega)]
                        · rw [if_neg e]; by_cases e2 : q < k
                          · rw [if_pos e2, if_pos (by omega)]
                          · rw [if_neg e2, if_neg (by omega)]) (fun _ _ => rfl)⟩
                    --> fill
                  · obtain rfl : n = k := by omega
                    have hS := hS.congr (tt' := fun _ => -1) (of' := fun _ => -1) (fun q hq => by rw [if_pos hq]) (fun q hq => by rw [if_pos hq]) (fun _ _ => rfl)
                    have HS := Lib.hid hS
                    clear hS Hs0
                    go_wp2
                    go_loopg [17] (remN n (fun _ => 0) n) (fun g s17 wi => ∃ (T O : Nat → Int) (X : Nat → Nat) (fr : List Nat), g = remN n X n ∧ SMem w wi B N n bt bo bx B2 (placeOf mb) T O X s17 fr ∧ GS n (nameAt ma) (placeOf ma) (placeOf mb) T O X fr)
                    case atStart => exact ⟨_, _, _, _, rfl, HS.out, GS.start _ _ _ _⟩
                    case round =>
                      obtain ⟨T, O, X, fr, hg, hS, hG⟩ := hrel
                      rcases List.eq_nil_or_concat fr with hnil | ⟨fr', i, hfr⟩
                      · subst hnil
                        obtain ⟨va, vc, rfl⟩ := ownsRow_form hS.hfr
                        obtain ⟨hT, hM, hNP, hopt⟩ := hG.done HPA.out
                        obtain ⟨e0, e1, e2⟩ := hS.hf.put (.int .i64 0) (.int .i64 0)
                        have cz0 := hS.hf.hz.cell (show 0 < 2 by omega)
                        have cz1 := hS.hf.hz.cell (show 1 < 2 by omega)
                        have zz0 := hS.hf.hz.frozen 0
                        have zz1 := hS.hf.hz.frozen 1
                        have hBt : bt ≠ B := by have := d.BN; have := d.Nt; omega
                        have hI : IsInts ((wr.setCell ⟨B, 0, none⟩ (.int .i64 0)).setCell ⟨B, 1, none⟩ (.int .i64 0)) (.slice (some ⟨bt, 0, none⟩) n n) ((List.range n).map T) :=
                          IsInts.ofRow ((hS.ht.setOther (a := ⟨B, 0, none⟩) hBt _).setOther (a := ⟨B, 1, none⟩) hBt _) (by omega)
                        have hok : StableOk ma mb ((List.range n).map T) := by
                          refine ⟨fun q => (T q).toNat, ?_, by rw [Hn.out]; exact hM, by rw [Hn.out]; exact hNP, by rw [Hn.out]; exact hopt⟩
                          rw [Hn.out]
                          refine List.map_congr_left fun q hq => ?_
                          obtain ⟨j, _, hj⟩ := hT q (by simpa using hq)
                          show T q = ((T q).toNat : Int)
                          rw [hj, Int.toNat_natCast]
                        have Hok := Lib.hid hok; have HI := Lib.hid hI; have E0 := Lib.hid e0; have E1 := Lib.hid e1; have E2 := Lib.hid e2
                        clear hS hG hT hM hNP hopt hok hI e0 e1 e2 hg hcell hadr
                        simp only [List.length_nil]
                        go_wp2
                        have e0 := E0.out
                        have e1 := E1.out
                        exact bodyPost_ret (v := .tuple #[.slice (some ⟨bt, 0, none⟩) n n, .agg #[.int .i64 0, .int .i64 0]]) (by simp [results, Try.results40, go_sem, e0, e1]) rfl ⟨E2.out, Or.inr ⟨Hspec.out, _, _, Hok.out, HI.out, rfl⟩⟩
                      · rw [List.concat_eq_append] at hfr
                        subst hfr
                        have hof := hS.hfr
                        simp only [List.length_append, List.length_singleton, List.map_append, List.map_cons, List.map_nil] at hof
                        obtain ⟨va, vc, rfl⟩ := ownsRow_form hof
                        obtain ⟨hv1, hv2, -, b6, hv4, hv5⟩ := ownsRow_cap hof
                        obtain ⟨rfl, hb6⟩ := hv4 (by omega)
                        have cfr := hv5 fr'.length (.int .i64 (i : Int)) (by rw [List.getElem?_append_right (by simp)]; simp)
                        have hin := hG.frlt i (by simp)
                        have hto := (hG.frto i hin).1 (by simp)
                        have hXi := hG.left HPA.out hin hto
                        have hjn := HPA.out.lt i (X i) hin hXi
                        obtain rfl := hadr (by omega)
                        obtain ⟨x, Hx, ra, rcap, hc, hr⟩ := rows_at (m := ma) (w := w) (b := b) (o := o) (k := i) (by rw [Hn.out]; exact hcell) hS.hf.hb (show i < ma.length by rw [Hn.out]; exact hin)
                        have hxl : x.length = n := by rw [← Hx.out]; exact (Hpa.out i hin).1
                        obtain ⟨ra', rcap', rb', ro, he, hrc, hrm, hra, -, hrcell⟩ := id hr
                        simp only [Value.slice.injEq, true_and] at he
                        obtain ⟨rfl, rfl⟩ := he
                        obtain rfl := hra (by omega)
                        obtain ⟨z, Hz, hcz⟩ := ints_at hrcell (Below.refl _ _) (show X i < x.length by omega)
                        have hzj : z = (nameAt ma i (X i) : Int) := by
                          have h2 := (Hpa.out i hin).2 (X i) hXi
                          obtain ⟨u1, u2, _⟩ := h2
                          unfold nameAt
                          rw [Hx.out, Hz.out] at u1 ⊢
                          omega
                        subst hzj
                        have cx := hS.hx.cell hin
                        have zx := hS.hx.frozen i
                        have co := hS.ho.cell hjn
                        have ctop := hS.top.cell hjn
                        have crow := fun q (hq : q < n) => (hS.rows _ hjn).cell hq
                        have HS := Lib.hid hS; have HG := Lib.hid hG; have Hxl := Lib.hid hxl; have Hto := Lib.hid hto; have Hg := Lib.hid hg
                        have hxl2 : n ≤ x.length := by omega
                        have hxl3 : x.length ≤ 100 := by omega
                        clear hS hG hxl hto hg hof hv5 hrcell hr hv4
                        simp only [rn, ri] at cx co crow
                        generalize hje : nameAt ma i (X i) = j at *
                        generalize hxe : X i = xi at *
                        have Hje := Lib.hid hje; have Hxe := Lib.hid hxe
                        clear hje hxe
                        have dnx : ¬ bo = bx := d.ox
                        have dtx' : ¬ bt = bx := d.tx
                        have dto' : ¬ bt = bo := d.to_
                        have dxo : ¬ bx = bo := fun e => d.ox e.symm
                        have dNx : ¬ N = bx := by have := d.Nx; omega
                        have dNj : ¬ N + 1 + j = bx := by have := d.Nx; omega
                        have ctt := HS.out.ht.cell hin
                        have ztt := HS.out.ht.frozen i
                        have zoo := HS.out.ho.frozen j
                        simp only [ri] at ctt
                        obtain ⟨i3, hi3, -⟩ := info_parts info3
                        have hsl := run_slice_hi (P := Try.prog) Try.underlying51 hi3 (some ⟨b6, 0, none⟩) (fr'.length + 1) vc fr'.length (by omega)
                        have hrem : remN n (fun q => if q = i then xi + 1 else X q) n + 1 = remN n X n := by
                          have := remN_less (n := n) (nx := X) (i := i) (by rw [Hxe.out]; exact hXi) (k := n) hin
                          rw [Hxe.out] at this; exact this
                        have Hrem := Lib.hid hrem
                        clear hi3 hrem
                        rcases HG.out.of_ j hjn with hO | ⟨k, hk, hO, hTk⟩
                        · --KK3
                          --< three
                          rw [hO] at co
                          have hacc := HG.out.accept HPA.out rfl HPB.out.inj (Or.inl (by rw [Hxe.out, Hje.out]; exact hO))
                          rw [Hxe.out, Hje.out, if_pos hO] at hacc
                          have fin : ∀ q1 q2 : Nat, SMem w ((((((wr.drewN q1).setCell ⟨bx, i, none⟩ (.int .i64 ((xi + 1 : Nat) : Int))).drewN q2).setCell ⟨bt, i, none⟩ (.int .i64 (j : Int))).setCell ⟨bo, j, none⟩ (.int .i64 (i : Int)))) B N n bt bo bx B2 (placeOf mb) (fun q => if O j = (q : Int) then -1 else if q = i then (j : Int) else T q) (fun q => if q = j then (i : Int) else O q) (fun q => if q = i then xi + 1 else X q) (.slice (some ⟨b6, 0, none⟩) fr'.length vc) fr' := fun q1 q2 =>
                            ((((((HS.out.drewN q1).setX d i (xi + 1)).drewN q2).setT d i j).setO d j i).pop).congr (fun q _ => by rw [if_neg (show ¬ O j = (q : Int) by omega)]) (fun _ _ => rfl) (fun _ _ => rfl)
                          have HO := Lib.hid hO; have Hacc := Lib.hid hacc; have Fin := Lib.hid fin
                          clear hO crow hacc fin
                          go_wp2
                          go_quiet (fail)
                          go_wp2
                          go_quiet (fail)
                          go_wp2
                          go_roundg (remN n (fun q => if q = i then xi + 1 else X q) n)
                          case measure => have := Hg.out; have := Hrem.out; omega
                          case rel => exact ⟨_, _, _, _, rfl, Fin.out _ _, Hacc.out⟩
                          --> three
                        · rw [hO] at co
                          have cr1 := crow k hk
                          have cr2 := crow i hin
                          by_cases hrk : placeOf mb j k < placeOf mb j i
                          · --KK4
                            --< one
                            have hacc := HG.out.refuse HPA.out hin Hto.out (k := k) (by rw [Hxe.out, Hje.out]; exact hO) (by rw [Hxe.out, Hje.out]; exact hrk)
                            rw [Hxe.out] at hacc
                            have fin : ∀ q1 q2 : Nat, SMem w (((wr.drewN q1).setCell ⟨bx, i, none⟩ (.int .i64 ((xi + 1 : Nat) : Int))).drewN q2) B N n bt bo bx B2 (placeOf mb) T O (fun q => if q = i then xi + 1 else X q) (.slice (some ⟨b6, 0, none⟩) (fr'.length + 1) vc) (fr' ++ [i]) := fun q1 q2 =>
                              (((HS.out.drewN q1).setX d i (xi + 1)).drewN q2)
                            have HO := Lib.hid hO; have Hacc := Lib.hid hacc; have Fin := Lib.hid fin
                            clear hO crow hacc fin hTk
                            generalize placeOf mb j k = r1 at *
                            generalize placeOf mb j i = r2 at *
                            go_wp2
                            go_quiet (fail)
                            go_wp2
                            go_quiet (fail)
                            go_wp2
                            go_roundg (remN n (fun q => if q = i then xi + 1 else X q) n)
                            case measure => have := Hg.out; have := Hrem.out; omega
                            case rel => exact ⟨_, _, _, _, rfl, Fin.out _ _, Hacc.out⟩
                            --> one
                          · --KK5
                            --< two
                            have hki : ¬ k = i := fun e => by
                              subst e; have := Hto.out; omega
                            have hik : ¬ i = k := fun e => hki e.symm
                            have hacc := HG.out.accept HPA.out rfl HPB.out.inj (Or.inr ⟨k, by rw [Hxe.out, Hje.out]; exact hO, by rw [Hxe.out, Hje.out]; exact hrk⟩)
                            rw [Hxe.out, Hje.out, if_neg (show ¬ O j = -1 by omega), hO, Int.toNat_natCast] at hacc
                            have fin : ∀ q1 q2 : Nat, SMem w ((((((wr.drewN q1).setCell ⟨bx, i, none⟩ (.int .i64 ((xi : Int) + 1))).drewN q2).setCell ⟨bt, i, none⟩ (.int .i64 (j : Int))).setCell ⟨bo, j, none⟩ (.int .i64 (i : Int)))) B N n bt bo bx B2 (placeOf mb) (fun q => if q = i then (j : Int) else T q) (fun q => if q = j then (i : Int) else O q) (fun q => if q = i then xi + 1 else X q) (.slice (some ⟨b6, 0, none⟩) fr'.length vc) fr' := fun q1 q2 =>
                              ((((((HS.out.drewN q1).setX d i (xi + 1)).drewN q2).setT d i j).setO d j i)).pop
                            have HO := Lib.hid hO; have Hacc := Lib.hid hacc; have Fin := Lib.hid fin
                            clear hO crow hacc fin hTk
                            generalize placeOf mb j k = r1 at *
                            generalize placeOf mb j i = r2 at *
                            have hrk' : ¬ ((r1 : Int) < (r2 : Int)) := by omega
                            have hrk2 : (r2 : Int) ≤ (r1 : Int) := by omega
                            go_wp2
                            go_quiet (fail)
                            obtain ⟨q1, rfl⟩ : ∃ q1, q1 = nq := ⟨nq, rfl⟩
                            go_wp2
                            go_quiet (fail)
                            go_upto_if 161 with (fail)
                            have S5 := Fin.out q1 nq
                            generalize (((((wr.drewN q1).setCell ⟨bx, i, none⟩ (.int .i64 ((xi : Int) + 1))).drewN nq).setCell ⟨bt, i, none⟩ (.int .i64 (j : Int))).setCell ⟨bo, j, none⟩ (.int .i64 (i : Int))) = w5 at S5 ⊢
                            have ctk := S5.ht.cell hk
                            have ztk := S5.ht.frozen k
                            have S6 := (S5.setT d k (-1)).congr (tt' := fun q => if ((k : Nat) : Int) = (q : Int) then -1 else if q = i then (j : Int) else T q) (fun q _ => by
                                by_cases e : q = k
                                · subst e; rw [if_pos rfl, if_pos rfl]
                                · rw [if_neg e, if_neg (show ¬ ((k : Nat) : Int) = (q : Int) by omega)]) (fun _ _ => rfl) (fun _ _ => rfl)
                            have H6 := Lib.hid S6
                            have HO6 := Lib.hid (S6.hfr.alloc (Obj.cells #[Value.int .i64 (k : Int)] 3))
                            have Hsz6 := Lib.hid S6.sz
                            have hfl : fr'.length ≤ vc := by omega
                            simp only [ri] at ctk
                            have hlen2 : fr'.length + 1 ≤ 9223372036854775807 := by omega
                            have hlen3 : fr'.length + 1 ≤ n := by
                              have := HG.out.frn.length_le_of_subset (fun q hq => by simpa using HG.out.frlt q hq : fr' ++ [i] ⊆ List.range n)
                              simpa using this
                            clear S5 S6 cfr cx zx co ctop hc hcz ctt ztt zoo cr1 cr2 hsl
                            go_wp2_with (first
                              | (at_builtin; go_must (refine wpList_append_has rfl (.tmp 165) (.tmp 167) 51 rfl B2 3 (.int .i64 0) 8 Try.underlying51 info3 rfl (.slice (some ⟨b6, 0, none⟩) fr'.length vc) fr'.length (fr'.map fun (i : Nat) => Value.int .i64 (i : Int)) rfl HO6.out _ 1 [.int .i64 (k : Int)] rfl (HasCells.at _ _ _ rfl (by rw [size_setCell])) (by omega) (by omega) (le_alloc Hsz6.out) ?_); intro a7 c7 w7 hown7 hg7))
                            have fin7 := H6.out.push d (i := k) (by simpa using hown7) hg7
                            go_roundg (remN n (fun q => if q = i then xi + 1 else X q) n)
                            case measure => have := Hg.out; have := Hrem.out; omega
                            case rel => exact ⟨_, _, _, _, rfl, fin7, Hacc.out⟩
                            --> two
        · have hc1 : (c != 0) = true := by simpa using hc
          have hc2 : (c == 0) = false := by simpa using hc
          have hspec : LikesSpec ma mb c d2 := Or.inr (Or.inr ⟨by omega, Hlen.out, OrdSpec.right Hsp.out Hsp2.out⟩)
          have Hspec := Lib.hid hspec
          have cz0 := HF2.out.hz.cell (show 0 < 2 by omega)
          have cz1 := HF2.out.hz.cell (show 1 < 2 by omega)
          have zz0 := HF2.out.hz.frozen 0
          have zz1 := HF2.out.hz.frozen 1
          have hBl2 := HF2.out.hz.lt
          have Hc := Lib.hid hc
          clear hspec hc
          go_wp2_with fail
          go_region
          all_goals go_wp2
          obtain ⟨e0, e1, e2⟩ := HF2.out.putA (.int .i64 c) (.int .i64 d2) (Obj.cells #[Value.int .i64 c, .int .i64 d2] 27)
          exact bodyPost_ret (v := .tuple #[.slice none 0 0, .agg #[.int .i64 c, .int .i64 d2]]) (by simp [results, Try.results40, go_sem, e0, e1]) rfl ⟨e2.drew, Or.inl ⟨c, d2, Hspec.out, Hc.out, rfl⟩⟩
      · have hc1 : (c != 0) = true := by simpa using hc
        have hc2 : (c == 0) = false := by simpa using hc
        have hspec : LikesSpec ma mb c d := Or.inr (Or.inr ⟨by omega, Hlen.out, OrdSpec.left Hsp.out hc⟩)
        have Hspec := Lib.hid hspec
        have cz0 := HF1.out.hz.cell (show 0 < 2 by omega)
        have cz1 := HF1.out.hz.cell (show 1 < 2 by omega)
        have zz0 := HF1.out.hz.frozen 0
        have zz1 := HF1.out.hz.frozen 1
        have hBl := HF1.out.hz.lt
        have Hc := Lib.hid hc
        clear hspec hc
        go_wp2_with fail
        go_region
        all_goals go_wp2
        obtain ⟨e0, e1, e2⟩ := HF1.out.putA (.int .i64 c) (.int .i64 d) (Obj.cells #[Value.int .i64 c, .int .i64 d] 27)
        exact bodyPost_ret (v := .tuple #[.slice none 0 0, .agg #[.int .i64 c, .int .i64 d]]) (by simp [results, Try.results40, go_sem, e0, e1]) rfl ⟨e2.drew, Or.inl ⟨c, d, Hspec.out, Hc.out, rfl⟩⟩
    · have hl1 : ((mb.length : Int) != (ma.length : Int)) = true := by simp; omega
      have hl2 : ((mb.length : Int) == (ma.length : Int)) = false := by simp; omega
      have hl3 : ((mb.length : Int) == ((ma.length : Nat) : Int)) = false := hl2
      go_enter Try.func40, Try.ntmps40
      go_wp2_with (go_at_call 83; refine (fault_any _ _ _).mono ?_; rintro e w1 ⟨rfl, rfl⟩)
      exact bodyPost_ret (v := .tuple #[.slice none 0 0, .agg #[.int .i64 6, .int .i64 ma.length]]) (by simp [results, Try.results40, go_sem]) rfl ⟨below2 _ _ _, Or.inl ⟨6, _, Or.inr (Or.inl ⟨by omega, hlen, rfl, rfl⟩), by omega, rfl⟩⟩

end Go.Proofs.Ytfccfmjamdpeaaa
