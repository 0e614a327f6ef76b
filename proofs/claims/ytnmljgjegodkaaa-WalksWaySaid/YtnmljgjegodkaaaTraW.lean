/- walks.trail: a trail along every edge once. -/
import Derived.Test.YtnmljgjegodkaaaTraM
import Derived.Test.YtnmljgjegodkaaaPA
import Derived.BigQuiet
namespace Go.Proofs.Ytnmljgjegodkaaa
open Go.RowKit

/-- Behind the first k edges. -/
def TsSt (w : World) (l : List (Int × Int)) (N k : Nat) (wr : World) : Prop := ∃ V, NB wr w.heap.size N V (fun v => incA l v k) ∧ Below w.heap.size w wr
/-- Edges not used. -/
def freeE (U : Nat → Bool) (m : Nat) : Nat := remE (fun _ => (0, 0)) m U 0
theorem freeE_use {m i : Nat} {U : Nat → Bool} (hi : i < m) (h0 : U i = false) : freeE (fun q => if q = i then true else U q) m + 1 = freeE U m := by
  have := remE_use (E := fun _ => (0, 0)) hi h0 0
  unfold freeE
  rw [← this]
  simp [incE]
/-- While the trail is made. -/
def TrSt (w : World) (N first p0 : Nat) (l : List (Int × Int)) (bU S : Nat) (g : Nat) (s11 s12 : Value) (wr : World) : Prop :=
  ∃ V X U O K eO, TraS w wr N l.length w.heap.size bU S V X U s11 s12 O K ∧ g = 2 * freeE U l.length + K.length ∧
    ((K = [] ∧ TrF N l.length (edE l) first p0 O eO) ∨ ∃ eS p, K ≠ [] ∧ TrI N l.length (edE l) first p0 X U K O eS eO p)

/-- The last of a row of one's own. -/
theorem own_lastT {w : World} {B : Nat} {v : Value} {K : List Nat} {x : Nat} (h : w.ownsRow B 3 1 v (K ++ [x]).length (nvals (K ++ [x]))) :
    ∃ g c, v = .slice (some ⟨g, 0, none⟩) (K.length + 1) c ∧ (K.length + 1 ≤ c ∧ K.length + 1 ≤ 9223372036854775807) ∧ w.cell? ⟨g, K.length, none⟩ = some (.int .i64 (x : Nat)) := by
  have hx : (nvals (K ++ [x]))[K.length]? = some (.int .i64 (x : Nat)) := by simp [nvals, ints]
  rcases h.2 with ⟨e, h0⟩ | ⟨g, cap, cur, e, -, -, hc, hmx, -⟩
  · simp at h0
  · have c := h.cells (g := g) (by rw [e]; rfl) _ _ hx
    rw [Addr.add_lit, Nat.zero_add] at c
    rw [List.length_append, List.length_singleton] at e hc
    exact ⟨g, cap, e, ⟨hc, by unfold maxLen at hmx; omega⟩, c⟩
theorem wrap_midT {x : Int} (h0 : -9223372036854775808 ≤ x) (h1 : x < 9223372036854775808) : IntKind.i64.wrap x = x := by
  simp [IntKind.wrap, IntKind.bits, IntKind.signed]; omega
theorem nvals_snoc (a : List Nat) (x : Nat) : nvals (a ++ [x]) = nvals a ++ nvals [x] := by simp [nvals, ints]
theorem JoinE.at {N : Nat} {l : List (Int × Int)} (hl : Ends N l) {i v : Nat} (hi : i < l.length) (hc : incE (edE l) i v = true) : ∃ X Y u : Nat, l.getD i (0, 0) = ((X : Int), (Y : Int)) ∧ X < N ∧ Y < N ∧ X + Y = v + u ∧ u < N ∧ v ≠ u ∧ JoinE (edE l) i v u := by
  obtain ⟨X, Y, he, hX, hY, hne⟩ := hl.at' i hi
  have hE : edE l i = (X, Y) := by unfold edE; rw [he]; simp
  unfold incE at hc
  rw [hE] at hc
  rcases Bool.or_eq_true _ _ |>.mp hc with h | h
  · have := of_decide_eq_true h
    simp only at this
    subst this
    exact ⟨X, Y, Y, he, hX, hY, rfl, hY, hne, .inl hE⟩
  · have := of_decide_eq_true h
    simp only at this
    subst this
    exact ⟨X, Y, X, he, hX, hY, Nat.add_comm _ _, hX, Ne.symm hne, .inr hE⟩
theorem TrI.few {n m first p0 p : Nat} {E : Nat → Nat × Nat} {A : Nat → List Nat} {U : Nat → Bool} {S O eS eO : List Nat} (h : TrI n m E first p0 A U S O eS eO p) : S.length ≤ m + 1 ∧ O.length ≤ m := by
  have h1 := nodup_lt m _ h.nodup h.lt
  rw [List.length_append] at h1
  have h2 := h.jS.len
  have h3 := h.jO.len
  rw [List.length_append, List.length_singleton] at h3
  omega

set_option maxHeartbeats 6400000 in
set_option maxRecDepth 100000 in
theorem wtrail_any {N first p : Nat} {l : List (Int × Int)} (hN : N ≤ 1000) (hf : first < N) (hl : Ends N l) (hlen : l.length ≤ 10000) (hp : ∀ v, v < N → (remE (edE l) l.length (fun _ => false) v + (if v = first then 1 else 0) + (if v = p then 1 else 0)) % 2 = 0) (s : Value) (w : World) (h : IsEdges w s l) :
    Calls Try.prog 53 #[.int .i64 (N : Int), s, .int .i64 (first : Int)] w fun e w' => ∃ v O eO, e = .returned v ∧ w'.ownsRow w.heap.size 3 1 v O.length (nvals O) ∧ Below w.heap.size w w' ∧ TrF N l.length (edE l) first p O eO := by
  obtain ⟨i3, hi3, -⟩ := info_parts info3
  obtain ⟨ad, cap, bb, o, rfl, hcap, hmax, hadr, -, hcell⟩ := h
  have Hl := Lib.hid hl; have Hp := Lib.hid hp; have Hadr := Lib.hid hadr; have Hcell := Lib.hid hcell
  have hmk := run_make_row' (P := Try.prog) 42 29 (.slice none 0 0) 24 Try.underlying42 infoS rfl .i64 .i64 N (by omega) (by omega)
  have hrow := World.rowIs_made w (.slice none 0 0) N 29
  have St : TsSt w l N 0 (w.alloc (.cells (madeCells #[.slice none 0 0] N) 29)) := ⟨fun _ => .slice none 0 0, ⟨hrow, Bank.start _ _ _ _⟩, below1 _ _⟩
  have HSt := Lib.hid St
  clear hrow St hl hp hadr hcell
  go_enter Try.func53, Try.ntmps53
  go_upto_region 2 with fail
  clear hmk
  generalize w.alloc (.cells (madeCells #[.slice none 0 0] N) 29) = w2 at *
  go_upto_region 3 with fail
  go_loopg [19] l.length (fun g s19 wr => ∃ k : Nat, k ≤ l.length ∧ g = l.length - k ∧ s19 = .int .i64 k ∧ TsSt w l N k wr)
  case atStart => exact ⟨0, Nat.zero_le _, rfl, rfl, HSt.out⟩
  case round =>
    obtain ⟨k, hk, rfl, rfl, V, hnb, hb⟩ := hrel
    by_cases hlt : k < l.length
    · have hadr := Hadr.out
      have hcell := Hcell.out
      obtain rfl := hadr (by omega)
      obtain ⟨X, Y, he, hX, hY, hne⟩ := Hl.out.at' k hlt
      have hcx := below_cell hb (hcell k hlt).1
      have hcy := below_cell hb (hcell k hlt).2
      rw [he] at hcx hcy
      simp only at hcx hcy
      have hsucc : ∀ v, incA l v (k + 1) = growN (growN (fun v => incA l v k) X [k]) Y [k] v := fun v => by
        rw [incA_succ he]
        unfold growN
        by_cases e1 : v = X
        · subst e1; simp [hne, Ne.symm hne]
        · by_cases e2 : v = Y
          · subst e2; simp [e1, Ne.symm e1]
          · simp [e1, e2, Ne.symm e1, Ne.symm e2]
      have hlx := incA_len l X k
      have hly := incA_len l Y k
      have Hsucc := Lib.hid hsucc
      have hbE := hb.alloc hb.size (Obj.cells #[.int .i64 (X : Int), .int .i64 (Y : Int)] 78)
      have hnE := hnb.below (below1 wr (Obj.cells #[.int .i64 (X : Int), .int .i64 (Y : Int)] 78))
      have hoE : ∀ r, r < N → (V r).ownBlock ≠ some wr.heap.size := fun r hr e => by have := (hnb.low hr _ e).2; omega
      have hEc := two_cells wr (.int .i64 (X : Int)) (.int .i64 (Y : Int)) 78
      have hEz : wr.heap.size < (wr.alloc (Obj.cells #[.int .i64 (X : Int), .int .i64 (Y : Int)] 78)).heap.size := by simp
      have hEb : w.heap.size < wr.heap.size := hnb.ro.lt
      clear hsucc hb hnb hcell hadr Hadr Hcell HSt
      go_upto_region 5 with fail
      generalize wr.alloc (Obj.cells #[.int .i64 (X : Int), .int .i64 (Y : Int)] 78) = w3 at *
      generalize wr.heap.size = E at *
      clear hcx hcy
      generalize hXX : (fun v => incA l v k) = XX at *
      have hlx1 : (XX X).length ≤ 20000 := by rw [← hXX]; show (incA l X k).length ≤ 20000; omega
      have hly1 : (XX Y).length ≤ 20000 := by rw [← hXX]; show (incA l Y k).length ≤ 20000; omega
      clear hXX hlx hly
      have H1 := Lib.hid (TsE.mk hnE hoE hEz hEb hEc.1 hEc.2 hbE)
      clear hnE hoE hEz hEb hEc hbE
      obtain ⟨ax1, cx1, ex1⟩ := H1.out.nb.form hX
      have Ex1 := Lib.hid ex1
      have t1 := H1.out.nb.ro.cell hX
      rw [ex1] at t1
      have ft1 := H1.out.nb.ro.frozen X
      have lt1 := H1.out.nb.ro.lt
      have e0 := H1.out.c0
      have e1 := H1.out.c1
      have lE1 := H1.out.hEl
      have sz1 := H1.out.sz
      clear ex1
      go_cut [] from 24 to 35 (fun wx => TsCut w N (growN XX X [k]) E X Y wx)
      case first =>
        go_region_law (refine step_append_at rfl _ _ 29 rfl (w.heap.size + 1) 3 (.int .i64 0) 8 Try.underlying29 info3 rfl (V X) (XX X).length _ Ex1.out.symm ((H1.out.da _).nb.owns hX) _ 1 (nvals [k]) rfl (HasCells.one _ _ _ rfl) (by omega) (by omega) (by omega) (H1.out.da _).sz ?_; intro a2 c2 w2 ho2 hg2 hat2; obtain ⟨G2, q0, q1, qr⟩ := (H1.out.da _).of (m := [k]) hX ho2 hg2 hat2; have qt := qr.cell hX; rw [Ex1.out] at qt; have qf := qr.frozen X; have ql := qr.lt; clear ho2 hg2 hat2 qr)
        all_goals
          go_wp2
          go_meet
          exact G2
      case rest =>
      obtain ⟨w4, rfl⟩ : ∃ w4 : World, w4 = wc := ⟨_, rfl⟩
      obtain ⟨V2, hnb2, hoE2, hc20, hc21, hb2⟩ := hcut
      have hX2 : (growN XX X [k] Y).length ≤ 20001 := by unfold growN; split <;> (try simp) <;> omega
      have hEb2 := H1.out.hEb
      have hEl2 : E < w4.heap.size := World.block_lt_of_cell? _ _ hc20
      generalize growN XX X [k] = X2 at *
      have H2 := Lib.hid (TsE.mk hnb2 hoE2 hEl2 hEb2 hc20 hc21 hb2)
      clear t1 ft1 lt1 e0 e1 lE1 sz1 hnb2 hoE2 hEl2 hEb2 hc20 hc21 hb2 H1 Ex1 hlx1 hly1
      go_upto_region 6 with fail
      obtain ⟨ax2, cx2, ex2⟩ := H2.out.nb.form hY
      have Ex2 := Lib.hid ex2
      have t2 := H2.out.nb.ro.cell hY
      rw [ex2] at t2
      have ft2 := H2.out.nb.ro.frozen Y
      have lt2 := H2.out.nb.ro.lt
      have e0 := H2.out.c0
      have e1 := H2.out.c1
      have lE2 := H2.out.hEl
      have sz2 := H2.out.sz
      clear ex2
      go_region_law (refine step_append_at rfl _ _ 29 rfl (w.heap.size + 1) 3 (.int .i64 0) 8 Try.underlying29 info3 rfl (V2 Y) (X2 Y).length _ Ex2.out.symm ((H2.out.da _).nb.owns hY) _ 1 (nvals [k]) rfl (HasCells.one _ _ _ rfl) (by omega) (by omega) (by omega) (H2.out.da _).sz ?_; intro a2 c2 w2 ho2 hg2 hat2; obtain ⟨G2, q0, q1, qr⟩ := (H2.out.da _).of (m := [k]) hY ho2 hg2 hat2; have qt := qr.cell hY; rw [Ex2.out] at qt; have qf := qr.frozen Y; have ql := qr.lt; clear ho2 hg2 hat2 qr)
      all_goals
        obtain ⟨V3, hnb3, -, -, -, hb3⟩ := G2
        have S3 := Lib.hid (show TsSt w l N (k + 1) _ from ⟨V3, hnb3.congr fun r _ => (Hsucc.out r).symm, hb3⟩)
        clear hnb3 hb3
        go_wp2
        go_roundg (l.length - (k + 1))
        case measure => go_light; omega
        case rel => exact ⟨k + 1, by omega, rfl, by go_num, S3.out⟩
    · obtain rfl : k = l.length := by omega
      clear HSt
      have hnbs := hnb
      have hlA := hnb.ro.lt
      obtain ⟨w3, rfl⟩ : ∃ w3 : World, w3 = wr := ⟨_, rfl⟩
      have hmk2 := run_make_row' (P := Try.prog) 51 4 (.bool false) 1 Try.underlying51 info4 rfl .i64 .i64 l.length (by omega) (by omega)
      have hr6 := (World.rowIs_made w3 (.bool false) l.length 4).congr (g := rb fun _ => false) fun _ _ => rfl
      have hb6 := below1 w3 (.cells (madeCells #[.bool false] l.length) 4)
      have hz6 : (w3.alloc (.cells (madeCells #[.bool false] l.length) 4)).heap.size = w3.heap.size + 1 := World.size_alloc _ _
      have Hnb := Lib.hid hnb
      have Hb := Lib.hid hb
      have Hr6 := Lib.hid hr6
      clear hnb hnbs hb hr6
      go_upto_region 9 with fail
      clear hmk2
      generalize w3.alloc (.cells (madeCells #[.bool false] l.length) 4) = w6 at *
      have hz7 : (w6.alloc (.cells #[.int .i64 (first : Int)] 3)).heap.size = w6.heap.size + 1 := World.size_alloc _ _
      have S0 : TrSt w N first p l w3.heap.size (w3.heap.size + 1) (2 * freeE (fun _ => false) l.length + 1) (.slice none 0 0) (.slice (some ⟨w6.heap.size, 0, none⟩) 1 1) (w6.alloc (.cells #[.int .i64 (first : Int)] 3)) := by
        have hb7 := below1 w6 (.cells #[.int .i64 (first : Int)] 3)
        have hs := World.ownsRow_lit (base := w6.heap.size) (e := 3) (size := 1) w6 #[.int .i64 (first : Int)] 1 (Nat.le_refl _) (by decide) rfl
        refine ⟨V, fun v => incA l v l.length, fun _ => false, [], [first], [], ⟨(Hb.out.trans (hb6.mono Hb.out.size)).trans (hb7.mono (by have := Hb.out.size; omega)), (Hnb.out.below hb6).below hb7, Hr6.out.of_block (hb7.block _ Hr6.out.lt), World.ownsRow_nil _ _ _ _, ownsRow_low hs (by omega), fun g e => (by cases e), fun r hr g e => ⟨by have := (Hnb.out.low hr g e).2; omega, fun e2 => by have := (Hnb.out.low hr g e).2; omega⟩, ⟨Nat.le_refl _, by omega⟩, ⟨by omega, by omega⟩, by omega, by omega⟩, rfl, .inr ⟨[], p, by simp, ?_⟩⟩
        exact TrI.start hf (fun v hv i => incA_mem Hl.out v _ (Nat.le_refl _) i) Hp.out
      rw [hz6] at S0
      have HS0 := Lib.hid S0
      clear S0 Hnb Hb Hr6
      go_upto_region 11 with fail
      generalize w6.alloc (.cells #[.int .i64 (first : Int)] 3) = w7 at *
      generalize w3.heap.size = bU at *
      have HbU := Lib.hid hlA
      clear hb6 hz6 hz7 hlA
      go_loopg [11, 12] (2 * freeE (fun _ => false) l.length + 1) (fun g s11 s12 wr => TrSt w N first p l bU (bU + 1) g s11 s12 wr)
      case atStart => exact HS0.out
      case round =>
        clear HS0
        obtain ⟨V, X, U, O, K, eO, hT, rfl, hcase⟩ := hrel
        obtain ⟨aO, cO, rfl⟩ := ownsRow_form hT.out
        have HT := Lib.hid hT
        rcases List.eq_nil_or_concat K with rfl | ⟨K0, v, hKe⟩
        · have hF : TrF N l.length (edE l) first p O eO := by
            rcases hcase with ⟨-, h⟩ | ⟨eS, p', h, -⟩
            · exact h
            · exact absurd rfl h
          have HF := Lib.hid hF
          obtain ⟨aS, cS, rfl⟩ := ownsRow_form hT.stk
          clear hT hF hcase
          go_wp2
          exact bodyPost_ret (v := .slice aO O.length cO) (by simp [results, Try.results53, go_sem]) rfl ⟨_, O, eO, rfl, ownsRow_low HT.out.out (by have := HT.out.lU.1; omega), HT.out.hb, HF.out⟩
        · rw [List.concat_eq_append] at hKe
          subst hKe
          obtain ⟨eS, p', -, hI⟩ : ∃ eS p', K0 ++ [v] ≠ [] ∧ TrI N l.length (edE l) first p X U (K0 ++ [v]) O eS eO p' := by
            rcases hcase with ⟨h, -⟩ | h
            · simp at h
            · exact h
          have HI := Lib.hid hI
          have hv : v < N := hI.rng.1 v (by simp)
          obtain ⟨gS, cS, eS', ⟨hcS, -⟩, cv⟩ := own_lastT hT.stk
          have hfew := hI.few
          rw [List.length_append, List.length_singleton] at hfew
          subst eS'
          clear hT hI hcase
          go_upto_region 13 with fail
          clear cv
          go_loopg [85] (X v).length (fun g _s85 wi => ∃ V X, TraS w wi N l.length w.heap.size bU (bU + 1) V X U (.slice aO O.length cO) (.slice (some ⟨gS, 0, none⟩) (K0.length + 1) cS) O (K0 ++ [v]) ∧ TrI N l.length (edE l) first p X U (K0 ++ [v]) O eS eO p' ∧ g = (X v).length)
          case atStart => exact ⟨V, X, HT.out, HI.out, rfl⟩
          case round =>
            clear HT HI
            obtain ⟨V1, X1, hT, hI, rfl⟩ := hrel
            have HT := Lib.hid hT
            have HI := Lib.hid hI
            have t1 := hT.nb.ro.cell hv
            have lt1 := hT.nb.ro.lt
            have ft1 := hT.nb.ro.frozen v
            rcases List.eq_nil_or_concat (X1 v) with hX | ⟨r, i, hX⟩
            · obtain ⟨a1, c1, ev⟩ := hT.nb.form hv
              rw [hX] at ev
              rw [ev] at t1
              have HX := Lib.hid hX
              have hsl := fun w => run_slice_hi (P := Try.prog) Try.underlying29 hi3 (some ⟨gS, 0, none⟩) (K0.length + 1) cS K0.length (by omega) w
              have HTd := Lib.hid (fun n => hT.below (Below.drewN' (Below.refl wr.heap.size wr) n))
              have hszd := fun n => (HTd.out n).sz
              clear hT hI hX ev
              go_upto_region 13 with fail
              go_quiet (fail)
              go_wp2_with (at_builtin; refine wpList_append_at rfl (.tmp 106) (.tmp 108) 29 rfl (bU + 1) 3 (.int .i64 0) 8 Try.underlying29 info3 rfl (.slice aO O.length cO) O.length (nvals O) rfl ((HTd.out _).below (below1 _ _)).out _ 1 (nvals [v]) rfl (HasCells.one _ _ _ rfl) (by omega) (by omega) (by omega) (by rw [World.size_alloc]; exact Nat.le_succ_of_le (hszd _)) ?_; intro a5 c5 w5 ho5 hg5 hat5; have HT5 := Lib.hid (((HTd.out _).below (below1 _ _)).appO (O' := O ++ [v]) (v' := .slice a5 (O.length + 1) c5) (by rw [List.length_append, List.length_singleton, nvals_snoc]; exact ho5) hg5 hat5); clear ho5 hg5 hat5)
              go_roundg (2 * freeE U l.length + K0.length)
              case measure => simp only [List.length_append, List.length_singleton]; omega
              case rel =>
                have h5 := HT5.out.popS
                rcases List.eq_nil_or_concat K0 with h0 | ⟨S1, z, h0⟩
                · subst h0
                  have hvf : v = first := by simpa using HI.out.bot
                  subst hvf
                  exact ⟨V1, X1, U, O ++ [v], [], eO, by simpa using h5, rfl, .inl ⟨rfl, HI.out.fin HX.out⟩⟩
                · rw [List.concat_eq_append] at h0
                  subst h0
                  obtain ⟨eS2, eO2, h2⟩ := HI.out.pop rfl HX.out
                  exact ⟨V1, X1, U, O ++ [v], S1 ++ [z], eO2, by simpa using h5, rfl, .inr ⟨eS2, z, by simp, h2⟩⟩
            · rw [List.concat_eq_append] at hX
              have hown := hT.nb.owns hv
              rw [hX] at hown
              obtain ⟨g1, c1, ev, ⟨hc1, hr1⟩, ci⟩ := own_lastT hown
              rw [ev] at t1
              have hil := (hI.sub v hv i (by rw [hX]; simp)).1
              have cu := hT.us.cell hil
              have fu := hT.us.frozen i
              have lu := hT.us.lt
              simp only [rb] at cu
              have HX := Lib.hid hX
              have Hev := Lib.hid ev
              clear hT hI hX ev hown
              by_cases hU : U i = true
              · rw [hU] at cu
                have hsl := fun w => run_slice_hi (P := Try.prog) Try.underlying29 hi3 (some ⟨g1, 0, none⟩) (r.length + 1) c1 r.length (by omega) w
                have hwr : IntKind.i64.wrap (r.length : Int) = (r.length : Int) := wrap_midT (by omega) (by omega)
                have hr0 : 0 ≤ (r.length : Int) := by omega
                have hrc : (r.length : Int) ≤ (c1 : Int) := by omega
                have HTd := Lib.hid (fun n => HT.out.below (Below.drewN' (Below.refl wr.heap.size wr) n))
                have HU := Lib.hid hU
                clear hU HT
                go_upto_region 13 with fail
                go_quiet (fail)
                go_upto_region 14 with fail
                go_region_law (fail)
                all_goals
                  go_wp2
                  go_roundg r.length
                  case measure => rw [HX.out]; simp
                  case rel => exact ⟨_, _, (HTd.out _).cutA hv Hev.out HX.out, HI.out.skip HX.out HU.out, by simp⟩
              · have hU : U i = false := by simpa using hU
                have HU := Lib.hid hU
                rw [hU] at cu
                obtain ⟨X0, Y0, u, hed, hX0, hY0, hsum, hu, hvu, hjoin⟩ := JoinE.at Hl.out hil (HI.out.sub v hv i (by rw [HX.out]; simp)).2
                have HP := Lib.hid (HI.out.push (S0 := K0) (u := u) rfl (by rw [HX.out]; simp) hU hjoin hvu hu)
                obtain rfl := Hadr.out (by omega)
                have hx0 := below_cell HT.out.hb (Hcell.out i hil).1
                have hy0 := below_cell HT.out.hb (Hcell.out i hil).2
                rw [hed] at hx0 hy0
                simp only at hx0 hy0
                have hw1 : IntKind.i64.wrap ((X0 : Int) + (Y0 : Int)) = (X0 : Int) + (Y0 : Int) := wrap_midT (by omega) (by omega)
                have hw2 : IntKind.i64.wrap ((X0 : Int) + (Y0 : Int) - (v : Int)) = (u : Int) := by rw [wrap_midT (by omega) (by omega)]; omega
                have HTd := Lib.hid (fun n => HT.out.below (Below.drewN' (Below.refl wr.heap.size wr) n))
                clear hU HT
                go_upto_region 13 with fail
                have hi8 := hil
                have HX8 := Lib.hid (fun n => show ((wr.drewN n).setCell ⟨bU, i, none⟩ (.bool true)).cell? ⟨bb, o + i * 2, none⟩ = some (.int .i64 (X0 : Int)) ∧ ((wr.drewN n).setCell ⟨bU, i, none⟩ (.bool true)).cell? ⟨bb, o + i * 2 + 1, none⟩ = some (.int .i64 (Y0 : Int)) from by
                  have hbl : bb < w.heap.size := World.block_lt_of_cell? _ _ (Hcell.out i hil).1
                  have hAU := HbU.out
                  exact ⟨by rw [World.cell?_setCell_far _ _ _ _ (show bU ≠ bb by omega)]; exact hx0, by rw [World.cell?_setCell_far _ _ _ _ (show bU ≠ bb by omega)]; exact hy0⟩)
                go_quiet (fail)
                go_upto_region 18 with fail
                obtain ⟨n1, rfl⟩ : ∃ n1 : Nat, n1 = nq := ⟨_, rfl⟩
                clear hx0 hy0
                go_quiet (fail)
                go_upto_region 20 with fail
                have HT8 := Lib.hid ((HTd.out (n1 + nq)).setU i true)
                have hx8 := (HX8.out (n1 + nq)).1
                have hy8 := (HX8.out (n1 + nq)).2
                clear t1 lt1 ft1 cu ci fu lu HX8 HTd
                generalize (wr.drewN (n1 + nq)).setCell ⟨bU, i, none⟩ (.bool true) = w8 at *
                have HT9 := Lib.hid (HT8.out.below (((Below.refl w8.heap.size w8).alloc (Nat.le_refl _) (Obj.cells #[.int .i64 (u : Int)] 3)).drew))
                have HK9 := Lib.hid (show ((w8.alloc (Obj.cells #[.int .i64 (u : Int)] 3)).drew).ownsRow (bU + 1) 3 1 (.slice (some ⟨gS, 0, none⟩) (K0.length + 1) cS) (K0.length + 1) (nvals (K0 ++ [v])) from by have h := HT9.out.stk; rw [List.length_append, List.length_singleton] at h; exact h)
                have hs9 := HT9.out.sz
                go_region_law (refine step_append_at rfl _ _ 29 rfl (bU + 1) 3 (.int .i64 0) 8 Try.underlying29 info3 rfl (.slice (some ⟨gS, 0, none⟩) (K0.length + 1) cS) (K0.length + 1) (nvals (K0 ++ [v])) rfl HK9.out _ 1 (nvals [u]) rfl (HasCells.one _ _ _ rfl) (by omega) (by omega) (by omega) hs9 ?_; intro a5 c5 w5 ho5 hg5 hat5; have HT5 := Lib.hid (HT9.out.appS (O' := K0 ++ [v] ++ [u]) (v' := .slice a5 (K0.length + 1 + 1) c5) (by rw [List.length_append, List.length_append, List.length_singleton, List.length_singleton, nvals_snoc]; exact ho5) hg5 hat5); clear ho5 hg5 hat5)
                all_goals
                  go_wp2
                  go_roundg (2 * freeE (fun q => if q = i then true else U q) l.length + (K0.length + 1 + 1))
                  case measure => have := freeE_use (m := l.length) hil HU.out; (try simp only [List.length_append, List.length_singleton]); omega
                  case rel => exact ⟨V1, X1, _, O, K0 ++ [v] ++ [u], eO, HT5.out, by simp, .inr ⟨_, _, by simp, HP.out⟩⟩

end Go.Proofs.Ytnmljgjegodkaaa
