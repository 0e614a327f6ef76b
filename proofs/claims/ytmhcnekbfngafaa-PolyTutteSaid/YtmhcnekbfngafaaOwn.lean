/- Slices that the call itself builds by append: laws in the form that the walk takes. No program in sight. -/
import Derived.Test.YtmhcnekbfngafaaMem
import Derived.Laws.AppendOwnNone
namespace Go.Proofs.Ytmhcnekbfngafaa
open Go.RowKit

/-- Slice value v has the m one-cell elements xs, wherever. -/
def HasCells (w : World) (v : Value) (m : Nat) (xs : List Value) : Prop :=
  ∃ (a : Option Addr) (cap : Nat), v = .slice a m cap ∧ xs.length = m ∧ (a = none → m = 0 ∧ cap = 0) ∧ (∀ ad, a = some ad → ∀ j u, xs[j]? = some u → w.cell? (ad.add j) = some u) ∧ ∀ u ∈ xs, u.oneCell' = true

theorem IsInts.cells {w : World} {v : Value} {l : List Int} (h : IsInts w v l) : HasCells w v l.length (l.map (Value.int .i64)) := by
  obtain ⟨a, cap, b, o, rfl, h2, h3, h4, h4', h5⟩ := h
  refine ⟨a, cap, rfl, by simp, fun e => ⟨by have := h4' e; omega, h4' e⟩, fun ad had j u hu => ?_, ints_oneCell _ _⟩
  have hj : j < l.length := by have := (List.getElem?_eq_some_iff.1 hu).1; simpa using this
  rw [h4 (by omega)] at had
  obtain rfl := Option.some.inj had
  rw [Addr.add_lit, h5 j hj]
  have e : (l.map (Value.int .i64))[j]? = some (.int .i64 (l.getD j 0)) := by simp [List.getD, hj]
  rw [e] at hu
  exact hu

/-- One value in a new block of its own. -/
theorem HasCells.one (w : World) (v : Value) (t : TypeId) (hv : v.oneCell' = true) : HasCells (w.alloc (.cells #[v] t)) (.slice (some ⟨w.heap.size, 0, none⟩) 1 1) 1 [v] := by
  refine ⟨_, _, rfl, rfl, by simp, fun ad had j u hu => ?_, by simpa using hv⟩
  obtain rfl := Option.some.inj had
  have hj : j = 0 := by have := (List.getElem?_eq_some_iff.1 hu).1; simp at this; omega
  subst hj
  simp only [List.getElem?_cons_zero, Option.some.injEq] at hu
  subst hu
  simp [Addr.add]

/-- .. its number said otherwise. -/
theorem HasCells.at (w : World) (v : Value) (t : TypeId) (hv : v.oneCell' = true) {b : Nat} (hb : b = w.heap.size) : HasCells (w.alloc (.cells #[v] t)) (.slice (some ⟨b, 0, none⟩) 1 1) 1 [v] := by
  subst hb; exact HasCells.one w v t hv

theorem grown_none {w w' : World} {base : Nat} {e : TypeId} {size : Nat} {v : Value} {n : Nat} {xs : List Value} (h : w.ownsRow base e size v n xs) (hg : w.grownBy w' none) : w'.ownsRow base e size v n xs :=
  h.kept hg (by cases v.ownBlock <;> simp)

theorem le_alloc {B : Nat} {w : World} {o : Obj} (h : B ≤ w.heap.size) : B ≤ (w.alloc o).heap.size := by rw [World.size_alloc]; omega

/-- An owned value is a slice of its length. -/
theorem ownsRow_form {w : World} {base : Nat} {e : TypeId} {size : Nat} {v : Value} {n : Nat} {xs : List Value} (h : w.ownsRow base e size v n xs) : ∃ a c, v = .slice a n c := by
  rcases h.2 with ⟨rfl, rfl⟩ | ⟨g, cap, cur, rfl, _⟩
  · exact ⟨none, 0, rfl⟩
  · exact ⟨_, _, rfl⟩

/-- What is owned stays owned where blocks of another element type alone have turned. -/
theorem ownsRow_typed {w w' : World} {base : Nat} {e : TypeId} {size : Nat} {v : Value} {n : Nat} {xs : List Value} {row : Option Nat} (h : w.ownsRow base e size v n xs) (hg : w.grownBy w' row)
    (hr : ∀ g, row = some g → ∃ c e' fz, w.heap[g]? = some (.cells c e' fz) ∧ e' ≠ e) : w'.ownsRow base e size v n xs := by
  refine h.kept hg ?_
  rcases h.2 with ⟨rfl, _⟩ | ⟨g, cap, cur, rfl, hb, hgg, _⟩
  · exact Or.inl rfl
  · refine Or.inr fun e1 => ?_
    obtain ⟨c, e', fz, h1, h2⟩ := hr g (by rw [← e1]; rfl)
    rw [hgg] at h1
    simp only [Option.some.injEq, Obj.cells.injEq] at h1
    exact h2 h1.2.1.symm

theorem ownsRow_type {w : World} {base : Nat} {e : TypeId} {size : Nat} {v : Value} {n : Nat} {xs : List Value} (h : w.ownsRow base e size v n xs) : ∀ g, v.ownBlock = some g → ∃ c fz, w.heap[g]? = some (.cells c e fz) := by
  intro g hg
  rcases h.2 with ⟨rfl, _⟩ | ⟨g', cap, cur, rfl, hb, hgg, _⟩
  · simp [Value.ownBlock] at hg
  · simp only [Value.ownBlock, Option.some.injEq] at hg
    subst hg
    exact ⟨_, _, hgg⟩

theorem ownsRow_below {w w' : World} {base B : Nat} {e : TypeId} {size : Nat} {v : Value} {n : Nat} {xs : List Value} (h : w.ownsRow base e size v n xs) (hb : Below B w w') (hB : w.heap.size ≤ B) : w'.ownsRow base e size v n xs :=
  h.kept (row := none) ⟨hb.os, hb.tape, hb.output, hb.size, fun k hk _ => hb.block k (by omega)⟩ (by cases hv : v.ownBlock <;> simp)

theorem ownsRow_cap {w : World} {base : Nat} {e : TypeId} {a : Option Addr} {c : Nat} {n : Nat} {xs : List Value} (h : w.ownsRow base e 1 (.slice a n c) n xs) :
    n ≤ c ∧ c ≤ 9223372036854775807 ∧ (a = none → c = 0) ∧ ∃ b, (0 < n → a = some ⟨b, 0, none⟩ ∧ base ≤ b) ∧ ∀ j u, xs[j]? = some u → w.cell? ⟨b, j, none⟩ = some u := by
  have hx := h.1
  rcases h.2 with ⟨h1, rfl⟩ | ⟨g, cap, cur, h1, hb, hgg, h3, h4, h5, h6⟩
  · simp only [Value.slice.injEq] at h1
    obtain ⟨rfl, -, rfl⟩ := h1
    have : xs = [] := List.eq_nil_of_length_eq_zero (by omega)
    subst this
    exact ⟨by omega, by omega, fun _ => rfl, 0, by omega, by simp⟩
  · simp only [Value.slice.injEq] at h1
    obtain ⟨rfl, -, rfl⟩ := h1
    refine ⟨h3, by unfold maxLen at h4; omega, by simp, g, fun _ => ⟨rfl, hb⟩, fun j u hu => ?_⟩
    have := h.cells (g := g) rfl j u hu
    rwa [Addr.add_lit, Nat.zero_add] at this

/-- An owned row of integers reads as them. -/
theorem IsInts.owned {w : World} {base : Nat} {e : TypeId} {v : Value} {n : Nat} {l : List Int} (h : w.ownsRow base e 1 v n (l.map (Value.int .i64))) : IsInts w v l := by
  have hl : n = l.length := by have := h.1; simpa using this.symm
  subst hl
  obtain ⟨a, c, rfl⟩ := ownsRow_form h
  obtain ⟨h1, h2, h3, b, h4, h5⟩ := ownsRow_cap h
  refine ⟨a, c, b, 0, rfl, h1, h2, fun hp => (h4 hp).1, h3, fun j hj => ?_⟩
  rw [Nat.zero_add]
  exact h5 j _ (by simp [List.getD, hj])

/-- 'append' onto what the call owns, of whatever one-cell elements: it may be that nothing is appended. -/
theorem wpList_append_has {P : Program} {w : World} {ops : Array Oper} {rest : List Oper} {o : Oper} {a : Act} {Q : Exit → Act → World → Prop} (hgd : o.guard = none) (s x : Operand) (t : TypeId)
    (ho : o.op = .call { callee := .builtin .append, args := #[s, x], argTypes := #[t, t] })
    (base : Nat) (e : TypeId) (z : Value) (bytes : Nat) (ht : P.underlying t = some (.slice e)) (hinfo : (P.info? e).map (fun i => (i.zero, i.size, i.bytes)) = some (some z, 1, bytes)) (hz1 : z.cells.size = 1)
    (v : Value) (n : Nat) (xs : List Value) (hs : a.eval s = v) (hown : w.ownsRow base e 1 v n xs)
    (src : Value) (m : Nat) (news : List Value) (hx : a.eval x = src) (hsrc : HasCells w src m news)
    (h63 : n + m ≤ 9223372036854775807) (hbytes : (n + m) * bytes ≤ 140737488355328) (hbase : base ≤ w.heap.size)
    (h : ∀ a' c' w', w'.ownsRow base e 1 (.slice a' (n + m) c') (n + m) (xs ++ news) → w.grownBy w' v.ownBlock → wpList P ops Q rest (a.put o.dst (.slice a' (n + m) c')) w') : wpList P ops Q (o :: rest) a w := by
  obtain ⟨i, hi, hz0, hsz, hby⟩ := info_parts hinfo
  obtain ⟨ao, cap, rfl, hl, hnone, hcells, hone⟩ := hsrc
  cases ao with
  | none =>
    obtain ⟨rfl, rfl⟩ := hnone rfl
    have hn : news = [] := List.eq_nil_of_length_eq_zero hl
    subst hn
    obtain ⟨a', c', rfl⟩ := ownsRow_form hown
    exact wpList_append_own_none hgd s x t ho base e i 1 ht hi _ n xs hs hown hx (h a' c' w (by simpa using hown) (World.grownBy.refl _ _))
  | some ad =>
    refine wpList_append_own w hgd s x t ho base e i z 1 bytes ht hi hz0 hsz hby hz1 (by omega) v n xs hs hown ad m cap news hx (by omega) (hcells ad rfl) hone (by unfold maxLen; omega) hbytes hbase fun v' w' h1 h2 _ => ?_
    obtain ⟨a', c', rfl⟩ := ownsRow_form h1
    exact h a' c' w' h1 h2

end Go.Proofs.Ytmhcnekbfngafaa
