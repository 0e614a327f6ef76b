/- The memory of assign.add, told by six rows: what a store into one of them does. No program in sight. -/
import Derived.Test.YtfccfmjamdpeaaaMem
import Derived.Test.YtfccfmjamdpeaaaHung
namespace Go.Proofs.Ytfccfmjamdpeaaa
open Go.RowKit

def ri (f : Nat → Int) : Nat → Value := fun k => .int .i64 (f k)
def rn (f : Nat → Nat) : Nat → Value := fun k => .int .i64 (f k : Int)
def rb (f : Nat → Bool) : Nat → Value := fun k => .bool (f k)

/-- Six blocks, all different. -/
structure Dis (u v r b f s : Nat) : Prop where
  uv : u ≠ v
  ur : u ≠ r
  ub : u ≠ b
  uf : u ≠ f
  us : u ≠ s
  vr : v ≠ r
  vb : v ≠ b
  vf : v ≠ f
  vs : v ≠ s
  rb : r ≠ b
  rf : r ≠ f
  rs : r ≠ s
  bf : b ≠ f
  bs : b ≠ s
  fs : f ≠ s

structure H6 (w0 w : World) (n u v r b f s : Nat) (U V B : Nat → Int) (R F : Nat → Nat) (us : Nat → Bool) : Prop where
  chg : Chg (fun k => k = u ∨ k = v ∨ k = r) w0 w
  new : w0.heap.size ≤ b ∧ w0.heap.size ≤ f ∧ w0.heap.size ≤ s
  hu : w.rowIs u 3 n (ri U)
  hv : w.rowIs v 3 n (ri V)
  hr : w.rowIs r 3 n (rn R)
  hb : w.rowIs b 3 n (ri B)
  hf : w.rowIs f 3 n (rn F)
  hs : w.rowIs s 4 n (rb us)

section
variable {w0 w : World} {n u v r b f s : Nat} {U V B : Nat → Int} {R F : Nat → Nat} {us : Nat → Bool}

theorem row_ri {g g' : Nat → Int} {b t n : Nat} (h : w.rowIs b t n (ri g)) (e : ∀ k, k < n → g k = g' k) : w.rowIs b t n (ri g') := h.congr fun k hk => by simp [ri, e k hk]
theorem row_rn {g g' : Nat → Nat} {b t n : Nat} (h : w.rowIs b t n (rn g)) (e : ∀ k, k < n → g k = g' k) : w.rowIs b t n (rn g') := h.congr fun k hk => by simp [rn, e k hk]
theorem row_rb {g g' : Nat → Bool} {b t n : Nat} (h : w.rowIs b t n (rb g)) (e : ∀ k, k < n → g k = g' k) : w.rowIs b t n (rb g') := h.congr fun k hk => by simp [rb, e k hk]

theorem row_set_ri {g : Nat → Int} {b t n : Nat} (h : w.rowIs b t n (ri g)) (k : Nat) (x : Int) : (w.setCell ⟨b, k, none⟩ (.int .i64 x)).rowIs b t n (ri fun q => if q = k then x else g q) :=
  (h.set k _).congr fun q _ => by simp only [ri]; split <;> rfl
theorem row_set_rn {g : Nat → Nat} {b t n : Nat} (h : w.rowIs b t n (rn g)) (k x : Nat) : (w.setCell ⟨b, k, none⟩ (.int .i64 (x : Int))).rowIs b t n (rn fun q => if q = k then x else g q) :=
  (h.set k _).congr fun q _ => by simp only [rn]; split <;> rfl
theorem row_set_rb {g : Nat → Bool} {b t n : Nat} (h : w.rowIs b t n (rb g)) (k : Nat) (x : Bool) : (w.setCell ⟨b, k, none⟩ (.bool x)).rowIs b t n (rb fun q => if q = k then x else g q) :=
  (h.set k _).congr fun q _ => by simp only [rb]; split <;> rfl

variable (h : H6 w0 w n u v r b f s U V B R F us) (d : Dis u v r b f s)
include h

theorem H6.drewN (k : Nat) : H6 w0 (w.drewN k) n u v r b f s U V B R F us :=
  ⟨h.chg.drewN k, h.new, h.hu, h.hv, h.hr, h.hb, h.hf, h.hs⟩
theorem H6.below {B0 : Nat} (h1 : B0 ≤ w0.heap.size) (a : B0 ≤ u) (b' : B0 ≤ v) (c : B0 ≤ r) : Below B0 w0 w :=
  h.chg.toBelow h1 (fun k hk hs => by omega)

theorem H6.cu {k : Nat} (hk : k < n) : w.cell? ⟨u, k, none⟩ = some (.int .i64 (U k)) := h.hu.cell hk
theorem H6.cv {k : Nat} (hk : k < n) : w.cell? ⟨v, k, none⟩ = some (.int .i64 (V k)) := h.hv.cell hk
theorem H6.cr {k : Nat} (hk : k < n) : w.cell? ⟨r, k, none⟩ = some (.int .i64 (R k : Int)) := h.hr.cell hk
theorem H6.cb {k : Nat} (hk : k < n) : w.cell? ⟨b, k, none⟩ = some (.int .i64 (B k)) := h.hb.cell hk
theorem H6.cf {k : Nat} (hk : k < n) : w.cell? ⟨f, k, none⟩ = some (.int .i64 (F k : Int)) := h.hf.cell hk
theorem H6.cs {k : Nat} (hk : k < n) : w.cell? ⟨s, k, none⟩ = some (.bool (us k)) := h.hs.cell hk
theorem H6.zu (k : Nat) : w.frozen? ⟨u, k, none⟩ = false := h.hu.frozen k
theorem H6.zv (k : Nat) : w.frozen? ⟨v, k, none⟩ = false := h.hv.frozen k
theorem H6.zr (k : Nat) : w.frozen? ⟨r, k, none⟩ = false := h.hr.frozen k
theorem H6.zb (k : Nat) : w.frozen? ⟨b, k, none⟩ = false := h.hb.frozen k
theorem H6.zf (k : Nat) : w.frozen? ⟨f, k, none⟩ = false := h.hf.frozen k
theorem H6.zs (k : Nat) : w.frozen? ⟨s, k, none⟩ = false := h.hs.frozen k

include d
theorem H6.setU (k : Nat) (x : Int) : H6 w0 (w.setCell ⟨u, k, none⟩ (.int .i64 x)) n u v r b f s (fun q => if q = k then x else U q) V B R F us :=
  ⟨h.chg.setCell (fun _ => Or.inl rfl) _, h.new, row_set_ri h.hu k x, h.hv.setOther (Ne.symm d.uv) _, h.hr.setOther (Ne.symm d.ur) _, h.hb.setOther (Ne.symm d.ub) _, h.hf.setOther (Ne.symm d.uf) _, h.hs.setOther (Ne.symm d.us) _⟩
theorem H6.setV (k : Nat) (x : Int) : H6 w0 (w.setCell ⟨v, k, none⟩ (.int .i64 x)) n u v r b f s U (fun q => if q = k then x else V q) B R F us :=
  ⟨h.chg.setCell (fun _ => Or.inr (Or.inl rfl)) _, h.new, h.hu.setOther d.uv _, row_set_ri h.hv k x, h.hr.setOther (Ne.symm d.vr) _, h.hb.setOther (Ne.symm d.vb) _, h.hf.setOther (Ne.symm d.vf) _, h.hs.setOther (Ne.symm d.vs) _⟩
theorem H6.setR (k x : Nat) : H6 w0 (w.setCell ⟨r, k, none⟩ (.int .i64 (x : Int))) n u v r b f s U V B (fun q => if q = k then x else R q) F us :=
  ⟨h.chg.setCell (fun _ => Or.inr (Or.inr rfl)) _, h.new, h.hu.setOther d.ur _, h.hv.setOther d.vr _, row_set_rn h.hr k x, h.hb.setOther (Ne.symm d.rb) _, h.hf.setOther (Ne.symm d.rf) _, h.hs.setOther (Ne.symm d.rs) _⟩
theorem H6.setB (k : Nat) (x : Int) : H6 w0 (w.setCell ⟨b, k, none⟩ (.int .i64 x)) n u v r b f s U V (fun q => if q = k then x else B q) R F us :=
  ⟨h.chg.setCell (fun hl => absurd h.new.1 (by show ¬ _ ≤ b; have : b < w0.heap.size := hl; omega)) _, h.new, h.hu.setOther d.ub _, h.hv.setOther d.vb _, h.hr.setOther d.rb _, row_set_ri h.hb k x, h.hf.setOther (Ne.symm d.bf) _, h.hs.setOther (Ne.symm d.bs) _⟩
theorem H6.setF (k x : Nat) : H6 w0 (w.setCell ⟨f, k, none⟩ (.int .i64 (x : Int))) n u v r b f s U V B R (fun q => if q = k then x else F q) us :=
  ⟨h.chg.setCell (fun hl => absurd h.new.2.1 (by show ¬ _ ≤ f; have : f < w0.heap.size := hl; omega)) _, h.new, h.hu.setOther d.uf _, h.hv.setOther d.vf _, h.hr.setOther d.rf _, h.hb.setOther d.bf _, row_set_rn h.hf k x, h.hs.setOther (Ne.symm d.fs) _⟩
theorem H6.setS (k : Nat) (x : Bool) : H6 w0 (w.setCell ⟨s, k, none⟩ (.bool x)) n u v r b f s U V B R F (fun q => if q = k then x else us q) :=
  ⟨h.chg.setCell (fun hl => absurd h.new.2.2 (by show ¬ _ ≤ s; have : s < w0.heap.size := hl; omega)) _, h.new, h.hu.setOther d.us _, h.hv.setOther d.vs _, h.hr.setOther d.rs _, h.hb.setOther d.bs _, h.hf.setOther d.fs _, row_set_rb h.hs k x⟩
end

/-- The row of integers, said otherwise. -/
theorem H6.congr {w0 w : World} {n u v r b f s : Nat} {U V B : Nat → Int} {R F : Nat → Nat} {us : Nat → Bool} {U' V' B' : Nat → Int} {R' F' : Nat → Nat} {us' : Nat → Bool} (h : H6 w0 w n u v r b f s U V B R F us)
    (e1 : ∀ k, k < n → U k = U' k) (e2 : ∀ k, k < n → V k = V' k) (e3 : ∀ k, k < n → B k = B' k) (e4 : ∀ k, k < n → R k = R' k) (e5 : ∀ k, k < n → F k = F' k) (e6 : ∀ k, k < n → us k = us' k) :
    H6 w0 w n u v r b f s U' V' B' R' F' us' :=
  ⟨h.chg, h.new, row_ri h.hu e1, row_ri h.hv e2, row_rn h.hr e4, row_ri h.hb e3, row_rn h.hf e5, row_rb h.hs e6⟩

theorem size_setCell (w : World) (a : Addr) (x : Value) : (w.setCell a x).heap.size = w.heap.size := by simp [World.setCell]

/-- The third new row: all six stand. -/
theorem H6.begin {w wx : World} {n u v r b f : Nat} {U V : Nat → Int} {R : Nat → Nat} (hc : Chg (fun k => k = u ∨ k = v ∨ k = r) w wx) (hb0 : w.heap.size ≤ b) (hf0 : w.heap.size ≤ f) (hbf : b ≠ f)
    (huv : u ≠ v) (hur : u ≠ r) (hvr : v ≠ r) (lu : u < w.heap.size) (lv : v < w.heap.size) (lr : r < w.heap.size)
    (hu : wx.rowIs u 3 (n + 1) (ri U)) (hv : wx.rowIs v 3 (n + 1) (ri V)) (hr : wx.rowIs r 3 (n + 1) (rn R)) (hb : wx.rowIs b 3 (n + 1) (ri fun _ => 0)) (hf : wx.rowIs f 3 (n + 1) (rn fun _ => 0)) :
    Dis u v r b f wx.heap.size ∧ H6 w (wx.alloc (.cells (madeCells #[.bool false] (n + 1)) 4)) (n + 1) u v r b f wx.heap.size U V (fun _ => 0) R (fun _ => 0) (fun _ => false) := by
  have := hc.size
  have := hb.lt
  have := hf.lt
  exact ⟨by constructor <;> omega, hc.alloc _, ⟨hb0, hf0, by omega⟩, hu.alloc _, hv.alloc _, hr.alloc _, hb.alloc _, hf.alloc _, World.rowIs_made wx (.bool false) (n + 1) 4⟩

/-- Two new rows, in either order. -/
def AddStart (w : World) (n u v r : Nat) (U V : Nat → Int) (R : Nat → Nat) (s11 s12 : Value) (wx : World) : Prop :=
  ∃ b f, s11 = .slice (some ⟨b, 0, none⟩) (n + 1) (n + 1) ∧ s12 = .slice (some ⟨f, 0, none⟩) (n + 1) (n + 1) ∧ b ≠ f ∧ w.heap.size ≤ b ∧ w.heap.size ≤ f ∧
    Chg (fun k => k = u ∨ k = v ∨ k = r) w wx ∧ wx.rowIs u 3 (n + 1) (ri U) ∧ wx.rowIs v 3 (n + 1) (ri V) ∧ wx.rowIs r 3 (n + 1) (rn R) ∧
    wx.rowIs b 3 (n + 1) (ri fun _ => 0) ∧ wx.rowIs f 3 (n + 1) (rn fun _ => 0)

theorem AddStart.mk1 {w W : World} {n u v r : Nat} {U V : Nat → Int} {R : Nat → Nat} (hc : Chg (fun k => k = u ∨ k = v ∨ k = r) w W) (hu : W.rowIs u 3 (n + 1) (ri U)) (hv : W.rowIs v 3 (n + 1) (ri V)) (hr : W.rowIs r 3 (n + 1) (rn R)) :
    AddStart w n u v r U V R (.slice (some ⟨W.heap.size, 0, none⟩) (n + 1) (n + 1)) (.slice (some ⟨W.heap.size + 1, 0, none⟩) (n + 1) (n + 1)) ((W.alloc (.cells (madeCells #[.int .i64 0] (n + 1)) 3)).alloc (.cells (madeCells #[.int .i64 0] (n + 1)) 3)) := by
  have h1 := World.rowIs_made W (.int .i64 0) (n + 1) 3
  have h2 := World.rowIs_made (W.alloc (.cells (madeCells #[.int .i64 0] (n + 1)) 3)) (.int .i64 0) (n + 1) 3
  have e : (W.alloc (.cells (madeCells #[.int .i64 0] (n + 1)) 3)).heap.size = W.heap.size + 1 := by simp
  rw [e] at h2
  have := hc.size
  exact ⟨W.heap.size, W.heap.size + 1, rfl, rfl, by omega, by omega, by omega, (hc.alloc _).alloc _, (hu.alloc _).alloc _, (hv.alloc _).alloc _, (hr.alloc _).alloc _, h1.alloc _, h2⟩

theorem AddStart.mk2 {w W : World} {n u v r : Nat} {U V : Nat → Int} {R : Nat → Nat} (hc : Chg (fun k => k = u ∨ k = v ∨ k = r) w W) (hu : W.rowIs u 3 (n + 1) (ri U)) (hv : W.rowIs v 3 (n + 1) (ri V)) (hr : W.rowIs r 3 (n + 1) (rn R)) :
    AddStart w n u v r U V R (.slice (some ⟨W.heap.size + 1, 0, none⟩) (n + 1) (n + 1)) (.slice (some ⟨W.heap.size, 0, none⟩) (n + 1) (n + 1)) ((W.alloc (.cells (madeCells #[.int .i64 0] (n + 1)) 3)).alloc (.cells (madeCells #[.int .i64 0] (n + 1)) 3)) := by
  obtain ⟨b, f, e1, e2, h1, h2, h3, h4, h5, h6, h7, h8, h9⟩ := AddStart.mk1 (n := n) hc hu hv hr
  simp only [Value.slice.injEq, Option.some.injEq, Addr.mk.injEq, and_true] at e1 e2
  subst e1 e2
  exact ⟨_, _, rfl, rfl, by omega, h3, h2, h4, h5, h6, h7, h9, h8⟩

theorem AddStart.drew {w wx : World} {n u v r : Nat} {U V : Nat → Int} {R : Nat → Nat} {s11 s12 : Value} (h : AddStart w n u v r U V R s11 s12 wx) : AddStart w n u v r U V R s11 s12 wx.drew := by
  obtain ⟨b, f, e1, e2, h1, h2, h3, h4, h5, h6, h7, h8, h9⟩ := h
  exact ⟨b, f, e1, e2, h1, h2, h3, h4.drew, h5, h6, h7, h8, h9⟩

end Go.Proofs.Ytfccfmjamdpeaaa
