/- Three rows of counters in memory; slices of bytes. -/
import Derived.Test.YtcbofikjcgdjmaaG7
import Derived.Deep.DeepCutAuto
namespace Go.Proofs.Ytcbofikjcgdjmaa
set_option linter.unusedVariables false
set_option linter.unusedSimpArgs false
open Go.RowKit Go.Maps

/-- behind the address A lie the bytes xs -/
def UV (w : World) (A : Option Addr) (xs : List Int) : Prop :=
  0 < xs.length → ∃ b off, A = some ⟨b, off, none⟩ ∧ b < w.heap.size ∧ ∀ j, j < xs.length → w.cell? ⟨b, off + j, none⟩ = some (.int .u8 (xs.getD j 0))
theorem UV.step {w w' : World} {A : Option Addr} {xs : List Int} (h : UV w A xs) (hb : Below w.heap.size w w') : UV w' A xs := fun hp => by
  obtain ⟨b, off, hA, hlt, hc⟩ := h hp
  exact ⟨b, off, hA, Nat.lt_of_lt_of_le hlt hb.size, fun j hj => (hb.cell (p := ⟨b, off + j, none⟩) hlt).trans (hc j hj)⟩
def updN (f : Nat → Nat) (i v : Nat) : Nat → Nat := fun j => if j = i then v else f j
/-- three rows of n counters, above N; below N all lies as in V -/
structure W3 (V : World) (N pp pe pr n : Nat) (p e r : Nat → Nat) (W : World) : Prop where
  rp : W.rowIs pp 3 n (fun i => .int .i64 (p i : Int))
  re : W.rowIs pe 3 n (fun i => .int .i64 (e i : Int))
  rr : W.rowIs pr 3 n (fun i => .int .i64 (r i : Int))
  d1 : pp ≠ pe
  d2 : pp ≠ pr
  d3 : pe ≠ pr
  n1 : N ≤ pp
  n2 : N ≤ pe
  n3 : N ≤ pr
  bel : Below N V W
section
variable {V W W' : World} {N pp pe pr n : Nat} {p e r : Nat → Nat}
theorem W3.setP (h : W3 V N pp pe pr n p e r W) (i v : Nat) : W3 V N pp pe pr n (updN p i v) e r (W.setCell ⟨pp, i, none⟩ (.int .i64 (v : Int))) :=
  ⟨(h.rp.set i _).congr fun j _ => by unfold updN; by_cases q : j = i <;> simp [q], h.re.setOther (a := ⟨pp, i, none⟩) (Ne.symm h.d1) _, h.rr.setOther (a := ⟨pp, i, none⟩) (Ne.symm h.d2) _, h.d1, h.d2, h.d3, h.n1, h.n2, h.n3, h.bel.setCell (p := ⟨pp, i, none⟩) h.n1 _⟩
theorem W3.setE (h : W3 V N pp pe pr n p e r W) (i v : Nat) : W3 V N pp pe pr n p (updN e i v) r (W.setCell ⟨pe, i, none⟩ (.int .i64 (v : Int))) :=
  ⟨h.rp.setOther (a := ⟨pe, i, none⟩) h.d1 _, (h.re.set i _).congr fun j _ => by unfold updN; by_cases q : j = i <;> simp [q], h.rr.setOther (a := ⟨pe, i, none⟩) (Ne.symm h.d3) _, h.d1, h.d2, h.d3, h.n1, h.n2, h.n3, h.bel.setCell (p := ⟨pe, i, none⟩) h.n2 _⟩
theorem W3.setR (h : W3 V N pp pe pr n p e r W) (i v : Nat) : W3 V N pp pe pr n p e (updN r i v) (W.setCell ⟨pr, i, none⟩ (.int .i64 (v : Int))) :=
  ⟨h.rp.setOther (a := ⟨pr, i, none⟩) h.d2 _, h.re.setOther (a := ⟨pr, i, none⟩) h.d3 _, (h.rr.set i _).congr fun j _ => by unfold updN; by_cases q : j = i <;> simp [q], h.d1, h.d2, h.d3, h.n1, h.n2, h.n3, h.bel.setCell (p := ⟨pr, i, none⟩) h.n3 _⟩
theorem W3.below (h : W3 V N pp pe pr n p e r W) (hb : Below W.heap.size W W') : W3 V N pp pe pr n p e r W' :=
  ⟨rowIs_below h.rp hb, rowIs_below h.re hb, rowIs_below h.rr hb, h.d1, h.d2, h.d3, h.n1, h.n2, h.n3, h.bel.trans (hb.mono (by have := h.rp.lt; have := h.n1; omega))⟩
theorem W3.alloc (h : W3 V N pp pe pr n p e r W) (o : Obj) : W3 V N pp pe pr n p e r (W.alloc o) := h.below (below_new (Below.refl _ _) o)
theorem W3.drewN (h : W3 V N pp pe pr n p e r W) (q : Nat) : W3 V N pp pe pr n p e r (W.drewN q) := h.below (below_drewN (Below.refl _ _) q)
/-- a map is turned -/
theorem W3.map (h : W3 V N pp pe pr n p e r W) {mb q : Nat} {f : Int → Option Value} (hm : HMap W mb q f) (hn : N ≤ mb) (hg : W.grownBy W' (some mb)) : W3 V N pp pe pr n p e r W' := by
  have hne : ∀ {g : Nat} {k : Nat → Value}, W.rowIs g 3 n k → some g ≠ some mb := fun {g k} hr he => by
    cases he
    obtain ⟨D, ⟨es, clock, hb, _⟩, _⟩ := hm
    obtain ⟨c, hc, _⟩ := hr
    rw [hb] at hc; cases hc
  exact ⟨h.rp.of_block (hg.block pp h.rp.lt (hne h.rp)), h.re.of_block (hg.block pe h.re.lt (hne h.re)), h.rr.of_block (hg.block pr h.rr.lt (hne h.rr)), h.d1, h.d2, h.d3, h.n1, h.n2, h.n3,
    h.bel.grown hg (by have := h.rp.lt; have := h.n1; omega) (fun k e => by cases e; exact hn)⟩
end
theorem HMap.ne_row {W : World} {b q : Nat} {f : Int → Option Value} (hm : HMap W b q f) {g n : Nat} {k : Nat → Value} (hr : W.rowIs g 3 n k) : b ≠ g := fun he => by
  subst he
  obtain ⟨D, ⟨es, clock, hb, _⟩, _⟩ := hm
  obtain ⟨c, hc, _⟩ := hr
  rw [hb] at hc; cases hc
theorem W3.made (W : World) (n pe pr : Nat) {W3' : World} (h1 : W.heap.size + 1 ≤ pe) (h2 : W.heap.size + 1 ≤ pr) (h3 : pe ≠ pr)
    (he : W3'.rowIs pe 3 n (fun _ => .int .i64 0)) (hr : W3'.rowIs pr 3 n (fun _ => .int .i64 0)) (hb : Below (W.heap.size + 1) (W.alloc (.cells (madeCells #[.int .i64 0] n) 3)) W3') :
    W3 W W.heap.size W.heap.size pe pr n (fun _ => 0) (fun _ => 0) (fun _ => 0) W3' := by
  refine ⟨?_, he, hr, by omega, by omega, h3, Nat.le_refl _, by omega, by omega, ?_⟩
  · exact (World.rowIs_made W (.int .i64 0) n 3).of_block (hb.block _ (by omega))
  · exact (below_new (Below.refl _ W) _).trans (hb.mono (by omega))
theorem W3.start12 (W : World) (n : Nat) : W3 W W.heap.size W.heap.size (W.heap.size + 1) (W.heap.size + 1 + 1) n (fun _ => 0) (fun _ => 0) (fun _ => 0)
    (((W.alloc (.cells (madeCells #[.int .i64 0] n) 3)).alloc (.cells (madeCells #[.int .i64 0] n) 3)).alloc (.cells (madeCells #[.int .i64 0] n) 3)).drew := by
  have h1 := World.rowIs_made (W.alloc (.cells (madeCells #[.int .i64 0] n) 3)) (.int .i64 0) n 3
  have h2 := World.rowIs_made ((W.alloc (.cells (madeCells #[.int .i64 0] n) 3)).alloc (.cells (madeCells #[.int .i64 0] n) 3)) (.int .i64 0) n 3
  rw [World.size_alloc] at h1 h2
  rw [World.size_alloc] at h2
  exact W3.made W n _ _ (by omega) (by omega) (by omega) (h1.alloc _) h2 (below_drewN ((((Below.refl _ _).alloc (by simp) _).alloc (by simp) _)) 1)
theorem W3.start21 (W : World) (n : Nat) : W3 W W.heap.size W.heap.size (W.heap.size + 1 + 1) (W.heap.size + 1) n (fun _ => 0) (fun _ => 0) (fun _ => 0)
    (((W.alloc (.cells (madeCells #[.int .i64 0] n) 3)).alloc (.cells (madeCells #[.int .i64 0] n) 3)).alloc (.cells (madeCells #[.int .i64 0] n) 3)).drew := by
  have h1 := World.rowIs_made (W.alloc (.cells (madeCells #[.int .i64 0] n) 3)) (.int .i64 0) n 3
  have h2 := World.rowIs_made ((W.alloc (.cells (madeCells #[.int .i64 0] n) 3)).alloc (.cells (madeCells #[.int .i64 0] n) 3)) (.int .i64 0) n 3
  rw [World.size_alloc] at h1 h2
  rw [World.size_alloc] at h2
  exact W3.made W n _ _ (by omega) (by omega) (by omega) h2 (h1.alloc _) (below_drewN ((((Below.refl _ _).alloc (by simp) _).alloc (by simp) _)) 1)
theorem cE_le (es : List (Int × Int)) (x : Int × Int) : ∀ q, cE es x q ≤ q
  | 0 => Nat.le_refl _
  | q + 1 => by have := cE_le es x q; unfold cE; split <;> omega
theorem fB_start : (fun y => if y = (0 : Int) then some (.bool true) else (fun _ => none : Int → Option Value) y) = fB (fun t => decide (t = 0)) := by
  funext y
  unfold fB
  by_cases e : y = (0 : Int)
  · subst e; simp
  · by_cases h0 : 0 ≤ y
    · have : ¬ y.toNat = 0 := by omega
      simp [e, this]
    · simp [e, h0]
theorem fB_none : (fun _ => none : Int → Option Value) = fB (fun _ => false) := by
  funext y; unfold fB; simp
end Go.Proofs.Ytcbofikjcgdjmaa
