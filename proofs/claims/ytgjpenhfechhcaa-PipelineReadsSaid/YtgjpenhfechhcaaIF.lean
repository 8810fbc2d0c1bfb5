/- An instruction that lies in a block of the call's own, and how it stays: for the walks of the statements. -/
import Derived.Test.YtgjpenhfechhcaaA8
import Derived.OpenShut
namespace Go.Proofs.Ytgjpenhfechhcaa
open Go.RowKit Go.Proofs.YtgjpenhfechhcaaW.PrintWords Go.Proofs.YtgjpenhfechhcaaW.PrintLast Go.Proofs.YtgjpenhfechhcaaW.PrintMore
open PIsaDecodes

/-- block A holds an instruction -/
structure IF (A : Nat) (op a b c m : Int) (W : World) : Prop where
  lt : A < W.heap.size
  i0 : W.cell? ⟨A, 0, none⟩ = some (.int .u8 op)
  i1 : W.cell? ⟨A, 1, none⟩ = some (.int .i64 a)
  i2 : W.cell? ⟨A, 2, none⟩ = some (.int .i64 b)
  i3 : W.cell? ⟨A, 3, none⟩ = some (.int .i64 c)
  i4 : W.cell? ⟨A, 4, none⟩ = some (.int .i64 m)
theorem IF.step {A : Nat} {op a b c m : Int} {W W' : World} (h : IF A op a b c m W) (hb : Below W.heap.size W W') : IF A op a b c m W' :=
  ⟨Nat.lt_of_lt_of_le h.lt hb.size, (hb.cell (p := ⟨A, 0, none⟩) h.lt).trans h.i0, (hb.cell (p := ⟨A, 1, none⟩) h.lt).trans h.i1, (hb.cell (p := ⟨A, 2, none⟩) h.lt).trans h.i2, (hb.cell (p := ⟨A, 3, none⟩) h.lt).trans h.i3, (hb.cell (p := ⟨A, 4, none⟩) h.lt).trans h.i4⟩
theorem IF.new (op a b c m : Int) (W : World) : IF W.heap.size op a b c m (W.alloc (.cells #[.int .u8 op, .int .i64 a, .int .i64 b, .int .i64 c, .int .i64 m] 23)) := by
  refine ⟨by simp, ?_, ?_, ?_, ?_, ?_⟩ <;> (rw [World.cell?_alloc_at _ _ _ _ rfl]; rfl)
theorem IF.newAt (op a b c m : Int) (W : World) (A : Nat) (hA : A = W.heap.size) : IF A op a b c m (W.alloc (.cells #[.int .u8 op, .int .i64 a, .int .i64 b, .int .i64 c, .int .i64 m] 23)) := by subst hA; exact IF.new op a b c m W
theorem IF.alloc {A : Nat} {op a b c m : Int} {W : World} (h : IF A op a b c m W) (o : Obj) : IF A op a b c m (W.alloc o) := h.step ((Below.refl _ _).alloc (Nat.le_refl _) o)
theorem below_next {w W W' : World} (h : Below w.heap.size w W) (hb : Below W.heap.size W W') : Below w.heap.size w W' := h.trans (hb.mono h.size)
theorem below_new {w W : World} (h : Below w.heap.size w W) (o : Obj) : Below w.heap.size w (W.alloc o) := h.alloc h.size o
theorem u8_bounds {n : Int} (h : (Lit.int .u8 n).wf = true) : 0 ≤ n ∧ n ≤ 255 := bounds_u8 h
theorem u32_bounds {n : Int} (h : (Lit.int .u32 n).wf = true) : 0 ≤ n ∧ n < 4294967296 := by have := bounds_u32 h; omega
end Go.Proofs.Ytgjpenhfechhcaa
