/- A slice of bytes that came in; a byte that came in. -/
import Derived.Test.YtcbofikjcgdjmaaOpenB
import Derived.Test.YtcbofikjcgdjmaaC5
namespace Go.Proofs.Ytcbofikjcgdjmaa
set_option linter.unusedVariables false
open Go.Joins Go.ChangeShapes Go.WideShapes Go.RowKit Go.Deep

theorem cells5 : Try.prog.cellsOf 5 = 1 := by kernel_rfl
theorem wf_u8 {x : Int} (h : (Lit.int .u8 x).wf = true) : 0 ≤ x ∧ x < 256 := by
  have h1 : IntKind.u8.min ≤ x ∧ x ≤ IntKind.u8.max := by simpa [Lit.wf] using h
  have e1 : IntKind.u8.min = 0 := by decide
  have e2 : IntKind.u8.max = 255 := by decide
  omega
section
variable {H : Type} {enc : TypeId × Value → H} {P : Program} {w : World} {base : Nat} {spare : Nat → Bool} {held : Bool}
set_option maxRecDepth 100000 in
theorem open_uv {fuel : Nat} {v : Value} {x : DataW H × List MemPlace} (h : DataW.trod enc Try.prog w base spare held fuel 57 [v] = some x) :
    ∃ A xs c, v = .slice A xs.length c ∧ UV w A xs ∧ ∀ j, j < xs.length → 0 ≤ xs.getD j 0 ∧ xs.getD j 0 < 256 := by
  rcases open_slice1 Try.underlying57 cells5 h with ⟨hc, rfl⟩ | ⟨a, len, cap, m, n, V, D, Pl, hc, hb, hl, hm, hmm, rfl, hi⟩
  · cases hc
    exact ⟨none, [], 0, rfl, fun h => absurd h (by simp), fun j hj => by simp at hj⟩
  · cases hc
    have hlm : len ≤ m := by rw [hmm]; split <;> omega
    have hall : ∀ i, i < len → ∃ x : Int, w.cell? (a.add i) = some (.int .u8 x) ∧ (Lit.int .u8 x).wf = true := fun i hil => by
      obtain ⟨h1, h2⟩ := hi i (by omega)
      obtain ⟨x0, e0, _, w0⟩ := DataW.trod_int Try.underlying5 h2
      simp only [List.cons.injEq, and_true] at e0
      exact ⟨x0, by rw [h1, e0], w0⟩
    obtain ⟨xs, hxl, hx⟩ := list_of hall
    subst hxl
    refine ⟨some a, xs, cap, rfl, fun hp => ?_, fun j hj => wf_u8 (hx j hj).2⟩
    obtain ⟨b, off, rfl, hlt⟩ := spot_of (f := fun i => .int .u8 (xs.getD i default)) (fun i hi => (hx i hi).1) hp
    exact ⟨b, off, rfl, hlt, fun j hj => by have := (hx j hj).1; rw [add_plain] at this; exact this⟩
set_option maxRecDepth 100000 in
theorem open_bytes {r : Reach} {b0 : Nat} {v : Value} {d : DataW H} {p : List MemPlace} (hv : Value.okWide Try.prog w r b0 57 v) (h : DataW.Trod enc Try.prog w base spare held 57 v d p) :
    ∃ A xs c, v = .slice A xs.length c ∧ UV w A xs ∧ ∀ j, j < xs.length → 0 ≤ xs.getD j 0 ∧ xs.getD j 0 < 256 := by
  obtain ⟨a0, len0, cap0, rfl⟩ := okWide_slice Try.underlying57 hv
  obtain ⟨fuel, hf⟩ := h
  exact open_uv (x := (d, p)) (by simpa [Value.cells] using hf)
end
end Go.Proofs.Ytcbofikjcgdjmaa
