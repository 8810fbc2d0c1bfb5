/- The capacity of a slice of instructions that came in. -/
import Derived.Test.YtgjpenhfechhcaaOpen2
namespace Go.Proofs.Ytgjpenhfechhcaa
set_option linter.unusedVariables false
open Go.Joins Go.ChangeShapes Go.WideShapes Go.RowKit Go.Deep
section
variable {H : Type} {enc : TypeId × Value → H} {P : Program} {w : World} {base : Nat} {spare : Nat → Bool} {held : Bool}
set_option maxRecDepth 100000 in
theorem open_cap {r : Reach} {b0 : Nat} {v : Value} {d : DataW H} {p : List MemPlace} (hv : Value.okWide Try.prog w r b0 56 v) (h : DataW.Trod enc Try.prog w base spare held 56 v d p) :
    ∀ A n c, v = .slice A n c → n ≤ c := by
  obtain ⟨a0, len0, cap0, rfl⟩ := okWide_slice Try.underlying56 hv
  obtain ⟨fuel, hf⟩ := h
  intro A n c hvs
  cases hvs
  rcases open_slice_fields Try.underlying56 Try.underlying23 (by kernel_rfl) cells23 hf with ⟨hcs, _⟩ | ⟨a, len, cap, m, D, Pl, hcs, _, hlc, hcm, hm, _, hi⟩
  · simp [Value.cells] at hcs
    omega
  · simp [Value.cells] at hcs
    omega
end
end Go.Proofs.Ytgjpenhfechhcaa
