/- How a row of integers that a call owns looks: for len and for an index. -/
import Derived.Test.YtgjpenhfechhcaaA17
namespace Go.Proofs.Ytgjpenhfechhcaa
set_option linter.unusedVariables false
set_option linter.unusedSimpArgs false
open Go.RowKit Go.Proofs.YtgjpenhfechhcaaW.PrintWords Go.Proofs.YtgjpenhfechhcaaW.PrintLast Go.Proofs.YtgjpenhfechhcaaW.PrintMore
open PIsaDecodes

/-- block g holds the integers zs -/
structure RF (g : Nat) (zs : List Int) (W : World) : Prop where
  lt : g < W.heap.size
  at_ : ∀ i, i < zs.length → W.cell? ⟨g, i, none⟩ = some (.int .i64 (zs.getD i 0))
theorem RF.step {g : Nat} {zs : List Int} {W W' : World} (h : RF g zs W) (hb : Below W.heap.size W W') : RF g zs W' :=
  ⟨Nat.lt_of_lt_of_le h.lt hb.size, fun i hi => (hb.cell (p := ⟨g, i, none⟩) h.lt).trans (h.at_ i hi)⟩
theorem RF.alloc {g : Nat} {zs : List Int} {W : World} (h : RF g zs W) (o : Obj) : RF g zs (W.alloc o) := h.step ((Below.refl _ _).alloc (Nat.le_refl _) o)
theorem below_dn (W : World) (n : Nat) : Below W.heap.size W (W.drewN n) := ⟨rfl, rfl, rfl, Nat.le_refl _, fun _ _ => rfl⟩
theorem own_none {W : World} {base n : Nat} {v : Value} {zs : List Int} (h : W.ownsRow base 3 1 v n (zs.map (Value.int .i64))) (hz : zs.length = 0) : ∃ A c, v = .slice A 0 c := by
  obtain ⟨h1, h2⟩ := h
  simp at h1
  rcases h2 with ⟨rfl, _⟩ | ⟨g, cap, cur, rfl, _⟩
  · exact ⟨_, _, rfl⟩
  · exact ⟨some ⟨g, 0, none⟩, cap, by rw [show n = 0 by omega]⟩
theorem own_some {W : World} {base n : Nat} {v : Value} {zs : List Int} (h : W.ownsRow base 3 1 v n (zs.map (Value.int .i64))) (hz : zs.length ≠ 0) : ∃ g c, v = .slice (some ⟨g, 0, none⟩) zs.length c ∧ base ≤ g ∧ RF g zs W := by
  have h0 := h
  obtain ⟨h1, h2⟩ := h
  simp at h1
  rcases h2 with ⟨_, h3⟩ | ⟨g, cap, cur, rfl, hb, hg, _⟩
  · omega
  · refine ⟨g, cap, by rw [h1], hb, (Array.getElem?_eq_some_iff.1 hg).1, fun i hi => ?_⟩
    have := h0.cellAt i (by omega)
    rw [this]
    simp [List.getD, hi]
end Go.Proofs.Ytgjpenhfechhcaa
