/- The sizes that a bound on the input's bulk gives. -/
import Derived.Test.YtcbofikjcgdjmaaB9
namespace Go.Proofs.Ytcbofikjcgdjmaa
theorem nx_len_le (bs : List Bk) : ∀ j, j < bs.length → (nthB bs j).nx.length ≤ (edgK bs bs.length).length := fun j hj => by
  have h1 := edgK_mono bs (a := j + 1) (b := bs.length) (by omega)
  have h2 : (edgK bs (j + 1)).length = (edgK bs j).length + (nthB bs j).nx.length := by rw [edgK, List.length_append, List.length_map]
  omega
theorem gz_of {bs : List Bk} {pv : List (List Int)} (hl : bs.length ≤ 1048576) (hm : (edgK bs bs.length).length ≤ 1048576) (hp : ∀ j, j < pv.length → (nthR pv j).length ≤ 1048576) : GZ bs pv :=
  ⟨hl, fun j hj => Nat.le_trans (nx_len_le bs j hj) hm, by omega, fun j hj => by have := hp j hj; omega⟩
end Go.Proofs.Ytcbofikjcgdjmaa
