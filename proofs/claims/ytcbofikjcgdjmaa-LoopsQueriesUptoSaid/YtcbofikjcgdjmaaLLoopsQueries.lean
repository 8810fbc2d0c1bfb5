/- The walk of LoopsQueries, its sizes by the bulk. -/
import Derived.Test.YtcbofikjcgdjmaaB25
namespace Go.Proofs.Ytcbofikjcgdjmaa
open Go.RowKit
theorem nx_le (bs : List Bk) : ∀ j, j < bs.length → (nthB bs j).nx.length ≤ (edgK bs bs.length).length := fun j hj => by
  have h1 := edgK_mono bs (a := j + 1) (b := bs.length) (by omega)
  have h2 : (edgK bs (j + 1)).length = (edgK bs j).length + (nthB bs j).nx.length := by rw [edgK, List.length_append, List.length_map]
  omega
theorem queries3' (A B L : Option Addr) (bs : List Bk) (ls : List Lp) (m c d cL : Nat) (x : Int) {w : World} (h : BV w A bs) (hL : LV w L ls) (hl : bs.length ≤ 1048576) (hm : (edgK bs bs.length).length ≤ 1048576) (hll : ls.length + 1 ≤ 1048576) (hlz : ∀ j, j < ls.length → (nthL ls j).bl.length ≤ 1048576 ∧ (nthL ls j).la.length ≤ 1048576) :
    Calls Try.prog 3 #[.agg #[.slice A bs.length c, .slice B m d], .slice L ls.length cL, .int .i64 x] w fun e w' => e = .returned (.bool true) ∧ Below w.heap.size w w' := by
  exact queries3 A B L bs ls m c d cL x w h hL (by omega) (fun j hj => by have := nx_le bs j hj; omega) (by omega) (by omega) (fun j hj => by have := hlz j hj; omega)
end Go.Proofs.Ytcbofikjcgdjmaa
