/- The walk of LoopsFind, its sizes by the bulk. -/
import Derived.Test.YtcbofikjcgdjmaaF10
import Derived.Test.YtcbofikjcgdjmaaC0
namespace Go.Proofs.Ytcbofikjcgdjmaa
open Go.RowKit
theorem find5' (A B : Option Addr) (bs : List Bk) (pv : List (List Int)) (c d : Nat) {w : World} (h : BV w A bs) (h' : RV w B pv) (hl : bs.length ≤ 1048576) (hm : (edgK bs bs.length).length ≤ 1048576) (hp : ∀ j, j < pv.length → (nthR pv j).length ≤ 1048576) :
    Calls Try.prog 5 #[.agg #[.slice A bs.length c, .slice B pv.length d]] w fun e w' => e = .returned (.bool true) ∧ Below w.heap.size w w' :=
  find5 A B bs pv c d w h h' (gz_of hl hm hp)
end Go.Proofs.Ytcbofikjcgdjmaa
