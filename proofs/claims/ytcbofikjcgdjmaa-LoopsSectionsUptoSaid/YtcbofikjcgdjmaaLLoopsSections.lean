/- The walk of LoopsSections, its sizes by the bulk. -/
import Derived.Test.YtcbofikjcgdjmaaC9
namespace Go.Proofs.Ytcbofikjcgdjmaa
open Go.RowKit
theorem sections10' (A B : Option Addr) (bs : List Bk) (pv : List (List Int)) (c d : Nat) (x y : Int) {w : World} (h : BV w A bs) (h' : RV w B pv) (hl : bs.length ≤ 1048576) (hm : (edgK bs bs.length).length ≤ 1048576) (hp : ∀ j, j < pv.length → (nthR pv j).length ≤ 1048576) (hx : 0 ≤ x ∧ x < 256) (hy : 0 ≤ y ∧ y < 256) :
    Calls Try.prog 10 #[.agg #[.slice A bs.length c, .slice B pv.length d], .int .u8 x, .int .u8 y] w fun e w' => e = .returned (.bool true) ∧ Below w.heap.size w w' :=
  sections10 A B bs pv c d x y w h h' (gz_of hl hm hp) hx hy
end Go.Proofs.Ytcbofikjcgdjmaa
