/- The walk of LoopsWalks, its sizes by the bulk. -/
import Derived.Test.YtcbofikjcgdjmaaC6
import Derived.Test.YtcbofikjcgdjmaaC0
namespace Go.Proofs.Ytcbofikjcgdjmaa
open Go.RowKit
theorem walks9' (A B U : Option Addr) (bs : List Bk) (pv : List (List Int)) (us : List Int) (c d cu : Nat) {w : World} (h : BV w A bs) (h' : RV w B pv) (hl : bs.length ≤ 1048576) (hm : (edgK bs bs.length).length ≤ 1048576) (hp : ∀ j, j < pv.length → (nthR pv j).length ≤ 1048576) (hu : UV w U us) (huz : ∀ j, j < us.length → 0 ≤ us.getD j 0 ∧ us.getD j 0 < 256) :
    Calls Try.prog 9 #[.agg #[.slice A bs.length c, .slice B pv.length d], .slice U us.length cu] w fun e w' => e = .returned (.bool true) ∧ Below w.heap.size w w' :=
  walks9 A B U bs pv us c d cu w h h' (gz_of hl hm hp) hu huz
end Go.Proofs.Ytcbofikjcgdjmaa
