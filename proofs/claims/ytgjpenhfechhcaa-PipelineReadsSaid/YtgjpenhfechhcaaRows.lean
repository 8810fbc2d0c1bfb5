/-
  No cell of these rows narrows 'for every input' (looked for: loops, veiled, ifaces, maps, wideKeys, modest, calm, conditions, laid).
  DERIVED. THE GIVEN ROWS OF THIS SEAT. 17 by the template 'for every input the law returns true; each argument reads behind the call as it read before'; 0 by the template 'total and deterministic' (their statements: YtgjpenhfechhcaaTotals.lean).
  GIVEN WITH THE SEED: the statements are not yours to turn. If you find one false, say at which input.
  Laid BY PROGRAM, IN A SANDBOX (cutbox-rows.mjs): the forced cells as the released guide's own fill.sh prints them over the translation 3cce1b5eaf8c3fb9… (all of the seat's roots in one cut). By AI agents, Wed Nov 11 2026. No macro, syntax, notation, axiom, sorry.
-/
import Derived.Test.YtgjpenhfechhcaaChecked
import GoSem.Claim
import GoSem.ClaimJoined
import GoSem.ClaimMapViews
import Derived.JoinedTies
import Derived.KernelRfl
namespace Go.Proofs.Ytgjpenhfechhcaa
/- THE CELL 'sum', in the pinned program and in every row, IS THE sha256 OF THE DUMP (.gsa) THAT YtgjpenhfechhcaaProg.lean LOADS. Nothing in Lean hashes anything: it is a label: what it is worth is what the hold of that sum in a sandbox is worth. -/
noncomputable def Try.pinned : Pinned := { name := "ytgjpenhfechhcaa", sum := "3cce1b5eaf8c3fb987372d1352e24a5965b44f0981461401215adf701e4bebfb", checked := Try.checked }
namespace Rows
def none {H : Type} : Left H := { results := [], args := [] }

/-- 'ontimelaw04.IsaValid': WHATEVER THE INPUT: true; the input reads as it did. -/
def isaValidSpec : ChangeSpec := { name := "isaValid", fn := fun _ => fun
  | [d] => { results := [.lit (.bool true)], args := [d] }
  | _ => none }
def isaValidRow : OpenClaim := { program := "ytgjpenhfechhcaa", sum := "3cce1b5eaf8c3fb987372d1352e24a5965b44f0981461401215adf701e4bebfb", func := "ontime/ontimelaw04.IsaValid", spec := "isaValid", apart := false }
def IsaValidSaid : Prop := isaValidRow.holds Try.pinned (OpenSpec.ofChange isaValidSpec)

/-- ITS FALSE NEIGHBOUR: 'it returns false'. Refute it at one input. -/
def isaValidWrong : ChangeSpec := { name := "isaValid", fn := fun _ => fun
  | [d] => { results := [.lit (.bool false)], args := [d] }
  | _ => none }
def IsaValidWrongFalsely : Prop := isaValidRow.holds Try.pinned (OpenSpec.ofChange isaValidWrong)

/-- 'ontimelaw04.IsaDecodes': WHATEVER THE INPUT: true; the input reads as it did. -/
def isaDecodesSpec : ChangeSpec := { name := "isaDecodes", fn := fun _ => fun
  | [d] => { results := [.lit (.bool true)], args := [d] }
  | _ => none }
def isaDecodesRow : OpenClaim := { program := "ytgjpenhfechhcaa", sum := "3cce1b5eaf8c3fb987372d1352e24a5965b44f0981461401215adf701e4bebfb", func := "ontime/ontimelaw04.IsaDecodes", spec := "isaDecodes", apart := false }
def IsaDecodesSaid : Prop := isaDecodesRow.holds Try.pinned (OpenSpec.ofChange isaDecodesSpec)

/-- ITS FALSE NEIGHBOUR: 'it returns false'. Refute it at one input. -/
def isaDecodesWrong : ChangeSpec := { name := "isaDecodes", fn := fun _ => fun
  | [d] => { results := [.lit (.bool false)], args := [d] }
  | _ => none }
def IsaDecodesWrongFalsely : Prop := isaDecodesRow.holds Try.pinned (OpenSpec.ofChange isaDecodesWrong)

/-- 'ontimelaw04.IsaRound': WHATEVER THE INPUT: true; the input reads as it did. -/
def isaRoundSpec : ChangeSpec := { name := "isaRound", fn := fun _ => fun
  | [d] => { results := [.lit (.bool true)], args := [d] }
  | _ => none }
def isaRoundRow : OpenClaim := { program := "ytgjpenhfechhcaa", sum := "3cce1b5eaf8c3fb987372d1352e24a5965b44f0981461401215adf701e4bebfb", func := "ontime/ontimelaw04.IsaRound", spec := "isaRound", apart := false }
def IsaRoundSaid : Prop := isaRoundRow.holds Try.pinned (OpenSpec.ofChange isaRoundSpec)

/-- ITS FALSE NEIGHBOUR: 'it returns false'. Refute it at one input. -/
def isaRoundWrong : ChangeSpec := { name := "isaRound", fn := fun _ => fun
  | [d] => { results := [.lit (.bool false)], args := [d] }
  | _ => none }
def IsaRoundWrongFalsely : Prop := isaRoundRow.holds Try.pinned (OpenSpec.ofChange isaRoundWrong)

/-- 'ontimelaw04.IsaWords': WHATEVER THE INPUT: true; the input reads as it did. -/
def isaWordsSpec : ChangeSpec := { name := "isaWords", fn := fun _ => fun
  | [d] => { results := [.lit (.bool true)], args := [d] }
  | _ => none }
def isaWordsRow : OpenClaim := { program := "ytgjpenhfechhcaa", sum := "3cce1b5eaf8c3fb987372d1352e24a5965b44f0981461401215adf701e4bebfb", func := "ontime/ontimelaw04.IsaWords", spec := "isaWords", apart := false }
def IsaWordsSaid : Prop := isaWordsRow.holds Try.pinned (OpenSpec.ofChange isaWordsSpec)

/-- ITS FALSE NEIGHBOUR: 'it returns false'. Refute it at one input. -/
def isaWordsWrong : ChangeSpec := { name := "isaWords", fn := fun _ => fun
  | [d] => { results := [.lit (.bool false)], args := [d] }
  | _ => none }
def IsaWordsWrongFalsely : Prop := isaWordsRow.holds Try.pinned (OpenSpec.ofChange isaWordsWrong)

/-- 'ontimelaw04.IsaDistinct': WHATEVER THE INPUT: true; the input reads as it did. -/
def isaDistinctSpec : ChangeSpec := { name := "isaDistinct", fn := fun _ => fun
  | [d1, d2] => { results := [.lit (.bool true)], args := [d1, d2] }
  | _ => none }
def isaDistinctRow : OpenClaim := { program := "ytgjpenhfechhcaa", sum := "3cce1b5eaf8c3fb987372d1352e24a5965b44f0981461401215adf701e4bebfb", func := "ontime/ontimelaw04.IsaDistinct", spec := "isaDistinct", apart := false }
def IsaDistinctSaid : Prop := isaDistinctRow.holds Try.pinned (OpenSpec.ofChange isaDistinctSpec)

/-- ITS FALSE NEIGHBOUR: 'it returns false'. Refute it at one input. -/
def isaDistinctWrong : ChangeSpec := { name := "isaDistinct", fn := fun _ => fun
  | [d1, d2] => { results := [.lit (.bool false)], args := [d1, d2] }
  | _ => none }
def IsaDistinctWrongFalsely : Prop := isaDistinctRow.holds Try.pinned (OpenSpec.ofChange isaDistinctWrong)

/-- 'ontimelaw04.IsaTargets': WHATEVER THE INPUT: true; the input reads as it did. -/
def isaTargetsSpec : ChangeSpec := { name := "isaTargets", fn := fun _ => fun
  | [d1, d2, d3] => { results := [.lit (.bool true)], args := [d1, d2, d3] }
  | _ => none }
def isaTargetsRow : OpenClaim := { program := "ytgjpenhfechhcaa", sum := "3cce1b5eaf8c3fb987372d1352e24a5965b44f0981461401215adf701e4bebfb", func := "ontime/ontimelaw04.IsaTargets", spec := "isaTargets", apart := false }
def IsaTargetsSaid : Prop := isaTargetsRow.holds Try.pinned (OpenSpec.ofChange isaTargetsSpec)

/-- ITS FALSE NEIGHBOUR: 'it returns false'. Refute it at one input. -/
def isaTargetsWrong : ChangeSpec := { name := "isaTargets", fn := fun _ => fun
  | [d1, d2, d3] => { results := [.lit (.bool false)], args := [d1, d2, d3] }
  | _ => none }
def IsaTargetsWrongFalsely : Prop := isaTargetsRow.holds Try.pinned (OpenSpec.ofChange isaTargetsWrong)

/-- 'ontimelaw04.IsaNames': WHATEVER THE INPUT: true; the input reads as it did. -/
def isaNamesSpec : ChangeSpec := { name := "isaNames", fn := fun _ => fun
  | [d1, d2] => { results := [.lit (.bool true)], args := [d1, d2] }
  | _ => none }
def isaNamesRow : OpenClaim := { program := "ytgjpenhfechhcaa", sum := "3cce1b5eaf8c3fb987372d1352e24a5965b44f0981461401215adf701e4bebfb", func := "ontime/ontimelaw04.IsaNames", spec := "isaNames", apart := false }
def IsaNamesSaid : Prop := isaNamesRow.holds Try.pinned (OpenSpec.ofChange isaNamesSpec)

/-- ITS FALSE NEIGHBOUR: 'it returns false'. Refute it at one input. -/
def isaNamesWrong : ChangeSpec := { name := "isaNames", fn := fun _ => fun
  | [d1, d2] => { results := [.lit (.bool false)], args := [d1, d2] }
  | _ => none }
def IsaNamesWrongFalsely : Prop := isaNamesRow.holds Try.pinned (OpenSpec.ofChange isaNamesWrong)

/-- 'ontimelaw04.IsaAccesses': WHATEVER THE INPUT: true; the input reads as it did. -/
def isaAccessesSpec : ChangeSpec := { name := "isaAccesses", fn := fun _ => fun
  | [d] => { results := [.lit (.bool true)], args := [d] }
  | _ => none }
def isaAccessesRow : OpenClaim := { program := "ytgjpenhfechhcaa", sum := "3cce1b5eaf8c3fb987372d1352e24a5965b44f0981461401215adf701e4bebfb", func := "ontime/ontimelaw04.IsaAccesses", spec := "isaAccesses", unfollowed := true, recurses := true, apart := false }
def IsaAccessesSaid : Prop := isaAccessesRow.holds Try.pinned (OpenSpec.ofChange isaAccessesSpec)

/-- ITS FALSE NEIGHBOUR: 'it returns false'. Refute it at one input. -/
def isaAccessesWrong : ChangeSpec := { name := "isaAccesses", fn := fun _ => fun
  | [d] => { results := [.lit (.bool false)], args := [d] }
  | _ => none }
def IsaAccessesWrongFalsely : Prop := isaAccessesRow.holds Try.pinned (OpenSpec.ofChange isaAccessesWrong)

/-- 'ontimelaw04.IsaRegisters': WHATEVER THE INPUT: true; the input reads as it did. -/
def isaRegistersSpec : ChangeSpec := { name := "isaRegisters", fn := fun _ => fun
  | [d] => { results := [.lit (.bool true)], args := [d] }
  | _ => none }
def isaRegistersRow : OpenClaim := { program := "ytgjpenhfechhcaa", sum := "3cce1b5eaf8c3fb987372d1352e24a5965b44f0981461401215adf701e4bebfb", func := "ontime/ontimelaw04.IsaRegisters", spec := "isaRegisters", unfollowed := true, recurses := true, apart := false }
def IsaRegistersSaid : Prop := isaRegistersRow.holds Try.pinned (OpenSpec.ofChange isaRegistersSpec)

/-- ITS FALSE NEIGHBOUR: 'it returns false'. Refute it at one input. -/
def isaRegistersWrong : ChangeSpec := { name := "isaRegisters", fn := fun _ => fun
  | [d] => { results := [.lit (.bool false)], args := [d] }
  | _ => none }
def IsaRegistersWrongFalsely : Prop := isaRegistersRow.holds Try.pinned (OpenSpec.ofChange isaRegistersWrong)

/-- 'ontimelaw08.PipelineStates': WHATEVER THE INPUT: true; the input reads as it did. -/
def pipelineStatesSpec : ChangeSpec := { name := "pipelineStates", fn := fun _ => fun
  | [d1, d2, d3] => { results := [.lit (.bool true)], args := [d1, d2, d3] }
  | _ => none }
def pipelineStatesRow : OpenClaim := { program := "ytgjpenhfechhcaa", sum := "3cce1b5eaf8c3fb987372d1352e24a5965b44f0981461401215adf701e4bebfb", func := "ontime/ontimelaw08.PipelineStates", spec := "pipelineStates", unfollowed := true, recurses := true, apart := false }
def PipelineStatesSaid : Prop := pipelineStatesRow.holds Try.pinned (OpenSpec.ofChange pipelineStatesSpec)

/-- ITS FALSE NEIGHBOUR: 'it returns false'. Refute it at one input. -/
def pipelineStatesWrong : ChangeSpec := { name := "pipelineStates", fn := fun _ => fun
  | [d1, d2, d3] => { results := [.lit (.bool false)], args := [d1, d2, d3] }
  | _ => none }
def PipelineStatesWrongFalsely : Prop := pipelineStatesRow.holds Try.pinned (OpenSpec.ofChange pipelineStatesWrong)

/-- 'ontimelaw08.PipelineSums': WHATEVER THE INPUT: true; the input reads as it did. -/
def pipelineSumsSpec : ChangeSpec := { name := "pipelineSums", fn := fun _ => fun
  | [d1, d2, d3] => { results := [.lit (.bool true)], args := [d1, d2, d3] }
  | _ => none }
def pipelineSumsRow : OpenClaim := { program := "ytgjpenhfechhcaa", sum := "3cce1b5eaf8c3fb987372d1352e24a5965b44f0981461401215adf701e4bebfb", func := "ontime/ontimelaw08.PipelineSums", spec := "pipelineSums", unfollowed := true, recurses := true, apart := false }
def PipelineSumsSaid : Prop := pipelineSumsRow.holds Try.pinned (OpenSpec.ofChange pipelineSumsSpec)

/-- ITS FALSE NEIGHBOUR: 'it returns false'. Refute it at one input. -/
def pipelineSumsWrong : ChangeSpec := { name := "pipelineSums", fn := fun _ => fun
  | [d1, d2, d3] => { results := [.lit (.bool false)], args := [d1, d2, d3] }
  | _ => none }
def PipelineSumsWrongFalsely : Prop := pipelineSumsRow.holds Try.pinned (OpenSpec.ofChange pipelineSumsWrong)

/-- 'ontimelaw08.PipelineDivides': WHATEVER THE INPUT: true; the input reads as it did. -/
def pipelineDividesSpec : ChangeSpec := { name := "pipelineDivides", fn := fun _ => fun
  | [d1, d2, d3, d4] => { results := [.lit (.bool true)], args := [d1, d2, d3, d4] }
  | _ => none }
def pipelineDividesRow : OpenClaim := { program := "ytgjpenhfechhcaa", sum := "3cce1b5eaf8c3fb987372d1352e24a5965b44f0981461401215adf701e4bebfb", func := "ontime/ontimelaw08.PipelineDivides", spec := "pipelineDivides", unfollowed := true, recurses := true, apart := false }
def PipelineDividesSaid : Prop := pipelineDividesRow.holds Try.pinned (OpenSpec.ofChange pipelineDividesSpec)

/-- ITS FALSE NEIGHBOUR: 'it returns false'. Refute it at one input. -/
def pipelineDividesWrong : ChangeSpec := { name := "pipelineDivides", fn := fun _ => fun
  | [d1, d2, d3, d4] => { results := [.lit (.bool false)], args := [d1, d2, d3, d4] }
  | _ => none }
def PipelineDividesWrongFalsely : Prop := pipelineDividesRow.holds Try.pinned (OpenSpec.ofChange pipelineDividesWrong)

/-- 'ontimelaw08.PipelineStarts': WHATEVER THE INPUT: true; the input reads as it did. -/
def pipelineStartsSpec : ChangeSpec := { name := "pipelineStarts", fn := fun _ => fun
  | [d1, d2, d3, d4] => { results := [.lit (.bool true)], args := [d1, d2, d3, d4] }
  | _ => none }
def pipelineStartsRow : OpenClaim := { program := "ytgjpenhfechhcaa", sum := "3cce1b5eaf8c3fb987372d1352e24a5965b44f0981461401215adf701e4bebfb", func := "ontime/ontimelaw08.PipelineStarts", spec := "pipelineStarts", unfollowed := true, recurses := true, apart := false }
def PipelineStartsSaid : Prop := pipelineStartsRow.holds Try.pinned (OpenSpec.ofChange pipelineStartsSpec)

/-- ITS FALSE NEIGHBOUR: 'it returns false'. Refute it at one input. -/
def pipelineStartsWrong : ChangeSpec := { name := "pipelineStarts", fn := fun _ => fun
  | [d1, d2, d3, d4] => { results := [.lit (.bool false)], args := [d1, d2, d3, d4] }
  | _ => none }
def PipelineStartsWrongFalsely : Prop := pipelineStartsRow.holds Try.pinned (OpenSpec.ofChange pipelineStartsWrong)

/-- 'ontimelaw08.PipelineReads': WHATEVER THE INPUT: true; the input reads as it did. -/
def pipelineReadsSpec : ChangeSpec := { name := "pipelineReads", fn := fun _ => fun
  | [d1, d2] => { results := [.lit (.bool true)], args := [d1, d2] }
  | _ => none }
def pipelineReadsRow : OpenClaim := { program := "ytgjpenhfechhcaa", sum := "3cce1b5eaf8c3fb987372d1352e24a5965b44f0981461401215adf701e4bebfb", func := "ontime/ontimelaw08.PipelineReads", spec := "pipelineReads", unfollowed := true, recurses := true, apart := false }
def PipelineReadsSaid : Prop := pipelineReadsRow.holds Try.pinned (OpenSpec.ofChange pipelineReadsSpec)

/-- ITS FALSE NEIGHBOUR: 'it returns false'. Refute it at one input. -/
def pipelineReadsWrong : ChangeSpec := { name := "pipelineReads", fn := fun _ => fun
  | [d1, d2] => { results := [.lit (.bool false)], args := [d1, d2] }
  | _ => none }
def PipelineReadsWrongFalsely : Prop := pipelineReadsRow.holds Try.pinned (OpenSpec.ofChange pipelineReadsWrong)

/-- 'ontimelaw08.PipelineCycles': WHATEVER THE INPUT: true; the input reads as it did. -/
def pipelineCyclesSpec : ChangeSpec := { name := "pipelineCycles", fn := fun _ => fun
  | [d1, d2, d3, d4] => { results := [.lit (.bool true)], args := [d1, d2, d3, d4] }
  | _ => none }
def pipelineCyclesRow : OpenClaim := { program := "ytgjpenhfechhcaa", sum := "3cce1b5eaf8c3fb987372d1352e24a5965b44f0981461401215adf701e4bebfb", func := "ontime/ontimelaw08.PipelineCycles", spec := "pipelineCycles", unfollowed := true, recurses := true, apart := false }
def PipelineCyclesSaid : Prop := pipelineCyclesRow.holds Try.pinned (OpenSpec.ofChange pipelineCyclesSpec)

/-- ITS FALSE NEIGHBOUR: 'it returns false'. Refute it at one input. -/
def pipelineCyclesWrong : ChangeSpec := { name := "pipelineCycles", fn := fun _ => fun
  | [d1, d2, d3, d4] => { results := [.lit (.bool false)], args := [d1, d2, d3, d4] }
  | _ => none }
def PipelineCyclesWrongFalsely : Prop := pipelineCyclesRow.holds Try.pinned (OpenSpec.ofChange pipelineCyclesWrong)

/-- 'ontimelaw08.PipelineExtremes': WHATEVER THE INPUT: true; the input reads as it did. -/
def pipelineExtremesSpec : ChangeSpec := { name := "pipelineExtremes", fn := fun _ => fun
  | [d1, d2] => { results := [.lit (.bool true)], args := [d1, d2] }
  | _ => none }
def pipelineExtremesRow : OpenClaim := { program := "ytgjpenhfechhcaa", sum := "3cce1b5eaf8c3fb987372d1352e24a5965b44f0981461401215adf701e4bebfb", func := "ontime/ontimelaw08.PipelineExtremes", spec := "pipelineExtremes", unfollowed := true, recurses := true, apart := false }
def PipelineExtremesSaid : Prop := pipelineExtremesRow.holds Try.pinned (OpenSpec.ofChange pipelineExtremesSpec)

/-- ITS FALSE NEIGHBOUR: 'it returns false'. Refute it at one input. -/
def pipelineExtremesWrong : ChangeSpec := { name := "pipelineExtremes", fn := fun _ => fun
  | [d1, d2] => { results := [.lit (.bool false)], args := [d1, d2] }
  | _ => none }
def PipelineExtremesWrongFalsely : Prop := pipelineExtremesRow.holds Try.pinned (OpenSpec.ofChange pipelineExtremesWrong)

/-- 'ontimelaw08.PipelineBounds': WHATEVER THE INPUT: true; the input reads as it did. -/
def pipelineBoundsSpec : ChangeSpec := { name := "pipelineBounds", fn := fun _ => fun
  | [d1, d2, d3] => { results := [.lit (.bool true)], args := [d1, d2, d3] }
  | _ => none }
def pipelineBoundsRow : OpenClaim := { program := "ytgjpenhfechhcaa", sum := "3cce1b5eaf8c3fb987372d1352e24a5965b44f0981461401215adf701e4bebfb", func := "ontime/ontimelaw08.PipelineBounds", spec := "pipelineBounds", unfollowed := true, recurses := true, apart := false }
def PipelineBoundsSaid : Prop := pipelineBoundsRow.holds Try.pinned (OpenSpec.ofChange pipelineBoundsSpec)

/-- ITS FALSE NEIGHBOUR: 'it returns false'. Refute it at one input. -/
def pipelineBoundsWrong : ChangeSpec := { name := "pipelineBounds", fn := fun _ => fun
  | [d1, d2, d3] => { results := [.lit (.bool false)], args := [d1, d2, d3] }
  | _ => none }
def PipelineBoundsWrongFalsely : Prop := pipelineBoundsRow.holds Try.pinned (OpenSpec.ofChange pipelineBoundsWrong)

/- THE SECOND FORM. 'bulk': how many values and letters a reading holds, each counted each time it is reached (what is shared counts as often as it is met; a slice's spare places count too). A statement '..UptoSaid' is the law's where the arguments, and the package variables that the reading takes, are together of bulk at most 1048576: NARROWER than '..Said'. Prove '..Said' where nothing that the law and all that it calls make is longer than what came in: it says more and counts as full. Else prove '..UptoSaid'. A law counts once. -/
mutual
def uptoBulk {H : Type} : DataW H → Nat
  | .lit (.string bytes) => bytes.length + 1
  | .lit _ => 1
  | .nil => 1
  | .ptr d => uptoBulk d + 1
  | .slice elems spare => uptoBulkAll elems + uptoBulkAll spare + 1
  | .agg parts => uptoBulkAll parts + 1
  | .iface _ d => uptoBulk d + 1
  | .map entries => uptoBulkEntries entries + 1
  | .held _ => 1
def uptoBulkAll {H : Type} : List (DataW H) → Nat
  | [] => 0
  | d :: r => uptoBulk d + uptoBulkAll r
def uptoBulkEntries {H : Type} : List (Lit × DataW H) → Nat
  | [] => 0
  | x :: r => uptoBulkEntry x + uptoBulkEntries r
def uptoBulkEntry {H : Type} : Lit × DataW H → Nat
  | (.string bytes, d) => bytes.length + uptoBulk d + 1
  | (_, d) => uptoBulk d + 1
 end
def uptoSmall : (H : Type) → List (DataW H) → Bool := fun _ ds => decide (uptoBulkAll ds ≤ 1048576)
def OpenSpec.upto (s : _root_.Go.ChangeSpec) : _root_.Go.OpenSpec := { _root_.Go.OpenSpec.ofChange s with cond := some uptoSmall }

/-- 'ontimelaw04.IsaValid', WHERE WHAT IT READS IS OF BULK AT MOST 1048576: true; the input reads as it did. -/
def isaValidUptoRow : OpenClaim := { program := "ytgjpenhfechhcaa", sum := "3cce1b5eaf8c3fb987372d1352e24a5965b44f0981461401215adf701e4bebfb", func := "ontime/ontimelaw04.IsaValid", spec := "isaValid", apart := false, narrowed := true }
def IsaValidUptoSaid : Prop := isaValidUptoRow.holds Try.pinned (OpenSpec.upto isaValidSpec)

/-- 'ontimelaw04.IsaDecodes', WHERE WHAT IT READS IS OF BULK AT MOST 1048576: true; the input reads as it did. -/
def isaDecodesUptoRow : OpenClaim := { program := "ytgjpenhfechhcaa", sum := "3cce1b5eaf8c3fb987372d1352e24a5965b44f0981461401215adf701e4bebfb", func := "ontime/ontimelaw04.IsaDecodes", spec := "isaDecodes", apart := false, narrowed := true }
def IsaDecodesUptoSaid : Prop := isaDecodesUptoRow.holds Try.pinned (OpenSpec.upto isaDecodesSpec)

/-- 'ontimelaw04.IsaRound', WHERE WHAT IT READS IS OF BULK AT MOST 1048576: true; the input reads as it did. -/
def isaRoundUptoRow : OpenClaim := { program := "ytgjpenhfechhcaa", sum := "3cce1b5eaf8c3fb987372d1352e24a5965b44f0981461401215adf701e4bebfb", func := "ontime/ontimelaw04.IsaRound", spec := "isaRound", apart := false, narrowed := true }
def IsaRoundUptoSaid : Prop := isaRoundUptoRow.holds Try.pinned (OpenSpec.upto isaRoundSpec)

/-- 'ontimelaw04.IsaWords', WHERE WHAT IT READS IS OF BULK AT MOST 1048576: true; the input reads as it did. -/
def isaWordsUptoRow : OpenClaim := { program := "ytgjpenhfechhcaa", sum := "3cce1b5eaf8c3fb987372d1352e24a5965b44f0981461401215adf701e4bebfb", func := "ontime/ontimelaw04.IsaWords", spec := "isaWords", apart := false, narrowed := true }
def IsaWordsUptoSaid : Prop := isaWordsUptoRow.holds Try.pinned (OpenSpec.upto isaWordsSpec)

/-- 'ontimelaw04.IsaDistinct', WHERE WHAT IT READS IS OF BULK AT MOST 1048576: true; the input reads as it did. -/
def isaDistinctUptoRow : OpenClaim := { program := "ytgjpenhfechhcaa", sum := "3cce1b5eaf8c3fb987372d1352e24a5965b44f0981461401215adf701e4bebfb", func := "ontime/ontimelaw04.IsaDistinct", spec := "isaDistinct", apart := false, narrowed := true }
def IsaDistinctUptoSaid : Prop := isaDistinctUptoRow.holds Try.pinned (OpenSpec.upto isaDistinctSpec)

/-- 'ontimelaw04.IsaTargets', WHERE WHAT IT READS IS OF BULK AT MOST 1048576: true; the input reads as it did. -/
def isaTargetsUptoRow : OpenClaim := { program := "ytgjpenhfechhcaa", sum := "3cce1b5eaf8c3fb987372d1352e24a5965b44f0981461401215adf701e4bebfb", func := "ontime/ontimelaw04.IsaTargets", spec := "isaTargets", apart := false, narrowed := true }
def IsaTargetsUptoSaid : Prop := isaTargetsUptoRow.holds Try.pinned (OpenSpec.upto isaTargetsSpec)

/-- 'ontimelaw04.IsaNames', WHERE WHAT IT READS IS OF BULK AT MOST 1048576: true; the input reads as it did. -/
def isaNamesUptoRow : OpenClaim := { program := "ytgjpenhfechhcaa", sum := "3cce1b5eaf8c3fb987372d1352e24a5965b44f0981461401215adf701e4bebfb", func := "ontime/ontimelaw04.IsaNames", spec := "isaNames", apart := false, narrowed := true }
def IsaNamesUptoSaid : Prop := isaNamesUptoRow.holds Try.pinned (OpenSpec.upto isaNamesSpec)

/-- 'ontimelaw04.IsaAccesses', WHERE WHAT IT READS IS OF BULK AT MOST 1048576: true; the input reads as it did. -/
def isaAccessesUptoRow : OpenClaim := { program := "ytgjpenhfechhcaa", sum := "3cce1b5eaf8c3fb987372d1352e24a5965b44f0981461401215adf701e4bebfb", func := "ontime/ontimelaw04.IsaAccesses", spec := "isaAccesses", unfollowed := true, recurses := true, apart := false, narrowed := true }
def IsaAccessesUptoSaid : Prop := isaAccessesUptoRow.holds Try.pinned (OpenSpec.upto isaAccessesSpec)

/-- 'ontimelaw04.IsaRegisters', WHERE WHAT IT READS IS OF BULK AT MOST 1048576: true; the input reads as it did. -/
def isaRegistersUptoRow : OpenClaim := { program := "ytgjpenhfechhcaa", sum := "3cce1b5eaf8c3fb987372d1352e24a5965b44f0981461401215adf701e4bebfb", func := "ontime/ontimelaw04.IsaRegisters", spec := "isaRegisters", unfollowed := true, recurses := true, apart := false, narrowed := true }
def IsaRegistersUptoSaid : Prop := isaRegistersUptoRow.holds Try.pinned (OpenSpec.upto isaRegistersSpec)

/-- 'ontimelaw08.PipelineStates', WHERE WHAT IT READS IS OF BULK AT MOST 1048576: true; the input reads as it did. -/
def pipelineStatesUptoRow : OpenClaim := { program := "ytgjpenhfechhcaa", sum := "3cce1b5eaf8c3fb987372d1352e24a5965b44f0981461401215adf701e4bebfb", func := "ontime/ontimelaw08.PipelineStates", spec := "pipelineStates", unfollowed := true, recurses := true, apart := false, narrowed := true }
def PipelineStatesUptoSaid : Prop := pipelineStatesUptoRow.holds Try.pinned (OpenSpec.upto pipelineStatesSpec)

/-- 'ontimelaw08.PipelineSums', WHERE WHAT IT READS IS OF BULK AT MOST 1048576: true; the input reads as it did. -/
def pipelineSumsUptoRow : OpenClaim := { program := "ytgjpenhfechhcaa", sum := "3cce1b5eaf8c3fb987372d1352e24a5965b44f0981461401215adf701e4bebfb", func := "ontime/ontimelaw08.PipelineSums", spec := "pipelineSums", unfollowed := true, recurses := true, apart := false, narrowed := true }
def PipelineSumsUptoSaid : Prop := pipelineSumsUptoRow.holds Try.pinned (OpenSpec.upto pipelineSumsSpec)

/-- 'ontimelaw08.PipelineDivides', WHERE WHAT IT READS IS OF BULK AT MOST 1048576: true; the input reads as it did. -/
def pipelineDividesUptoRow : OpenClaim := { program := "ytgjpenhfechhcaa", sum := "3cce1b5eaf8c3fb987372d1352e24a5965b44f0981461401215adf701e4bebfb", func := "ontime/ontimelaw08.PipelineDivides", spec := "pipelineDivides", unfollowed := true, recurses := true, apart := false, narrowed := true }
def PipelineDividesUptoSaid : Prop := pipelineDividesUptoRow.holds Try.pinned (OpenSpec.upto pipelineDividesSpec)

/-- 'ontimelaw08.PipelineStarts', WHERE WHAT IT READS IS OF BULK AT MOST 1048576: true; the input reads as it did. -/
def pipelineStartsUptoRow : OpenClaim := { program := "ytgjpenhfechhcaa", sum := "3cce1b5eaf8c3fb987372d1352e24a5965b44f0981461401215adf701e4bebfb", func := "ontime/ontimelaw08.PipelineStarts", spec := "pipelineStarts", unfollowed := true, recurses := true, apart := false, narrowed := true }
def PipelineStartsUptoSaid : Prop := pipelineStartsUptoRow.holds Try.pinned (OpenSpec.upto pipelineStartsSpec)

/-- 'ontimelaw08.PipelineReads', WHERE WHAT IT READS IS OF BULK AT MOST 1048576: true; the input reads as it did. -/
def pipelineReadsUptoRow : OpenClaim := { program := "ytgjpenhfechhcaa", sum := "3cce1b5eaf8c3fb987372d1352e24a5965b44f0981461401215adf701e4bebfb", func := "ontime/ontimelaw08.PipelineReads", spec := "pipelineReads", unfollowed := true, recurses := true, apart := false, narrowed := true }
def PipelineReadsUptoSaid : Prop := pipelineReadsUptoRow.holds Try.pinned (OpenSpec.upto pipelineReadsSpec)

/-- 'ontimelaw08.PipelineCycles', WHERE WHAT IT READS IS OF BULK AT MOST 1048576: true; the input reads as it did. -/
def pipelineCyclesUptoRow : OpenClaim := { program := "ytgjpenhfechhcaa", sum := "3cce1b5eaf8c3fb987372d1352e24a5965b44f0981461401215adf701e4bebfb", func := "ontime/ontimelaw08.PipelineCycles", spec := "pipelineCycles", unfollowed := true, recurses := true, apart := false, narrowed := true }
def PipelineCyclesUptoSaid : Prop := pipelineCyclesUptoRow.holds Try.pinned (OpenSpec.upto pipelineCyclesSpec)

/-- 'ontimelaw08.PipelineExtremes', WHERE WHAT IT READS IS OF BULK AT MOST 1048576: true; the input reads as it did. -/
def pipelineExtremesUptoRow : OpenClaim := { program := "ytgjpenhfechhcaa", sum := "3cce1b5eaf8c3fb987372d1352e24a5965b44f0981461401215adf701e4bebfb", func := "ontime/ontimelaw08.PipelineExtremes", spec := "pipelineExtremes", unfollowed := true, recurses := true, apart := false, narrowed := true }
def PipelineExtremesUptoSaid : Prop := pipelineExtremesUptoRow.holds Try.pinned (OpenSpec.upto pipelineExtremesSpec)

/-- 'ontimelaw08.PipelineBounds', WHERE WHAT IT READS IS OF BULK AT MOST 1048576: true; the input reads as it did. -/
def pipelineBoundsUptoRow : OpenClaim := { program := "ytgjpenhfechhcaa", sum := "3cce1b5eaf8c3fb987372d1352e24a5965b44f0981461401215adf701e4bebfb", func := "ontime/ontimelaw08.PipelineBounds", spec := "pipelineBounds", unfollowed := true, recurses := true, apart := false, narrowed := true }
def PipelineBoundsUptoSaid : Prop := pipelineBoundsUptoRow.holds Try.pinned (OpenSpec.upto pipelineBoundsSpec)

end Rows
end Go.Proofs.Ytgjpenhfechhcaa
