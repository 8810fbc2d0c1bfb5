/- The two graphs of the awake check, reckoned. -/
import Derived.Test.YtcbofikjcgdjmaaB22
import Derived.Test.YtcbofikjcgdjmaaB4
namespace Go.Proofs.Ytcbofikjcgdjmaa
set_option linter.unusedVariables false
set_option linter.unusedSimpArgs false
open Go.RowKit

def gA : List (List Int) := [[1], [2], [1, 3], []]
def gB : List (List Int) := [[1, 2], [2], [1]]
def bA : List Bk := bsOf gA 4
def bB : List Bk := bsOf gB 3
theorem bA_len : bA.length = 4 := by decide
theorem bB_len : bB.length = 3 := by decide
theorem bA_valid : validB bA (prevL bA) = true := by decide +kernel
theorem bB_valid : validB bB (prevL bB) = true := by decide +kernel
theorem treeA : ∃ R, treeF 6 bA (prevL bA) = some R ∧ findE bA R = none := by
  have h : (treeF 6 bA (prevL bA)).isSome = true := by decide +kernel
  obtain ⟨R, hR⟩ := Option.isSome_iff_exists.1 h
  have h2 : findE bA ((treeF 6 bA (prevL bA)).getD (fun _ => 0)) = none := by decide +kernel
  rw [hR] at h2
  exact ⟨R, hR, h2⟩
theorem treeB : ∃ R, treeF 6 bB (prevL bB) = some R ∧ ∃ q, findE bB R = some q ∧ 0 ≤ q.2 ∧ q.2 < 3 := by
  have h : (treeF 6 bB (prevL bB)).isSome = true := by decide +kernel
  obtain ⟨R, hR⟩ := Option.isSome_iff_exists.1 h
  have h2 : (findE bB ((treeF 6 bB (prevL bB)).getD (fun _ => 0))).any (fun q => decide (0 ≤ q.2) && decide (q.2 < 3)) = true := by decide +kernel
  rw [hR] at h2
  obtain ⟨q, hq, hq2⟩ := Option.any_eq_true _ _ |>.1 h2
  simp at hq2
  exact ⟨R, hR, q, hq, hq2⟩
theorem latA : latF bA 1 = [2] := by decide +kernel
theorem headA : headF bA = [1] := by decide +kernel
theorem lpA : lp0 bA (prevL bA) 1 = ⟨1, [1, 2], [2], -1⟩ := by
  unfold lp0
  rw [latA, srt, List.mergeSort_singleton]
  have : (colN (plF bA) (pvN (prevL bA)) bA.length 1 ([2].map Int.toNat)).map Int.ofNat = [1, 2] := by decide +kernel
  rw [this]; rfl
theorem lsA : lsF bA (prevL bA) = [⟨1, [1, 2], [2], -1⟩] := by
  unfold lsF
  rw [ls0, headA]
  simp only [List.map_cons, List.map_nil, lpA]
  have h : arK [⟨1, [1, 2], [2], -1⟩] 0 1 = -1 := by decide +kernel
  show [({ (⟨1, [1, 2], [2], -1⟩ : Lp) with pa := arK [⟨1, [1, 2], [2], -1⟩] 0 1 } : Lp)] = _
  rw [h]
theorem edgA : edgK bA 4 = [(0, 1), (1, 2), (2, 1), (2, 3)] := by decide +kernel
def lpA1 : Lp := ⟨1, [1, 2], [2], -1⟩
theorem entA : (edgK bA 4).filter (fun e => entP lpA1 e.1 e.2) = [(0, 1)] := by decide +kernel
theorem exiA : (edgK bA 4).filter (fun e => exiP lpA1 e.1 e.2) = [(2, 3)] := by decide +kernel
end Go.Proofs.Ytcbofikjcgdjmaa
