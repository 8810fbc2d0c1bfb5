/-
  DERIVED: THE SHELF's CONTRACTS AT THIS DUMP, IN PLAIN WORDS (tools/lay-plain.mjs out of 'YtcbofikjcgdjmaaShelf2.lean', which tools/lay-shelf.mjs wrote): THE SAME DECLARATIONS UNDER THE SAME NAMES: 'import', 'namespace', 'open', 'def', 'theorem' AND NOTHING ELSE: no command of the shelf's: FOR A HAND-IN. Each laying: the table of numbers ('.._ren') and one theorem, a field a fact of the dump's own or the kernel's comparison; each contract: ONE APPLICATION.
-/
import Derived.Shelf.SlGeneric
import Derived.Shelf.SlIterI.Nil
import Derived.Ground.GgzProg
import Derived.Test.YtcbofikjcgdjmaaProg
namespace Go.Proofs
open Go.Shelf
def Try.keysA_ren : Go.Shelf.Ren := ⟨fun | 7 => 36 | 10 => 55 | n => n, fun | 23 => 67 | 26 => 3 | 3 => 28 | 28 => 71 | 0 => 0 | 27 => 70 | 33 => 83 | 4 => 4 | n => n, fun | n => n⟩
theorem Try.keysA : Go.Proofs.SlLaysZI.n7 Try.prog Try.keysA_ren := {
  mixed := by kernel_rfl
  f7 := ⟨Try.f36.name, by decide, Try.func36.trans (congrArg some (by kernel_rfl))⟩
  f10 := ⟨Try.f55.name, by decide, Try.func55.trans (congrArg some (by kernel_rfl))⟩
  t0 := Try.underlying0
  a0 := Try.isAgg0
  z0 := Try.sizeOf0
  v0 := Try.zeroValue0
  t4 := Try.underlying4
  a4 := Try.isAgg4
  z4 := Try.sizeOf4
  v4 := Try.zeroValue4
  t23 := Try.underlying67
  a23 := Try.isAgg67
  z23 := Try.sizeOf67
  v23 := Try.zeroValue67
  t26 := Try.underlying3
  a26 := Try.isAgg3
  z26 := Try.sizeOf3
  v26 := Try.zeroValue3
  t27 := Try.underlying70
  a27 := Try.isAgg70
  z27 := Try.sizeOf70
  v27 := Try.zeroValue70
  t28 := Try.underlying71
  a28 := Try.isAgg71
  z28 := Try.sizeOf71
  v28 := Try.zeroValue71
  t33 := Try.underlying83
  a33 := Try.isAgg83
  z33 := Try.sizeOf83
  v33 := Try.zeroValue83 }
def Try.keysB_ren : Go.Shelf.Ren := ⟨fun | 7 => 58 | 10 => 65 | n => n, fun | 23 => 58 | 26 => 3 | 3 => 4 | 28 => 71 | 0 => 0 | 27 => 70 | 33 => 83 | 4 => 4 | n => n, fun | n => n⟩
theorem Try.keysB : Go.Proofs.SlLaysZI.n7 Try.prog Try.keysB_ren := {
  mixed := by kernel_rfl
  f7 := ⟨Try.f58.name, by decide, Try.func58.trans (congrArg some (by kernel_rfl))⟩
  f10 := ⟨Try.f65.name, by decide, Try.func65.trans (congrArg some (by kernel_rfl))⟩
  t0 := Try.underlying0
  a0 := Try.isAgg0
  z0 := Try.sizeOf0
  v0 := Try.zeroValue0
  t4 := Try.underlying4
  a4 := Try.isAgg4
  z4 := Try.sizeOf4
  v4 := Try.zeroValue4
  t23 := Try.underlying58
  a23 := Try.isAgg58
  z23 := Try.sizeOf58
  v23 := Try.zeroValue58
  t26 := Try.underlying3
  a26 := Try.isAgg3
  z26 := Try.sizeOf3
  v26 := Try.zeroValue3
  t27 := Try.underlying70
  a27 := Try.isAgg70
  z27 := Try.sizeOf70
  v27 := Try.zeroValue70
  t28 := Try.underlying71
  a28 := Try.isAgg71
  z28 := Try.sizeOf71
  v28 := Try.zeroValue71
  t33 := Try.underlying83
  a33 := Try.isAgg83
  z33 := Try.sizeOf83
  v33 := Try.zeroValue83 }
def Try.sortedA_ren : Go.Shelf.Ren := ⟨fun | 6 => 35 | 8 => 53 | 9 => 54 | 11 => 62 | 13 => 64 | 12 => 63 | 23 => 76 | 24 => 77 | 14 => 67 | 15 => 68 | 16 => 69 | 17 => 70 | 18 => 71 | 19 => 72 | 20 => 73 | 21 => 74 | 22 => 75 | 25 => 78 | 26 => 79 | 27 => 80 | 28 => 81 | 29 => 82 | 30 => 83 | 31 => 84 | n => n, fun | 26 => 3 | 28 => 71 | 24 => 28 | 0 => 0 | 3 => 3 | 37 => 91 | 48 => 100 | 50 => 102 | 4 => 4 | 40 => 95 | 39 => 94 | 45 => 68 | 5 => 5 | 9 => 9 | 51 => 103 | 55 => 107 | 57 => 109 | 58 => 110 | 33 => 83 | n => n, fun | n => n⟩
theorem Try.sortedA : Go.Proofs.SlLaysZI.n6 Try.prog Try.sortedA_ren := {
  mixed := by kernel_rfl
  f6 := ⟨Try.f35.name, by decide, Try.func35.trans (congrArg some (by kernel_rfl))⟩
  f8 := ⟨Try.f53.name, by decide, Try.func53.trans (congrArg some (by kernel_rfl))⟩
  f11 := ⟨Try.f62.name, by decide, Try.func62.trans (congrArg some (by kernel_rfl))⟩
  t0 := Try.underlying0
  a0 := Try.isAgg0
  z0 := Try.sizeOf0
  v0 := Try.zeroValue0
  t24 := Try.underlying28
  a24 := Try.isAgg28
  z24 := Try.sizeOf28
  v24 := Try.zeroValue28
  t26 := Try.underlying3
  a26 := Try.isAgg3
  z26 := Try.sizeOf3
  v26 := Try.zeroValue3
  t28 := Try.underlying71
  a28 := Try.isAgg71
  z28 := Try.sizeOf71
  v28 := Try.zeroValue71
  i26 := by kernel_rfl }
end Go.Proofs
