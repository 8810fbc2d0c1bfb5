-- PRINTED BY print.sh 35421559b90ae4d0a3588c463048766b98c2df88dd9212a6774a882060cdf62d: not written by this session
import Derived.Test.YtgjpenhfechhcaaProg
import Derived.Below
import Derived.Deep.Draws
import Derived.Deep.AppendLies
import Derived.Maps.AppendAt
import Derived.OwnWalk
import Derived.Laws.BytesArg
import Derived.Laws.MakeOwn
import Derived.Laws.OwnMore
import Derived.Deep.OwnRows
import Derived.Tactics
import Derived.Lib.ConvBytes
import Derived.Laws.Slices
import Derived.WalkKit
import Derived.KernelRfl
import Derived.RowKit3
import Derived.Deep.LoopGhost
import Derived.Deep.QuietTactic
import Derived.BigQuiet
import Derived.WideLaws
import Derived.Deep.DeepCutAuto
import Derived.Deep.CutBlock
import Derived.Deep.RegionHeld3
import Derived.Laws.Rows
import Derived.Lib.AppendStr
import Derived.ArgAppend
import Derived.Laws.IdiomCopy
import Derived.OrdersHeld
import Derived.Laws.BitsLemmas
import Derived.RowKit
import Derived.Test.YtgjpenhfechhcaaWWords
import Derived.Test.YtgjpenhfechhcaaWLast
import Derived.Test.YtgjpenhfechhcaaWTab
import Derived.Test.YtgjpenhfechhcaaWFour
import Derived.Test.YtgjpenhfechhcaaWQPut
import Derived.Test.YtgjpenhfechhcaaWApart
import Derived.Test.YtgjpenhfechhcaaWArr
import Derived.Test.YtgjpenhfechhcaaWZeros
import Derived.Test.YtgjpenhfechhcaaWFoot
import Derived.Test.YtgjpenhfechhcaaWKept
import Derived.Test.YtgjpenhfechhcaaWShare
import Derived.Test.YtgjpenhfechhcaaWN
import Derived.Test.YtgjpenhfechhcaaWFootNe
import Derived.Test.YtgjpenhfechhcaaWAt
import Derived.Test.YtgjpenhfechhcaaWEqStruct
import Derived.Test.YtgjpenhfechhcaaWRepsOne
import Derived.Test.YtgjpenhfechhcaaWInv
import Derived.Test.YtgjpenhfechhcaaWInvWords
import Derived.Test.YtgjpenhfechhcaaWGuard
import Derived.Test.YtgjpenhfechhcaaWNEv
import Derived.Test.YtgjpenhfechhcaaWMore
namespace Go.Proofs.Ytgjpenhfechhcaa.PIsaNames
open Go.RowKit Go.Proofs.YtgjpenhfechhcaaW.PrintWords Go.Proofs.YtgjpenhfechhcaaW.PrintLast Go.Proofs.YtgjpenhfechhcaaW.PrintMore
attribute [local go_sem] max2_int min2_int max_two min_two max_three min_three max_four min_four   -- for this text's walks alone
set_option linter.unusedVariables false
set_option linter.unusedSimpArgs false



def errW : Option Int → Value
  | none => .nilIface
  | some c => .iface 0 (.int .i64 c)
theorem errW_none : errW none = .nilIface := rfl
theorem errW_some (c : Int) : errW (some c) = .iface 0 (.int .i64 c) := rfl

theorem info9 : (Try.prog.info? 9).map (fun i => (i.zero, i.size, i.bytes)) = some (some (.string ⟨#[]⟩), 1, 16) := by kernel_rfl
theorem info71 : (Try.prog.info? 71).map (fun i => (i.zero, i.size, i.bytes)) = some (some (.agg #[(.string ⟨#[]⟩), (.string ⟨#[]⟩), (.int .i64 0), (.int .i64 0), (.string ⟨#[]⟩), (.string ⟨#[]⟩)]), 6, 80) := by kernel_rfl
-- the values' own types
/-! #### struct type 71 -/
structure S71 where
  f0 : ByteArray
  f1 : ByteArray
  f2 : Int
  f3 : Int
  f4 : ByteArray
  f5 : ByteArray
def z71 : S71 := ⟨(⟨#[]⟩ : ByteArray), (⟨#[]⟩ : ByteArray), (0 : Int), (0 : Int), (⟨#[]⟩ : ByteArray), (⟨#[]⟩ : ByteArray)⟩
def k71 : Kd S71 := Kd.iso (Kd.pair Kd.string (Kd.pair Kd.string (Kd.pair (Kd.int .i64) (Kd.pair (Kd.int .i64) (Kd.pair Kd.string Kd.string))))) (fun x : S71 => (x.f0, x.f1, x.f2, x.f3, x.f4, x.f5))
theorem k71_open {w : World} {x : S71} {cs : List Value} (h : k71.K w x cs) : cs = [.string x.f0, .string x.f1, .int .i64 x.f2, .int .i64 x.f3, .string x.f4, .string x.f5] := by
  obtain ⟨_, _, rfl, rfl, ⟨_, _, rfl, rfl, ⟨_, _, rfl, rfl, ⟨_, _, rfl, rfl, ⟨_, _, rfl, rfl, rfl⟩⟩⟩⟩⟩ := h
  exact rfl
theorem k71_openM {w : World} {base : Nat} {ok : Nat → Prop} {x : S71} {cs : List Value} (h : k71.M w base ok x cs) : cs = [.string x.f0, .string x.f1, .int .i64 x.f2, .int .i64 x.f3, .string x.f4, .string x.f5] := by
  obtain ⟨_, _, rfl, rfl, ⟨_, _, rfl, rfl, ⟨_, _, rfl, rfl, ⟨_, _, rfl, rfl, ⟨_, _, rfl, rfl, rfl⟩⟩⟩⟩⟩ := h
  exact rfl
theorem k71_mk (w : World) (x : S71)  : k71.K w x [.string x.f0, .string x.f1, .int .i64 x.f2, .int .i64 x.f3, .string x.f4, .string x.f5] := ⟨[.string x.f0], [.string x.f1, .int .i64 x.f2, .int .i64 x.f3, .string x.f4, .string x.f5], rfl, rfl, ⟨[.string x.f1], [.int .i64 x.f2, .int .i64 x.f3, .string x.f4, .string x.f5], rfl, rfl, ⟨[.int .i64 x.f2], [.int .i64 x.f3, .string x.f4, .string x.f5], rfl, rfl, ⟨[.int .i64 x.f3], [.string x.f4, .string x.f5], rfl, rfl, ⟨[.string x.f4], [.string x.f5], rfl, rfl, rfl⟩⟩⟩⟩⟩
theorem k71_mkM (w : World) (base : Nat) (ok : Nat → Prop) (x : S71)  : k71.M w base ok x [.string x.f0, .string x.f1, .int .i64 x.f2, .int .i64 x.f3, .string x.f4, .string x.f5] := ⟨[.string x.f0], [.string x.f1, .int .i64 x.f2, .int .i64 x.f3, .string x.f4, .string x.f5], rfl, rfl, ⟨[.string x.f1], [.int .i64 x.f2, .int .i64 x.f3, .string x.f4, .string x.f5], rfl, rfl, ⟨[.int .i64 x.f2], [.int .i64 x.f3, .string x.f4, .string x.f5], rfl, rfl, ⟨[.int .i64 x.f3], [.string x.f4, .string x.f5], rfl, rfl, ⟨[.string x.f4], [.string x.f5], rfl, rfl, rfl⟩⟩⟩⟩⟩
def rd_T71 (xs : List S71) (i : Int) : S71 := xs.getD i.toNat z71
theorem at_T71 {w : World} {A : Option Addr} {n : Nat} {xs : List S71} (h : Kd.C k71 w A n xs) (i : Int) (h0 : 0 ≤ i) (h1 : i < n) : ∃ ad , A = some ad ∧ w.cell? (ad.add (i.toNat * 6)) = some (.string (rd_T71 xs i).f0) ∧ w.cell? ⟨(ad.add (i.toNat * 6)).block, (ad.add (i.toNat * 6)).off + 1, none⟩ = some (.string (rd_T71 xs i).f1) ∧ w.cell? ⟨(ad.add (i.toNat * 6)).block, (ad.add (i.toNat * 6)).off + 2, none⟩ = some (.int .i64 (rd_T71 xs i).f2) ∧ w.cell? ⟨(ad.add (i.toNat * 6)).block, (ad.add (i.toNat * 6)).off + 3, none⟩ = some (.int .i64 (rd_T71 xs i).f3) ∧ w.cell? ⟨(ad.add (i.toNat * 6)).block, (ad.add (i.toNat * 6)).off + 4, none⟩ = some (.string (rd_T71 xs i).f4) ∧ w.cell? ⟨(ad.add (i.toNat * 6)).block, (ad.add (i.toNat * 6)).off + 5, none⟩ = some (.string (rd_T71 xs i).f5) := by
  obtain ⟨ad, c, e, _, hK, hc0⟩ := Kd.C_get h z71 i h0 h1
  have hc : ∀ j u, c[j]? = some u → w.cell? (ad.add (i.toNat * 6 + j)) = some u := hc0
  obtain rfl := k71_open hK
  exact ⟨ad, e, hc 0 _ rfl, by rw [← add_field _ _ 1 (by omega)]; exact hc 1 _ rfl, by rw [← add_field _ _ 2 (by omega)]; exact hc 2 _ rfl, by rw [← add_field _ _ 3 (by omega)]; exact hc 3 _ rfl, by rw [← add_field _ _ 4 (by omega)]; exact hc 4 _ rfl, by rw [← add_field _ _ 5 (by omega)]; exact hc 5 _ rfl⟩

end Go.Proofs.Ytgjpenhfechhcaa.PIsaNames
