/- The walk of IsaDecodes: it returns true whatever the input. -/
import Derived.Test.YtgjpenhfechhcaaA12
namespace Go.Proofs.Ytgjpenhfechhcaa
open Go.RowKit Go.Proofs.YtgjpenhfechhcaaW.PrintWords Go.Proofs.YtgjpenhfechhcaaW.PrintLast Go.Proofs.YtgjpenhfechhcaaW.PrintMore
open PIsaDecodes
set_option maxRecDepth 100000 in
set_option maxHeartbeats 2000000 in
theorem walk_IsaDecodes (v : Int) (w0 : (Lit.int .u32 v).wf = true) (w : World) :
    Calls Try.prog 4 #[.int .u32 v] w fun e w' => e = .returned (.bool true) ∧ Below w.heap.size w w' := by
  obtain ⟨h0, h1⟩ := u32_bounds w0
  clear w0
  cases hv : decOK v
  · have Hd := Lib.hid (fun W => decode_no v h0 h1 hv W)
    have Hr := Lib.hid (fun W => ref_decode_no v h0 h1 hv W)
    have heq := fun W => run_eqI 0 0 0 0 0 0 0 0 0 0 W
    have he1 : eqI 0 0 0 0 0 0 0 0 0 0 = true := by decide
    rw [he1] at heq
    clear hv he1
    go_enter Try.func4, Try.ntmps4
    go_wp2_with fail
    refine (awake_any _).mono ?_
    rintro e w1 ⟨rfl, hb1⟩
    have B1 := Lib.hid (below_next (Below.refl w.heap.size w) hb1)
    clear hb1
    go_wp2_with fail
    refine (Hd.out _).mono ?_
    rintro e w2 ⟨rfl, hb2⟩
    have B2 := Lib.hid (below_next B1.out hb2)
    clear hb2
    have XI2 := Lib.hid (IF.newAt (0) (0) (0) (0) (0) (w2) (w2.heap.size) (by simp))
    have BxI2 := Lib.hid (below_new B2.out (.cells #[.int .u8 (0), .int .i64 (0), .int .i64 (0), .int .i64 (0), .int .i64 (0)] 23))
    go_wp2_with fail
    refine (Hr.out _).mono ?_
    rintro e w3 ⟨rfl, hb3⟩
    have B3 := Lib.hid (below_next BxI2.out hb3)
    have XI3 := Lib.hid (XI2.out.step hb3)
    clear hb3
    have XI3_lt := XI3.out.lt
    have XI3_i0 := XI3.out.i0
    have XI3_i1 := XI3.out.i1
    have XI3_i2 := XI3.out.i2
    have XI3_i3 := XI3.out.i3
    have XI3_i4 := XI3.out.i4
    have XI3' := Lib.hid (XI3.out.alloc (.cells #[.int .u8 (0), .int .i64 (0), .int .i64 (0), .int .i64 (0), .int .i64 (0)] 23))
    have XJ3 := Lib.hid (IF.newAt (0) (0) (0) (0) (0) (w3) (w3.heap.size) (by simp))
    have BxJ3 := Lib.hid (below_new B3.out (.cells #[.int .u8 (0), .int .i64 (0), .int .i64 (0), .int .i64 (0), .int .i64 (0)] 23))
    go_wp2_with fail
    go_ret
    exact ⟨rfl, BxJ3.out⟩
  · have hd := fun W => decode_yes v h0 h1 hv W
    have hr := fun W => ref_decode_yes v h0 h1 hv W
    obtain ⟨op, hop'⟩ : ∃ op, v / 67108864 = op := ⟨_, rfl⟩
    obtain ⟨a, ha⟩ : ∃ a, decF v 97 = a := ⟨_, rfl⟩
    obtain ⟨b, hb⟩ : ∃ b, decF v 98 = b := ⟨_, rfl⟩
    obtain ⟨c, hc⟩ : ∃ c, decF v 99 = c := ⟨_, rfl⟩
    obtain ⟨m, hm⟩ : ∃ m, decF v 105 = m := ⟨_, rfl⟩
    simp only [hop', ha, hb, hc, hm] at hd hr
    have Hd := Lib.hid hd
    have Hr := Lib.hid hr
    have heq := fun W => run_eqI op a b c m op a b c m W
    have he1 : eqI op a b c m op a b c m = true := by simp [eqI]
    rw [he1] at heq
    clear hd hr hv he1 ha hb hc hm hop'
    go_enter Try.func4, Try.ntmps4
    go_wp2_with fail
    refine (awake_any _).mono ?_
    rintro e w1 ⟨rfl, hb1⟩
    have B1 := Lib.hid (below_next (Below.refl w.heap.size w) hb1)
    clear hb1
    go_wp2_with fail
    refine (Hd.out _).mono ?_
    rintro e w2 ⟨rfl, hb2⟩
    have B2 := Lib.hid (below_next B1.out hb2)
    clear hb2
    have XI2 := Lib.hid (IF.newAt (op) (a) (b) (c) (m) (w2) (w2.heap.size) (by simp))
    have BxI2 := Lib.hid (below_new B2.out (.cells #[.int .u8 (op), .int .i64 (a), .int .i64 (b), .int .i64 (c), .int .i64 (m)] 23))
    go_wp2_with fail
    refine (Hr.out _).mono ?_
    rintro e w3 ⟨rfl, hb3⟩
    have B3 := Lib.hid (below_next BxI2.out hb3)
    have XI3 := Lib.hid (XI2.out.step hb3)
    clear hb3
    have XI3_lt := XI3.out.lt
    have XI3_i0 := XI3.out.i0
    have XI3_i1 := XI3.out.i1
    have XI3_i2 := XI3.out.i2
    have XI3_i3 := XI3.out.i3
    have XI3_i4 := XI3.out.i4
    have XI3' := Lib.hid (XI3.out.alloc (.cells #[.int .u8 (op), .int .i64 (a), .int .i64 (b), .int .i64 (c), .int .i64 (m)] 23))
    have XJ3 := Lib.hid (IF.newAt (op) (a) (b) (c) (m) (w3) (w3.heap.size) (by simp))
    have BxJ3 := Lib.hid (below_new B3.out (.cells #[.int .u8 (op), .int .i64 (a), .int .i64 (b), .int .i64 (c), .int .i64 (m)] 23))
    go_wp2_with fail
    go_ret
    exact ⟨rfl, BxJ3.out⟩
end Go.Proofs.Ytgjpenhfechhcaa
