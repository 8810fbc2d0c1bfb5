/- The walk of IsaValid: it returns true whatever the input. -/
import Derived.Test.YtgjpenhfechhcaaA10
namespace Go.Proofs.Ytgjpenhfechhcaa
open Go.RowKit Go.Proofs.YtgjpenhfechhcaaW.PrintWords Go.Proofs.YtgjpenhfechhcaaW.PrintLast Go.Proofs.YtgjpenhfechhcaaW.PrintMore
open PIsaDecodes
set_option maxRecDepth 100000 in
set_option maxHeartbeats 2000000 in
theorem walk_IsaValid (op a b c m : Int) (w00 : (Lit.int .u8 op).wf = true) (w01 : (Lit.int .i64 a).wf = true) (w02 : (Lit.int .i64 b).wf = true) (w03 : (Lit.int .i64 c).wf = true) (w04 : (Lit.int .i64 m).wf = true) (w : World) :
    Calls Try.prog 3 #[.agg #[.int .u8 op, .int .i64 a, .int .i64 b, .int .i64 c, .int .i64 m]] w fun e w' => e = .returned (.bool true) ∧ Below w.heap.size w w' := by
  obtain ⟨h0, h1⟩ := u8_bounds w00
  clear w00 w01 w02 w03 w04
  cases hv : validB op a b c m
  · have hr := fun W => ref_valid_any op a b c m h0 h1 W
    rw [hv] at hr
    have Hva := Lib.hid (fun W => valid_at op a b c m false hv h0 h1 W)
    have Hr := Lib.hid hr
    clear hr
    have he := fun W => encode_no op a b c m hv h0 h1 W
    have He := Lib.hid he
    clear he
    clear hv
    go_enter Try.func3, Try.ntmps3
    go_wp2_with fail
    have XI0 := Lib.hid (IF.newAt (op) (a) (b) (c) (m) (w) (w.heap.size) (by simp))
    have BnI := Lib.hid (below_new (Below.refl w.heap.size w) (.cells #[.int .u8 (op), .int .i64 (a), .int .i64 (b), .int .i64 (c), .int .i64 (m)] 23))
    refine (awake_any _).mono ?_
    rintro e w1 ⟨rfl, hb1⟩
    have B1 := Lib.hid (below_next BnI.out hb1)
    have XI1 := Lib.hid (XI0.out.step hb1)
    clear hb1
    have XI1_lt := XI1.out.lt
    have XI1_i0 := XI1.out.i0
    have XI1_i1 := XI1.out.i1
    have XI1_i2 := XI1.out.i2
    have XI1_i3 := XI1.out.i3
    have XI1_i4 := XI1.out.i4
    go_wp2_with fail
    refine (He.out _).mono ?_
    rintro e w2 ⟨rfl, hb2⟩
    have B2 := Lib.hid (below_next B1.out hb2)
    have XI2 := Lib.hid (XI1.out.step hb2)
    clear hb2
    have XI2_lt := XI2.out.lt
    have XI2_i0 := XI2.out.i0
    have XI2_i1 := XI2.out.i1
    have XI2_i2 := XI2.out.i2
    have XI2_i3 := XI2.out.i3
    have XI2_i4 := XI2.out.i4
    go_wp2_with fail
    refine (Hr.out _).mono ?_
    rintro e w3 ⟨rfl, hb3⟩
    have B3 := Lib.hid (below_next B2.out hb3)
    have XI3 := Lib.hid (XI2.out.step hb3)
    clear hb3
    have XI3_lt := XI3.out.lt
    have XI3_i0 := XI3.out.i0
    have XI3_i1 := XI3.out.i1
    have XI3_i2 := XI3.out.i2
    have XI3_i3 := XI3.out.i3
    have XI3_i4 := XI3.out.i4
    go_wp2_with fail
    refine (Hva.out _).mono ?_
    rintro e w4 ⟨rfl, hb4⟩
    have B4 := Lib.hid (below_next B3.out hb4)
    have XI4 := Lib.hid (XI3.out.step hb4)
    clear hb4
    have XI4_lt := XI4.out.lt
    have XI4_i0 := XI4.out.i0
    have XI4_i1 := XI4.out.i1
    have XI4_i2 := XI4.out.i2
    have XI4_i3 := XI4.out.i3
    have XI4_i4 := XI4.out.i4
    go_wp2_with fail
    go_ret
    exact ⟨rfl, B4.out⟩
  · have hr := fun W => ref_valid_any op a b c m h0 h1 W
    rw [hv] at hr
    have Hva := Lib.hid (fun W => valid_at op a b c m true hv h0 h1 W)
    have Hr := Lib.hid hr
    clear hr
    have hre := fun W => ref_encode_any op a b c m h0 hv W
    rw [← encW_eq h0 hv] at hre
    have hop := (okay h0 hv).1.op.2
    obtain ⟨v, hev⟩ : ∃ v, encW op a b c m = v := ⟨_, rfl⟩
    have he := fun W => encode_yes op a b c m hv h0 hop W
    rw [hev] at he
    have He := Lib.hid he
    clear he
    rw [hev] at hre
    have Hre := Lib.hid hre
    clear hv hev hre
    go_enter Try.func3, Try.ntmps3
    go_wp2_with fail
    have XI0 := Lib.hid (IF.newAt (op) (a) (b) (c) (m) (w) (w.heap.size) (by simp))
    have BnI := Lib.hid (below_new (Below.refl w.heap.size w) (.cells #[.int .u8 (op), .int .i64 (a), .int .i64 (b), .int .i64 (c), .int .i64 (m)] 23))
    refine (awake_any _).mono ?_
    rintro e w1 ⟨rfl, hb1⟩
    have B1 := Lib.hid (below_next BnI.out hb1)
    have XI1 := Lib.hid (XI0.out.step hb1)
    clear hb1
    have XI1_lt := XI1.out.lt
    have XI1_i0 := XI1.out.i0
    have XI1_i1 := XI1.out.i1
    have XI1_i2 := XI1.out.i2
    have XI1_i3 := XI1.out.i3
    have XI1_i4 := XI1.out.i4
    go_wp2_with fail
    refine (He.out _).mono ?_
    rintro e w2 ⟨rfl, hb2⟩
    have B2 := Lib.hid (below_next B1.out hb2)
    have XI2 := Lib.hid (XI1.out.step hb2)
    clear hb2
    have XI2_lt := XI2.out.lt
    have XI2_i0 := XI2.out.i0
    have XI2_i1 := XI2.out.i1
    have XI2_i2 := XI2.out.i2
    have XI2_i3 := XI2.out.i3
    have XI2_i4 := XI2.out.i4
    go_wp2_with fail
    refine (Hr.out _).mono ?_
    rintro e w3 ⟨rfl, hb3⟩
    have B3 := Lib.hid (below_next B2.out hb3)
    have XI3 := Lib.hid (XI2.out.step hb3)
    clear hb3
    have XI3_lt := XI3.out.lt
    have XI3_i0 := XI3.out.i0
    have XI3_i1 := XI3.out.i1
    have XI3_i2 := XI3.out.i2
    have XI3_i3 := XI3.out.i3
    have XI3_i4 := XI3.out.i4
    go_wp2_with fail
    refine (Hva.out _).mono ?_
    rintro e w4 ⟨rfl, hb4⟩
    have B4 := Lib.hid (below_next B3.out hb4)
    have XI4 := Lib.hid (XI3.out.step hb4)
    clear hb4
    have XI4_lt := XI4.out.lt
    have XI4_i0 := XI4.out.i0
    have XI4_i1 := XI4.out.i1
    have XI4_i2 := XI4.out.i2
    have XI4_i3 := XI4.out.i3
    have XI4_i4 := XI4.out.i4
    go_wp2_with fail
    refine (Hre.out _).mono ?_
    rintro e w5 ⟨rfl, hb5⟩
    have B5 := Lib.hid (below_next B4.out hb5)
    have XI5 := Lib.hid (XI4.out.step hb5)
    clear hb5
    have XI5_lt := XI5.out.lt
    have XI5_i0 := XI5.out.i0
    have XI5_i1 := XI5.out.i1
    have XI5_i2 := XI5.out.i2
    have XI5_i3 := XI5.out.i3
    have XI5_i4 := XI5.out.i4
    go_wp2_with fail
    go_ret
    exact ⟨rfl, B5.out⟩
end Go.Proofs.Ytgjpenhfechhcaa
