/- The walk of IsaRound: it returns true whatever the input. -/
import Derived.Test.YtgjpenhfechhcaaIF
namespace Go.Proofs.Ytgjpenhfechhcaa
open Go.RowKit Go.Proofs.YtgjpenhfechhcaaW.PrintWords Go.Proofs.YtgjpenhfechhcaaW.PrintLast Go.Proofs.YtgjpenhfechhcaaW.PrintMore
open PIsaDecodes
set_option maxRecDepth 100000 in
set_option maxHeartbeats 2000000 in
theorem walk_IsaRound (op a b c m : Int) (w00 : (Lit.int .u8 op).wf = true) (w01 : (Lit.int .i64 a).wf = true) (w02 : (Lit.int .i64 b).wf = true) (w03 : (Lit.int .i64 c).wf = true) (w04 : (Lit.int .i64 m).wf = true) (w : World) :
    Calls Try.prog 5 #[.agg #[.int .u8 op, .int .i64 a, .int .i64 b, .int .i64 c, .int .i64 m]] w fun e w' => e = .returned (.bool true) ∧ Below w.heap.size w w' := by
  obtain ⟨h0, h1⟩ := u8_bounds w00
  clear w00 w01 w02 w03 w04
  cases hv : validB op a b c m
  · have hva := fun W => valid_at op a b c m false hv h0 h1 W
    have he := fun W => encode_no op a b c m hv h0 h1 W
    have He := Lib.hid he
    clear he
    have Hva := Lib.hid hva
    clear hva hv
    go_enter Try.func5, Try.ntmps5
    go_wp2_with fail
    have XI0 := Lib.hid (IF.new (op) (a) (b) (c) (m) (w))
    have BnI := Lib.hid (below_new (Below.refl w.heap.size w) (.cells #[.int .u8 (op), .int .i64 (a), .int .i64 (b), .int .i64 (c), .int .i64 (m)] 23))
    refine (awake_any _).mono ?_
    rintro e w1 ⟨rfl, hb1⟩
    have B1 := Lib.hid (below_next BnI.out hb1)
    have XI1 := Lib.hid (XI0.out.step hb1)
    clear hb1
    have XI1_lt := XI1.out.lt
    have XI1_i0 := XI1.out.i0
    have XI1_i1 := XI1.out.i1
    have XI1_i2 := XI1.out.i2
    have XI1_i3 := XI1.out.i3
    have XI1_i4 := XI1.out.i4
    go_wp2_with fail
    refine (He.out _).mono ?_
    rintro e w2 ⟨rfl, hb2⟩
    have B2 := Lib.hid (below_next B1.out hb2)
    have XI2 := Lib.hid (XI1.out.step hb2)
    clear hb2
    have XI2_lt := XI2.out.lt
    have XI2_i0 := XI2.out.i0
    have XI2_i1 := XI2.out.i1
    have XI2_i2 := XI2.out.i2
    have XI2_i3 := XI2.out.i3
    have XI2_i4 := XI2.out.i4
    go_wp2_with fail
    refine (Hva.out _).mono ?_
    rintro e w3 ⟨rfl, hb3⟩
    have B3 := Lib.hid (below_next B2.out hb3)
    have XI3 := Lib.hid (XI2.out.step hb3)
    clear hb3
    have XI3_lt := XI3.out.lt
    have XI3_i0 := XI3.out.i0
    have XI3_i1 := XI3.out.i1
    have XI3_i2 := XI3.out.i2
    have XI3_i3 := XI3.out.i3
    have XI3_i4 := XI3.out.i4
    go_wp2_with fail
    go_ret
    exact ⟨rfl, B3.out⟩
  · have hd := fun v hev W => decode_of h0 hv v hev W
    have hop := (okay h0 hv).1.op.2
    obtain ⟨v, hev⟩ : ∃ v, encW op a b c m = v := ⟨_, rfl⟩
    have he := fun W => encode_yes op a b c m hv h0 hop W
    rw [hev] at he
    have He := Lib.hid he
    clear he
    have Hd := Lib.hid (fun W => hd v hev W)
    have heq := fun W => run_eqI op a b c m op a b c m W
    have he1 : eqI op a b c m op a b c m = true := by simp [eqI]
    rw [he1] at heq
    clear hd hv he1 hev
    go_enter Try.func5, Try.ntmps5
    go_wp2_with fail
    have XI0 := Lib.hid (IF.new (op) (a) (b) (c) (m) (w))
    have BnI := Lib.hid (below_new (Below.refl w.heap.size w) (.cells #[.int .u8 (op), .int .i64 (a), .int .i64 (b), .int .i64 (c), .int .i64 (m)] 23))
    refine (awake_any _).mono ?_
    rintro e w1 ⟨rfl, hb1⟩
    have B1 := Lib.hid (below_next BnI.out hb1)
    have XI1 := Lib.hid (XI0.out.step hb1)
    clear hb1
    have XI1_lt := XI1.out.lt
    have XI1_i0 := XI1.out.i0
    have XI1_i1 := XI1.out.i1
    have XI1_i2 := XI1.out.i2
    have XI1_i3 := XI1.out.i3
    have XI1_i4 := XI1.out.i4
    go_wp2_with fail
    refine (He.out _).mono ?_
    rintro e w2 ⟨rfl, hb2⟩
    have B2 := Lib.hid (below_next B1.out hb2)
    have XI2 := Lib.hid (XI1.out.step hb2)
    clear hb2
    have XI2_lt := XI2.out.lt
    have XI2_i0 := XI2.out.i0
    have XI2_i1 := XI2.out.i1
    have XI2_i2 := XI2.out.i2
    have XI2_i3 := XI2.out.i3
    have XI2_i4 := XI2.out.i4
    go_wp2_with fail
    refine (Hd.out _).mono ?_
    rintro e w3 ⟨rfl, hb3⟩
    have B3 := Lib.hid (below_next B2.out hb3)
    have XI3 := Lib.hid (XI2.out.step hb3)
    clear hb3
    have XI3_lt := XI3.out.lt
    have XI3_i0 := XI3.out.i0
    have XI3_i1 := XI3.out.i1
    have XI3_i2 := XI3.out.i2
    have XI3_i3 := XI3.out.i3
    have XI3_i4 := XI3.out.i4
    go_wp2_with fail
    go_ret
    exact ⟨rfl, (below_new B3.out _)⟩
end Go.Proofs.Ytgjpenhfechhcaa
