/- The walk of IsaWords: it returns true whatever the input. -/
import Derived.Test.YtgjpenhfechhcaaIF
namespace Go.Proofs.Ytgjpenhfechhcaa
open Go.RowKit Go.Proofs.YtgjpenhfechhcaaW.PrintWords Go.Proofs.YtgjpenhfechhcaaW.PrintLast Go.Proofs.YtgjpenhfechhcaaW.PrintMore
open PIsaDecodes
set_option maxRecDepth 100000 in
set_option maxHeartbeats 2000000 in
theorem walk_IsaWords (v : Int) (w0 : (Lit.int .u32 v).wf = true) (w : World) :
    Calls Try.prog 6 #[.int .u32 v] w fun e w' => e = .returned (.bool true) ∧ Below w.heap.size w w' := by
  obtain ⟨h0, h1⟩ := u32_bounds w0
  clear w0
  cases hv : decOK v
  · have hd := fun W => decode_no v h0 h1 hv W
    have Hd := Lib.hid hd
    have heq := fun W => run_eqI 0 0 0 0 0 0 0 0 0 0 W
    have he1 : eqI 0 0 0 0 0 0 0 0 0 0 = true := by decide
    rw [he1] at heq
    clear hd hv he1
    go_enter Try.func6, Try.ntmps6
    go_wp2_with fail
    refine (awake_any _).mono ?_
    rintro e w1 ⟨rfl, hb1⟩
    have B1 := Lib.hid (below_next (Below.refl w.heap.size w) hb1)
    clear hb1
    go_wp2_with fail
    refine (Hd.out _).mono ?_
    rintro e w2 ⟨rfl, hb2⟩
    have B2 := Lib.hid (below_next B1.out hb2)
    clear hb2
    go_wp2_with fail
    go_ret
    exact ⟨rfl, (below_new B2.out _)⟩
  · have hd := fun W => decode_yes v h0 h1 hv W
    simp only [decOK, Bool.and_eq_true, decide_eq_true_eq] at hv
    obtain ⟨hop, hva, hw⟩ := hv
    obtain ⟨op, hop'⟩ : ∃ op, v / 67108864 = op := ⟨_, rfl⟩
    obtain ⟨a, ha⟩ : ∃ a, decF v 97 = a := ⟨_, rfl⟩
    obtain ⟨b, hb⟩ : ∃ b, decF v 98 = b := ⟨_, rfl⟩
    obtain ⟨c, hc⟩ : ∃ c, decF v 99 = c := ⟨_, rfl⟩
    obtain ⟨m, hm⟩ : ∃ m, decF v 105 = m := ⟨_, rfl⟩
    rw [hop', ha, hb, hc, hm] at hva hw
    simp only [hop', ha, hb, hc, hm] at hd
    have h0' : 0 ≤ op := by omega
    have he := fun W => encode_yes op a b c m hva h0' (by omega) W
    rw [hw] at he
    have hvv := fun W => valid_at op a b c m true hva h0' (by omega) W
    have Hd := Lib.hid hd
    have He := Lib.hid he
    have Hv := Lib.hid hvv
    clear hd he hvv hva hw ha hb hc hm hop' hop h0'
    go_enter Try.func6, Try.ntmps6
    go_wp2_with fail
    refine (awake_any _).mono ?_
    rintro e w1 ⟨rfl, hb1⟩
    have B1 := Lib.hid (below_next (Below.refl w.heap.size w) hb1)
    clear hb1
    go_wp2_with fail
    refine (Hd.out _).mono ?_
    rintro e w2 ⟨rfl, hb2⟩
    have B2 := Lib.hid (below_next B1.out hb2)
    clear hb2
    have XI2 := Lib.hid (IF.newAt (op) (a) (b) (c) (m) (w2) (w2.heap.size) (by simp))
    have BxI2 := Lib.hid (below_new B2.out (.cells #[.int .u8 (op), .int .i64 (a), .int .i64 (b), .int .i64 (c), .int .i64 (m)] 23))
    go_wp2_with fail
    refine (He.out _).mono ?_
    rintro e w3 ⟨rfl, hb3⟩
    have B3 := Lib.hid (below_next BxI2.out hb3)
    have XI3 := Lib.hid (XI2.out.step hb3)
    clear hb3
    have XI3_lt := XI3.out.lt
    have XI3_i0 := XI3.out.i0
    have XI3_i1 := XI3.out.i1
    have XI3_i2 := XI3.out.i2
    have XI3_i3 := XI3.out.i3
    have XI3_i4 := XI3.out.i4
    go_wp2_with fail
    refine (Hv.out _).mono ?_
    rintro e w4 ⟨rfl, hb4⟩
    have B4 := Lib.hid (below_next B3.out hb4)
    have XI4 := Lib.hid (XI3.out.step hb4)
    clear hb4
    have XI4_lt := XI4.out.lt
    have XI4_i0 := XI4.out.i0
    have XI4_i1 := XI4.out.i1
    have XI4_i2 := XI4.out.i2
    have XI4_i3 := XI4.out.i3
    have XI4_i4 := XI4.out.i4
    go_wp2_with fail
    go_ret
    exact ⟨rfl, B4.out⟩
end Go.Proofs.Ytgjpenhfechhcaa
