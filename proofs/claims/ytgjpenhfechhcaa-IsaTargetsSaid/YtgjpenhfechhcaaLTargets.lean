/- The walk of IsaTargets: it returns true whatever the input. -/
import Derived.Test.YtgjpenhfechhcaaIF
namespace Go.Proofs.Ytgjpenhfechhcaa
open Go.RowKit Go.Proofs.YtgjpenhfechhcaaW.PrintWords Go.Proofs.YtgjpenhfechhcaaW.PrintLast Go.Proofs.YtgjpenhfechhcaaW.PrintMore
open PIsaDecodes
/-- whether an opcode is a branch -/
def isBr (op : Int) : Bool := decide (22 ≤ op) && decide (op ≤ 24)
set_option maxHeartbeats 400000 in
theorem isBranch_any (op : Int) (v : Bool) (hv : isBr op = v) (w : World) : Calls Try.prog 28 #[.int .u8 op] w fun e w' => e = .returned (.bool v) ∧ Below w.heap.size w w' := by
  have Hv := Lib.hid hv
  clear hv
  by_cases h1 : 22 ≤ op
  · go_enter Try.func28, Try.ntmps28
    go_wp2
    go_ret
    exact ⟨by rw [← Hv.out]; simp [isBr, h1], Below.refl _ _⟩
  · have h1' := h1
    go_enter Try.func28, Try.ntmps28
    go_wp2
    go_ret
    exact ⟨by rw [← Hv.out]; simp [isBr]; omega, Below.refl _ _⟩
set_option maxRecDepth 100000 in
set_option maxHeartbeats 400000 in
theorem target_no (op a b c m pc : Int) (hv : isBr op = false) (w : World) : Calls Try.prog 27 #[.agg #[.int .u8 op, .int .i64 a, .int .i64 b, .int .i64 c, .int .i64 m], .int .i64 pc] w fun e w' => e = .returned (.tuple #[.int .i64 0, .bool false]) ∧ Below w.heap.size w w' := by
  have Hv := Lib.hid (fun W => isBranch_any op false hv W)
  clear hv
  go_enter Try.func27, Try.ntmps27
  go_wp2_with fail
  refine (Hv.out _).mono ?_
  rintro e w1 ⟨rfl, hb1⟩
  have B1 := Lib.hid (below_next (below_new (Below.refl w.heap.size w) _) hb1)
  clear hb1
  go_wp2_with fail
  go_ret2
  exact ⟨rfl, B1.out⟩
set_option maxRecDepth 100000 in
set_option maxHeartbeats 400000 in
theorem target_yes (op a b c m pc t : Int) (hv : isBr op = true) (h0 : 0 ≤ pc) (h1 : pc ≤ 65535) (ht : wrap64 (pc + 1 + m) = t) (w : World) : Calls Try.prog 27 #[.agg #[.int .u8 op, .int .i64 a, .int .i64 b, .int .i64 c, .int .i64 m], .int .i64 pc] w fun e w' => e = .returned (.tuple #[.int .i64 t, .bool true]) ∧ Below w.heap.size w w' := by
  have Hv := Lib.hid (fun W => isBranch_any op true hv W)
  have Ht := Lib.hid ht
  clear hv ht
  go_enter Try.func27, Try.ntmps27
  go_wp2_with fail
  have XI0 := Lib.hid (IF.newAt (op) (a) (b) (c) (m) (w) (w.heap.size) (by simp))
  have BnI := Lib.hid (below_new (Below.refl w.heap.size w) (.cells #[.int .u8 (op), .int .i64 (a), .int .i64 (b), .int .i64 (c), .int .i64 (m)] 23))
  refine (Hv.out _).mono ?_
  rintro e w1 ⟨rfl, hb1⟩
  have B1 := Lib.hid (below_next BnI.out hb1)
  have XI1 := Lib.hid (XI0.out.step hb1)
  clear hb1
  have XI1_lt := XI1.out.lt
  have XI1_i0 := XI1.out.i0
  have XI1_i1 := XI1.out.i1
  have XI1_i2 := XI1.out.i2
  have XI1_i3 := XI1.out.i3
  have XI1_i4 := XI1.out.i4
  go_wp2_with fail
  go_ret2
  exact ⟨by rw [← Ht.out]; rfl, B1.out⟩
theorem branch_valid (op m : Int) (hv : isBr op = true) (h0 : -4096 ≤ m) (h1 : m ≤ 4096) : validB op 0 0 0 m = true := by
  simp only [isBr, Bool.and_eq_true, decide_eq_true_eq] at hv
  have h : op = 22 ∨ op = 23 ∨ op = 24 := by omega
  rcases h with rfl | rfl | rfl
  all_goals
    unfold validB
    rw [show chk _ 97 0 = true by decide, show chk _ 98 0 = true by decide, show chk _ 99 0 = true by decide]
    simp only [Bool.true_and, Bool.and_eq_true, decide_eq_true_eq]
    refine ⟨by decide, ?_⟩
    rw [chk_iff]
  · rw [show lowOf 22 105 = -131072 by decide, show highOf 22 105 = 131071 by decide]; omega
  · rw [show lowOf 23 105 = -131072 by decide, show highOf 23 105 = 131071 by decide]; omega
  · rw [show lowOf 24 105 = -131072 by decide, show highOf 24 105 = 131071 by decide]; omega
theorem u16_bounds {n : Int} (h : (Lit.int .u16 n).wf = true) : 0 ≤ n ∧ n ≤ 65535 := bounds_u16 h
set_option maxRecDepth 100000 in
set_option maxHeartbeats 2000000 in
theorem walk_IsaTargets (op a b c m : Int) (w00 : (Lit.int .u8 op).wf = true) (w01 : (Lit.int .i64 a).wf = true) (w02 : (Lit.int .i64 b).wf = true) (w03 : (Lit.int .i64 c).wf = true) (w04 : (Lit.int .i64 m).wf = true) (pc : Int) (w1 : (Lit.int .u16 pc).wf = true) (tt : Int) (w2 : (Lit.int .u16 tt).wf = true) (w : World) :
    Calls Try.prog 8 #[.agg #[.int .u8 op, .int .i64 a, .int .i64 b, .int .i64 c, .int .i64 m], .int .u16 pc, .int .u16 tt] w fun e w' => e = .returned (.bool true) ∧ Below w.heap.size w w' := by
  obtain ⟨h0, h1⟩ := u8_bounds w00
  obtain ⟨p0, p1⟩ := u16_bounds w1
  obtain ⟨t0, t1⟩ := u16_bounds w2
  clear w00 w01 w02 w03 w04 w1 w2
  cases hv : isBr op
  · have Ht := Lib.hid (fun W => target_no op a b c m pc hv W)
    have Hb := Lib.hid (fun W => isBranch_any op false hv W)
    clear hv
    go_enter Try.func8, Try.ntmps8
    go_wp2_with fail
    have XI0 := Lib.hid (IF.newAt (op) (a) (b) (c) (m) (w) (w.heap.size) (by simp))
    have BnI := Lib.hid (below_new (Below.refl w.heap.size w) (.cells #[.int .u8 (op), .int .i64 (a), .int .i64 (b), .int .i64 (c), .int .i64 (m)] 23))
    refine (awake_any _).mono ?_
    rintro e w1 ⟨rfl, hb1⟩
    have B1 := Lib.hid (below_next BnI.out hb1)
    have XI1 := Lib.hid (XI0.out.step hb1)
    clear hb1
    have XI1_lt := XI1.out.lt
    have XI1_i0 := XI1.out.i0
    have XI1_i1 := XI1.out.i1
    have XI1_i2 := XI1.out.i2
    have XI1_i3 := XI1.out.i3
    have XI1_i4 := XI1.out.i4
    go_wp2_with fail
    refine (Ht.out _).mono ?_
    rintro e w2 ⟨rfl, hb2⟩
    have B2 := Lib.hid (below_next B1.out hb2)
    have XI2 := Lib.hid (XI1.out.step hb2)
    clear hb2
    have XI2_lt := XI2.out.lt
    have XI2_i0 := XI2.out.i0
    have XI2_i1 := XI2.out.i1
    have XI2_i2 := XI2.out.i2
    have XI2_i3 := XI2.out.i3
    have XI2_i4 := XI2.out.i4
    go_wp2_with fail
    refine (Hb.out _).mono ?_
    rintro e w3 ⟨rfl, hb3⟩
    have B3 := Lib.hid (below_next B2.out hb3)
    have XI3 := Lib.hid (XI2.out.step hb3)
    clear hb3
    have XI3_lt := XI3.out.lt
    have XI3_i0 := XI3.out.i0
    have XI3_i1 := XI3.out.i1
    have XI3_i2 := XI3.out.i2
    have XI3_i3 := XI3.out.i3
    have XI3_i4 := XI3.out.i4
    go_wp2_with fail
    go_ret
    exact ⟨rfl, B3.out⟩
  · obtain ⟨t, ht⟩ : ∃ t, wrap64 (pc + 1 + m) = t := ⟨_, rfl⟩
    have Ht := Lib.hid (fun W => target_yes op a b c m pc t hv p0 p1 ht W)
    have Hb := Lib.hid (fun W => isBranch_any op true hv W)
    obtain ⟨f, hf⟩ : ∃ f, pc % 4096 = f := ⟨_, rfl⟩
    obtain ⟨d, hd⟩ : ∃ d, tt % 4096 = d := ⟨_, rfl⟩
    have f0 : 0 ≤ f := by omega
    have f1 : f < 4096 := by omega
    have d0 : 0 ≤ d := by omega
    have d1 : d < 4096 := by omega
    have hok := branch_valid op (d - f - 1) hv (by omega) (by omega)
    have hop := (okay h0 hok).1.op.2
    obtain ⟨v, hev⟩ : ∃ v, encW op 0 0 0 (d - f - 1) = v := ⟨_, rfl⟩
    have he := fun W => encode_yes op 0 0 0 (d - f - 1) hok h0 hop W
    rw [hev] at he
    have He := Lib.hid he
    have Hd := Lib.hid (fun W => decode_of h0 hok v hev W)
    have Ht2 := Lib.hid (fun W => target_yes op 0 0 0 (d - f - 1) f d hv f0 (by omega) (by unfold wrap64; omega) W)
    clear he hok hev hv hop
    go_enter Try.func8, Try.ntmps8
    go_wp2_with fail
    have XI0 := Lib.hid (IF.newAt (op) (a) (b) (c) (m) (w) (w.heap.size) (by simp))
    have BnI := Lib.hid (below_new (Below.refl w.heap.size w) (.cells #[.int .u8 (op), .int .i64 (a), .int .i64 (b), .int .i64 (c), .int .i64 (m)] 23))
    refine (awake_any _).mono ?_
    rintro e w1 ⟨rfl, hb1⟩
    have B1 := Lib.hid (below_next BnI.out hb1)
    have XI1 := Lib.hid (XI0.out.step hb1)
    clear hb1
    have XI1_lt := XI1.out.lt
    have XI1_i0 := XI1.out.i0
    have XI1_i1 := XI1.out.i1
    have XI1_i2 := XI1.out.i2
    have XI1_i3 := XI1.out.i3
    have XI1_i4 := XI1.out.i4
    go_wp2_with fail
    refine (Ht.out _).mono ?_
    rintro e w2 ⟨rfl, hb2⟩
    have B2 := Lib.hid (below_next B1.out hb2)
    have XI2 := Lib.hid (XI1.out.step hb2)
    clear hb2
    have XI2_lt := XI2.out.lt
    have XI2_i0 := XI2.out.i0
    have XI2_i1 := XI2.out.i1
    have XI2_i2 := XI2.out.i2
    have XI2_i3 := XI2.out.i3
    have XI2_i4 := XI2.out.i4
    go_wp2_with fail
    refine (Hb.out _).mono ?_
    rintro e w3 ⟨rfl, hb3⟩
    have B3 := Lib.hid (below_next B2.out hb3)
    have XI3 := Lib.hid (XI2.out.step hb3)
    clear hb3
    have XI3_lt := XI3.out.lt
    have XI3_i0 := XI3.out.i0
    have XI3_i1 := XI3.out.i1
    have XI3_i2 := XI3.out.i2
    have XI3_i3 := XI3.out.i3
    have XI3_i4 := XI3.out.i4
    go_wp2_with fail
    have XI3' := Lib.hid (XI3.out.alloc (.cells #[.int .u8 (op), .int .i64 (0), .int .i64 (0), .int .i64 (0), .int .i64 (d - f - 1)] 23))
    have XJ3 := Lib.hid (IF.newAt (op) (0) (0) (0) (d - f - 1) (w3) (w3.heap.size) (by simp))
    have BxJ3 := Lib.hid (below_new B3.out (.cells #[.int .u8 (op), .int .i64 (0), .int .i64 (0), .int .i64 (0), .int .i64 (d - f - 1)] 23))
    refine (He.out _).mono ?_
    rintro e w4 ⟨rfl, hb4⟩
    have B4 := Lib.hid (below_next BxJ3.out hb4)
    have XI4 := Lib.hid (XI3'.out.step hb4)
    have XJ4 := Lib.hid (XJ3.out.step hb4)
    clear hb4
    have XI4_lt := XI4.out.lt
    have XI4_i0 := XI4.out.i0
    have XI4_i1 := XI4.out.i1
    have XI4_i2 := XI4.out.i2
    have XI4_i3 := XI4.out.i3
    have XI4_i4 := XI4.out.i4
    have XJ4_lt := XJ4.out.lt
    have XJ4_i0 := XJ4.out.i0
    have XJ4_i1 := XJ4.out.i1
    have XJ4_i2 := XJ4.out.i2
    have XJ4_i3 := XJ4.out.i3
    have XJ4_i4 := XJ4.out.i4
    go_wp2_with fail
    refine (Hd.out _).mono ?_
    rintro e w5 ⟨rfl, hb5⟩
    have B5 := Lib.hid (below_next B4.out hb5)
    have XI5 := Lib.hid (XI4.out.step hb5)
    have XJ5 := Lib.hid (XJ4.out.step hb5)
    clear hb5
    have XI5_lt := XI5.out.lt
    have XI5_i0 := XI5.out.i0
    have XI5_i1 := XI5.out.i1
    have XI5_i2 := XI5.out.i2
    have XI5_i3 := XI5.out.i3
    have XI5_i4 := XI5.out.i4
    have XJ5_lt := XJ5.out.lt
    have XJ5_i0 := XJ5.out.i0
    have XJ5_i1 := XJ5.out.i1
    have XJ5_i2 := XJ5.out.i2
    have XJ5_i3 := XJ5.out.i3
    have XJ5_i4 := XJ5.out.i4
    have XI5' := Lib.hid (XI5.out.alloc (.cells #[.int .u8 (op), .int .i64 (0), .int .i64 (0), .int .i64 (0), .int .i64 (d - f - 1)] 23))
    have XJ5' := Lib.hid (XJ5.out.alloc (.cells #[.int .u8 (op), .int .i64 (0), .int .i64 (0), .int .i64 (0), .int .i64 (d - f - 1)] 23))
    have XK5 := Lib.hid (IF.newAt (op) (0) (0) (0) (d - f - 1) (w5) (w5.heap.size) (by simp))
    have BxK5 := Lib.hid (below_new B5.out (.cells #[.int .u8 (op), .int .i64 (0), .int .i64 (0), .int .i64 (0), .int .i64 (d - f - 1)] 23))
    go_wp2_with fail
    refine (Ht2.out _).mono ?_
    rintro e w6 ⟨rfl, hb6⟩
    have B6 := Lib.hid (below_next BxK5.out hb6)
    have XI6 := Lib.hid (XI5'.out.step hb6)
    have XJ6 := Lib.hid (XJ5'.out.step hb6)
    have XK6 := Lib.hid (XK5.out.step hb6)
    clear hb6
    have XI6_lt := XI6.out.lt
    have XI6_i0 := XI6.out.i0
    have XI6_i1 := XI6.out.i1
    have XI6_i2 := XI6.out.i2
    have XI6_i3 := XI6.out.i3
    have XI6_i4 := XI6.out.i4
    have XJ6_lt := XJ6.out.lt
    have XJ6_i0 := XJ6.out.i0
    have XJ6_i1 := XJ6.out.i1
    have XJ6_i2 := XJ6.out.i2
    have XJ6_i3 := XJ6.out.i3
    have XJ6_i4 := XJ6.out.i4
    have XK6_lt := XK6.out.lt
    have XK6_i0 := XK6.out.i0
    have XK6_i1 := XK6.out.i1
    have XK6_i2 := XK6.out.i2
    have XK6_i3 := XK6.out.i3
    have XK6_i4 := XK6.out.i4
    go_wp2_with fail
    go_ret
    exact ⟨rfl, B6.out⟩
end Go.Proofs.Ytgjpenhfechhcaa
