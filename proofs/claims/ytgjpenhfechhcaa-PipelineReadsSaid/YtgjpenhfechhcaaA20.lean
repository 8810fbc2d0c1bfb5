/- The contracts of base, branch, Cycles, Most, Least and of their references, for timings in range. -/
import Derived.Test.YtgjpenhfechhcaaA19
namespace Go.Proofs.Ytgjpenhfechhcaa
set_option linter.unusedVariables false
set_option linter.unusedSimpArgs false
open Go.RowKit Go.Proofs.YtgjpenhfechhcaaW.PrintWords Go.Proofs.YtgjpenhfechhcaaW.PrintLast Go.Proofs.YtgjpenhfechhcaaW.PrintMore
open PIsaDecodes

def baseV (mul div op : Int) : Int := if op = 4 then 1 + mul else if op = 5 ∨ op = 6 then 1 + div else 1
def brB (op : Int) : Bool := decide (22 ≤ op) && decide (op ≤ 24)
theorem baseV_in {mul div op : Int} (hm : 0 ≤ mul ∧ mul ≤ 1000) (hd : 0 ≤ div ∧ div ≤ 1000) : 1 ≤ baseV mul div op ∧ baseV mul div op ≤ 1001 := by
  unfold baseV; split
  · omega
  · split <;> omega
theorem branch28 (op : Int) (r : Bool) (hr : brB op = r) (w : World) : Calls Try.prog 28 #[.int .u8 op] w fun e w' => e = .returned (.bool r) ∧ Below w.heap.size w w' :=
  (PIsaNames.isa_IsBranch.calls op r w (by
    subst hr
    unfold PIsaNames.isa_IsBranch.f brB
    by_cases h : op ≥ 22
    · rw [if_pos h, decide_eq_true (show 22 ≤ op from h), Bool.true_and]
    · rw [if_neg h, decide_eq_false (show ¬ 22 ≤ op from h), Bool.false_and])).mono fun _ _ h => ⟨h.1, h.2.below⟩
set_option maxRecDepth 100000 in
set_option maxHeartbeats 4000000 in
theorem rbr_22 (op : Int) (hc : op = 22) (w : World) : Calls Try.prog 66 #[.int .u8 op] w fun e w' => e = .returned (.bool true) ∧ Below w.heap.size w w' := by
  have q22 : (op == 22) = true := by subst hc; decide
  have q23 : (op == 23) = false := by subst hc; decide
  have q24 : (op == 24) = false := by subst hc; decide
  clear hc
  go_enter Try.func66, Try.ntmps66
  go_wp2_with fail
  go_ret
  exact ⟨rfl, Below.refl _ _⟩
set_option maxRecDepth 100000 in
set_option maxHeartbeats 4000000 in
theorem rbr_23 (op : Int) (hc : op = 23) (w : World) : Calls Try.prog 66 #[.int .u8 op] w fun e w' => e = .returned (.bool true) ∧ Below w.heap.size w w' := by
  have q22 : (op == 22) = false := by subst hc; decide
  have q23 : (op == 23) = true := by subst hc; decide
  have q24 : (op == 24) = false := by subst hc; decide
  clear hc
  go_enter Try.func66, Try.ntmps66
  go_wp2_with fail
  go_ret
  exact ⟨rfl, Below.refl _ _⟩
set_option maxRecDepth 100000 in
set_option maxHeartbeats 4000000 in
theorem rbr_24 (op : Int) (hc : op = 24) (w : World) : Calls Try.prog 66 #[.int .u8 op] w fun e w' => e = .returned (.bool true) ∧ Below w.heap.size w w' := by
  have q22 : (op == 22) = false := by subst hc; decide
  have q23 : (op == 23) = false := by subst hc; decide
  have q24 : (op == 24) = true := by subst hc; decide
  clear hc
  go_enter Try.func66, Try.ntmps66
  go_wp2_with fail
  go_ret
  exact ⟨rfl, Below.refl _ _⟩
set_option maxRecDepth 100000 in
set_option maxHeartbeats 4000000 in
theorem rbr_no (op : Int) (hc : op ≠ 22 ∧ op ≠ 23 ∧ op ≠ 24) (w : World) : Calls Try.prog 66 #[.int .u8 op] w fun e w' => e = .returned (.bool false) ∧ Below w.heap.size w w' := by
  have q22 : (op == 22) = false := by simpa using hc.1
  have q23 : (op == 23) = false := by simpa using hc.2.1
  have q24 : (op == 24) = false := by simpa using hc.2.2
  clear hc
  go_enter Try.func66, Try.ntmps66
  go_wp2_with fail
  go_ret
  exact ⟨rfl, Below.refl _ _⟩
theorem branch66 (op : Int) (r : Bool) (hr : brB op = r) (w : World) : Calls Try.prog 66 #[.int .u8 op] w fun e w' => e = .returned (.bool r) ∧ Below w.heap.size w w' := by
  subst hr
  by_cases h22 : op = 22
  · have : brB op = true := by subst h22; decide
    rw [this]; exact rbr_22 op h22 w
  by_cases h23 : op = 23
  · have : brB op = true := by subst h23; decide
    rw [this]; exact rbr_23 op h23 w
  by_cases h24 : op = 24
  · have : brB op = true := by subst h24; decide
    rw [this]; exact rbr_24 op h24 w
  have : brB op = false := by
    unfold brB
    rw [Bool.and_eq_false_iff]
    by_cases h : 22 ≤ op
    · exact .inr (decide_eq_false (by omega))
    · exact .inl (decide_eq_false h)
  rw [this]; exact rbr_no op ⟨h22, h23, h24⟩ w
set_option maxRecDepth 100000 in
set_option maxHeartbeats 4000000 in
theorem base64_4 (mul div tk hz op a b c m : Int) (hm : 0 ≤ mul ∧ mul ≤ 1000) (hd : 0 ≤ div ∧ div ≤ 1000) (hc : op = 4) (w : World) :
    Calls Try.prog 64 #[.agg #[.int .i64 mul, .int .i64 div, .int .i64 tk, .int .i64 hz], .agg #[.int .u8 op, .int .i64 a, .int .i64 b, .int .i64 c, .int .i64 m]] w fun e w' => e = .returned (.int .i64 (1 + mul)) ∧ Below w.heap.size w w' := by
  have q4 : (op == 4) = true := by subst hc; decide
  have q5 : (op == 5) = false := by subst hc; decide
  have q6 : (op == 6) = false := by subst hc; decide
  clear hc
  obtain ⟨hm0, hm1⟩ := hm
  obtain ⟨hd0, hd1⟩ := hd
  go_enter Try.func64, Try.ntmps64
  go_wp2_with fail
  have XT0 := Lib.hid (TF.newAt (mul) (div) (tk) (hz) (w) (w.heap.size) (by simp))
  have BxT0 := Lib.hid (below_new (Below.refl w.heap.size w) (.cells #[.int .i64 (mul), .int .i64 (div), .int .i64 (tk), .int .i64 (hz)] 49))
  have XT0' := Lib.hid (XT0.out.alloc (.cells #[.int .u8 (op), .int .i64 (a), .int .i64 (b), .int .i64 (c), .int .i64 (m)] 23))
  have XI0 := Lib.hid (IF.newAt (op) (a) (b) (c) (m) ((w).alloc (.cells #[.int .i64 (mul), .int .i64 (div), .int .i64 (tk), .int .i64 (hz)] 49)) (w.heap.size + 1) (by simp))
  have BxI0 := Lib.hid (below_new BxT0.out (.cells #[.int .u8 (op), .int .i64 (a), .int .i64 (b), .int .i64 (c), .int .i64 (m)] 23))
  have XT0'_lt := XT0'.out.lt
  have XT0'_i0 := XT0'.out.i0
  have XT0'_i1 := XT0'.out.i1
  have XT0'_i2 := XT0'.out.i2
  have XT0'_i3 := XT0'.out.i3
  have XI0_lt := XI0.out.lt
  have XI0_i0 := XI0.out.i0
  have XI0_i1 := XI0.out.i1
  have XI0_i2 := XI0.out.i2
  have XI0_i3 := XI0.out.i3
  have XI0_i4 := XI0.out.i4
  go_wp2_with fail
  go_ret
  exact ⟨ret_int (by first | rfl | omega | go_num), BxI0.out⟩
set_option maxRecDepth 100000 in
set_option maxHeartbeats 4000000 in
theorem base64_5 (mul div tk hz op a b c m : Int) (hm : 0 ≤ mul ∧ mul ≤ 1000) (hd : 0 ≤ div ∧ div ≤ 1000) (hc : op = 5) (w : World) :
    Calls Try.prog 64 #[.agg #[.int .i64 mul, .int .i64 div, .int .i64 tk, .int .i64 hz], .agg #[.int .u8 op, .int .i64 a, .int .i64 b, .int .i64 c, .int .i64 m]] w fun e w' => e = .returned (.int .i64 (1 + div)) ∧ Below w.heap.size w w' := by
  have q4 : (op == 4) = false := by subst hc; decide
  have q5 : (op == 5) = true := by subst hc; decide
  have q6 : (op == 6) = false := by subst hc; decide
  clear hc
  obtain ⟨hm0, hm1⟩ := hm
  obtain ⟨hd0, hd1⟩ := hd
  go_enter Try.func64, Try.ntmps64
  go_wp2_with fail
  have XT0 := Lib.hid (TF.newAt (mul) (div) (tk) (hz) (w) (w.heap.size) (by simp))
  have BxT0 := Lib.hid (below_new (Below.refl w.heap.size w) (.cells #[.int .i64 (mul), .int .i64 (div), .int .i64 (tk), .int .i64 (hz)] 49))
  have XT0' := Lib.hid (XT0.out.alloc (.cells #[.int .u8 (op), .int .i64 (a), .int .i64 (b), .int .i64 (c), .int .i64 (m)] 23))
  have XI0 := Lib.hid (IF.newAt (op) (a) (b) (c) (m) ((w).alloc (.cells #[.int .i64 (mul), .int .i64 (div), .int .i64 (tk), .int .i64 (hz)] 49)) (w.heap.size + 1) (by simp))
  have BxI0 := Lib.hid (below_new BxT0.out (.cells #[.int .u8 (op), .int .i64 (a), .int .i64 (b), .int .i64 (c), .int .i64 (m)] 23))
  have XT0'_lt := XT0'.out.lt
  have XT0'_i0 := XT0'.out.i0
  have XT0'_i1 := XT0'.out.i1
  have XT0'_i2 := XT0'.out.i2
  have XT0'_i3 := XT0'.out.i3
  have XI0_lt := XI0.out.lt
  have XI0_i0 := XI0.out.i0
  have XI0_i1 := XI0.out.i1
  have XI0_i2 := XI0.out.i2
  have XI0_i3 := XI0.out.i3
  have XI0_i4 := XI0.out.i4
  go_wp2_with fail
  go_ret
  exact ⟨ret_int (by first | rfl | omega | go_num), BxI0.out⟩
set_option maxRecDepth 100000 in
set_option maxHeartbeats 4000000 in
theorem base64_6 (mul div tk hz op a b c m : Int) (hm : 0 ≤ mul ∧ mul ≤ 1000) (hd : 0 ≤ div ∧ div ≤ 1000) (hc : op = 6) (w : World) :
    Calls Try.prog 64 #[.agg #[.int .i64 mul, .int .i64 div, .int .i64 tk, .int .i64 hz], .agg #[.int .u8 op, .int .i64 a, .int .i64 b, .int .i64 c, .int .i64 m]] w fun e w' => e = .returned (.int .i64 (1 + div)) ∧ Below w.heap.size w w' := by
  have q4 : (op == 4) = false := by subst hc; decide
  have q5 : (op == 5) = false := by subst hc; decide
  have q6 : (op == 6) = true := by subst hc; decide
  clear hc
  obtain ⟨hm0, hm1⟩ := hm
  obtain ⟨hd0, hd1⟩ := hd
  go_enter Try.func64, Try.ntmps64
  go_wp2_with fail
  have XT0 := Lib.hid (TF.newAt (mul) (div) (tk) (hz) (w) (w.heap.size) (by simp))
  have BxT0 := Lib.hid (below_new (Below.refl w.heap.size w) (.cells #[.int .i64 (mul), .int .i64 (div), .int .i64 (tk), .int .i64 (hz)] 49))
  have XT0' := Lib.hid (XT0.out.alloc (.cells #[.int .u8 (op), .int .i64 (a), .int .i64 (b), .int .i64 (c), .int .i64 (m)] 23))
  have XI0 := Lib.hid (IF.newAt (op) (a) (b) (c) (m) ((w).alloc (.cells #[.int .i64 (mul), .int .i64 (div), .int .i64 (tk), .int .i64 (hz)] 49)) (w.heap.size + 1) (by simp))
  have BxI0 := Lib.hid (below_new BxT0.out (.cells #[.int .u8 (op), .int .i64 (a), .int .i64 (b), .int .i64 (c), .int .i64 (m)] 23))
  have XT0'_lt := XT0'.out.lt
  have XT0'_i0 := XT0'.out.i0
  have XT0'_i1 := XT0'.out.i1
  have XT0'_i2 := XT0'.out.i2
  have XT0'_i3 := XT0'.out.i3
  have XI0_lt := XI0.out.lt
  have XI0_i0 := XI0.out.i0
  have XI0_i1 := XI0.out.i1
  have XI0_i2 := XI0.out.i2
  have XI0_i3 := XI0.out.i3
  have XI0_i4 := XI0.out.i4
  go_wp2_with fail
  go_ret
  exact ⟨ret_int (by first | rfl | omega | go_num), BxI0.out⟩
set_option maxRecDepth 100000 in
set_option maxHeartbeats 4000000 in
theorem base64_no (mul div tk hz op a b c m : Int) (hm : 0 ≤ mul ∧ mul ≤ 1000) (hd : 0 ≤ div ∧ div ≤ 1000) (hc : op ≠ 4 ∧ op ≠ 5 ∧ op ≠ 6) (w : World) :
    Calls Try.prog 64 #[.agg #[.int .i64 mul, .int .i64 div, .int .i64 tk, .int .i64 hz], .agg #[.int .u8 op, .int .i64 a, .int .i64 b, .int .i64 c, .int .i64 m]] w fun e w' => e = .returned (.int .i64 (1)) ∧ Below w.heap.size w w' := by
  have q4 : (op == 4) = false := by simpa using hc.1
  have q5 : (op == 5) = false := by simpa using hc.2.1
  have q6 : (op == 6) = false := by simpa using hc.2.2
  clear hc
  obtain ⟨hm0, hm1⟩ := hm
  obtain ⟨hd0, hd1⟩ := hd
  go_enter Try.func64, Try.ntmps64
  go_wp2_with fail
  have XT0 := Lib.hid (TF.newAt (mul) (div) (tk) (hz) (w) (w.heap.size) (by simp))
  have BxT0 := Lib.hid (below_new (Below.refl w.heap.size w) (.cells #[.int .i64 (mul), .int .i64 (div), .int .i64 (tk), .int .i64 (hz)] 49))
  have XT0' := Lib.hid (XT0.out.alloc (.cells #[.int .u8 (op), .int .i64 (a), .int .i64 (b), .int .i64 (c), .int .i64 (m)] 23))
  have XI0 := Lib.hid (IF.newAt (op) (a) (b) (c) (m) ((w).alloc (.cells #[.int .i64 (mul), .int .i64 (div), .int .i64 (tk), .int .i64 (hz)] 49)) (w.heap.size + 1) (by simp))
  have BxI0 := Lib.hid (below_new BxT0.out (.cells #[.int .u8 (op), .int .i64 (a), .int .i64 (b), .int .i64 (c), .int .i64 (m)] 23))
  have XT0'_lt := XT0'.out.lt
  have XT0'_i0 := XT0'.out.i0
  have XT0'_i1 := XT0'.out.i1
  have XT0'_i2 := XT0'.out.i2
  have XT0'_i3 := XT0'.out.i3
  have XI0_lt := XI0.out.lt
  have XI0_i0 := XI0.out.i0
  have XI0_i1 := XI0.out.i1
  have XI0_i2 := XI0.out.i2
  have XI0_i3 := XI0.out.i3
  have XI0_i4 := XI0.out.i4
  go_wp2_with fail
  go_ret
  exact ⟨ret_int (by first | rfl | omega | go_num), BxI0.out⟩
theorem base64 (mul div tk hz op a b c m : Int) (hm : 0 ≤ mul ∧ mul ≤ 1000) (hd : 0 ≤ div ∧ div ≤ 1000) (r : Int) (hr : baseV mul div op = r) (w : World) :
    Calls Try.prog 64 #[.agg #[.int .i64 mul, .int .i64 div, .int .i64 tk, .int .i64 hz], .agg #[.int .u8 op, .int .i64 a, .int .i64 b, .int .i64 c, .int .i64 m]] w fun e w' => e = .returned (.int .i64 (r)) ∧ Below w.heap.size w w' := by
  subst hr
  unfold baseV
  by_cases h4 : op = 4
  · rw [if_pos h4]; exact base64_4 mul div tk hz op a b c m hm hd h4 w
  rw [if_neg h4]
  by_cases h5 : op = 5
  · rw [if_pos (.inl h5)]; exact base64_5 mul div tk hz op a b c m hm hd h5 w
  by_cases h6 : op = 6
  · rw [if_pos (.inr h6)]; exact base64_6 mul div tk hz op a b c m hm hd h6 w
  rw [if_neg (by omega)]; exact base64_no mul div tk hz op a b c m hm hd ⟨h4, h5, h6⟩ w
set_option maxRecDepth 100000 in
set_option maxHeartbeats 4000000 in
theorem base65_4 (mul div tk hz op a b c m : Int) (hm : 0 ≤ mul ∧ mul ≤ 1000) (hd : 0 ≤ div ∧ div ≤ 1000) (hc : op = 4) (w : World) :
    Calls Try.prog 65 #[.agg #[.int .i64 mul, .int .i64 div, .int .i64 tk, .int .i64 hz], .agg #[.int .u8 op, .int .i64 a, .int .i64 b, .int .i64 c, .int .i64 m]] w fun e w' => e = .returned (.int .i64 (1 + mul)) ∧ Below w.heap.size w w' := by
  have q4 : (op == 4) = true := by subst hc; decide
  have q5 : (op == 5) = false := by subst hc; decide
  have q6 : (op == 6) = false := by subst hc; decide
  clear hc
  obtain ⟨hm0, hm1⟩ := hm
  obtain ⟨hd0, hd1⟩ := hd
  go_enter Try.func65, Try.ntmps65
  go_wp2_with fail
  have XT0 := Lib.hid (TF.newAt (mul) (div) (tk) (hz) (w) (w.heap.size) (by simp))
  have BxT0 := Lib.hid (below_new (Below.refl w.heap.size w) (.cells #[.int .i64 (mul), .int .i64 (div), .int .i64 (tk), .int .i64 (hz)] 49))
  have XT0' := Lib.hid (XT0.out.alloc (.cells #[.int .u8 (op), .int .i64 (a), .int .i64 (b), .int .i64 (c), .int .i64 (m)] 23))
  have XI0 := Lib.hid (IF.newAt (op) (a) (b) (c) (m) ((w).alloc (.cells #[.int .i64 (mul), .int .i64 (div), .int .i64 (tk), .int .i64 (hz)] 49)) (w.heap.size + 1) (by simp))
  have BxI0 := Lib.hid (below_new BxT0.out (.cells #[.int .u8 (op), .int .i64 (a), .int .i64 (b), .int .i64 (c), .int .i64 (m)] 23))
  have XT0'_lt := XT0'.out.lt
  have XT0'_i0 := XT0'.out.i0
  have XT0'_i1 := XT0'.out.i1
  have XT0'_i2 := XT0'.out.i2
  have XT0'_i3 := XT0'.out.i3
  have XI0_lt := XI0.out.lt
  have XI0_i0 := XI0.out.i0
  have XI0_i1 := XI0.out.i1
  have XI0_i2 := XI0.out.i2
  have XI0_i3 := XI0.out.i3
  have XI0_i4 := XI0.out.i4
  go_wp2_with fail
  go_ret
  exact ⟨ret_int (by first | rfl | omega | go_num), BxI0.out⟩
set_option maxRecDepth 100000 in
set_option maxHeartbeats 4000000 in
theorem base65_5 (mul div tk hz op a b c m : Int) (hm : 0 ≤ mul ∧ mul ≤ 1000) (hd : 0 ≤ div ∧ div ≤ 1000) (hc : op = 5) (w : World) :
    Calls Try.prog 65 #[.agg #[.int .i64 mul, .int .i64 div, .int .i64 tk, .int .i64 hz], .agg #[.int .u8 op, .int .i64 a, .int .i64 b, .int .i64 c, .int .i64 m]] w fun e w' => e = .returned (.int .i64 (1 + div)) ∧ Below w.heap.size w w' := by
  have q4 : (op == 4) = false := by subst hc; decide
  have q5 : (op == 5) = true := by subst hc; decide
  have q6 : (op == 6) = false := by subst hc; decide
  clear hc
  obtain ⟨hm0, hm1⟩ := hm
  obtain ⟨hd0, hd1⟩ := hd
  go_enter Try.func65, Try.ntmps65
  go_wp2_with fail
  have XT0 := Lib.hid (TF.newAt (mul) (div) (tk) (hz) (w) (w.heap.size) (by simp))
  have BxT0 := Lib.hid (below_new (Below.refl w.heap.size w) (.cells #[.int .i64 (mul), .int .i64 (div), .int .i64 (tk), .int .i64 (hz)] 49))
  have XT0' := Lib.hid (XT0.out.alloc (.cells #[.int .u8 (op), .int .i64 (a), .int .i64 (b), .int .i64 (c), .int .i64 (m)] 23))
  have XI0 := Lib.hid (IF.newAt (op) (a) (b) (c) (m) ((w).alloc (.cells #[.int .i64 (mul), .int .i64 (div), .int .i64 (tk), .int .i64 (hz)] 49)) (w.heap.size + 1) (by simp))
  have BxI0 := Lib.hid (below_new BxT0.out (.cells #[.int .u8 (op), .int .i64 (a), .int .i64 (b), .int .i64 (c), .int .i64 (m)] 23))
  have XT0'_lt := XT0'.out.lt
  have XT0'_i0 := XT0'.out.i0
  have XT0'_i1 := XT0'.out.i1
  have XT0'_i2 := XT0'.out.i2
  have XT0'_i3 := XT0'.out.i3
  have XI0_lt := XI0.out.lt
  have XI0_i0 := XI0.out.i0
  have XI0_i1 := XI0.out.i1
  have XI0_i2 := XI0.out.i2
  have XI0_i3 := XI0.out.i3
  have XI0_i4 := XI0.out.i4
  go_wp2_with fail
  go_ret
  exact ⟨ret_int (by first | rfl | omega | go_num), BxI0.out⟩
set_option maxRecDepth 100000 in
set_option maxHeartbeats 4000000 in
theorem base65_6 (mul div tk hz op a b c m : Int) (hm : 0 ≤ mul ∧ mul ≤ 1000) (hd : 0 ≤ div ∧ div ≤ 1000) (hc : op = 6) (w : World) :
    Calls Try.prog 65 #[.agg #[.int .i64 mul, .int .i64 div, .int .i64 tk, .int .i64 hz], .agg #[.int .u8 op, .int .i64 a, .int .i64 b, .int .i64 c, .int .i64 m]] w fun e w' => e = .returned (.int .i64 (1 + div)) ∧ Below w.heap.size w w' := by
  have q4 : (op == 4) = false := by subst hc; decide
  have q5 : (op == 5) = false := by subst hc; decide
  have q6 : (op == 6) = true := by subst hc; decide
  clear hc
  obtain ⟨hm0, hm1⟩ := hm
  obtain ⟨hd0, hd1⟩ := hd
  go_enter Try.func65, Try.ntmps65
  go_wp2_with fail
  have XT0 := Lib.hid (TF.newAt (mul) (div) (tk) (hz) (w) (w.heap.size) (by simp))
  have BxT0 := Lib.hid (below_new (Below.refl w.heap.size w) (.cells #[.int .i64 (mul), .int .i64 (div), .int .i64 (tk), .int .i64 (hz)] 49))
  have XT0' := Lib.hid (XT0.out.alloc (.cells #[.int .u8 (op), .int .i64 (a), .int .i64 (b), .int .i64 (c), .int .i64 (m)] 23))
  have XI0 := Lib.hid (IF.newAt (op) (a) (b) (c) (m) ((w).alloc (.cells #[.int .i64 (mul), .int .i64 (div), .int .i64 (tk), .int .i64 (hz)] 49)) (w.heap.size + 1) (by simp))
  have BxI0 := Lib.hid (below_new BxT0.out (.cells #[.int .u8 (op), .int .i64 (a), .int .i64 (b), .int .i64 (c), .int .i64 (m)] 23))
  have XT0'_lt := XT0'.out.lt
  have XT0'_i0 := XT0'.out.i0
  have XT0'_i1 := XT0'.out.i1
  have XT0'_i2 := XT0'.out.i2
  have XT0'_i3 := XT0'.out.i3
  have XI0_lt := XI0.out.lt
  have XI0_i0 := XI0.out.i0
  have XI0_i1 := XI0.out.i1
  have XI0_i2 := XI0.out.i2
  have XI0_i3 := XI0.out.i3
  have XI0_i4 := XI0.out.i4
  go_wp2_with fail
  go_ret
  exact ⟨ret_int (by first | rfl | omega | go_num), BxI0.out⟩
set_option maxRecDepth 100000 in
set_option maxHeartbeats 4000000 in
theorem base65_no (mul div tk hz op a b c m : Int) (hm : 0 ≤ mul ∧ mul ≤ 1000) (hd : 0 ≤ div ∧ div ≤ 1000) (hc : op ≠ 4 ∧ op ≠ 5 ∧ op ≠ 6) (w : World) :
    Calls Try.prog 65 #[.agg #[.int .i64 mul, .int .i64 div, .int .i64 tk, .int .i64 hz], .agg #[.int .u8 op, .int .i64 a, .int .i64 b, .int .i64 c, .int .i64 m]] w fun e w' => e = .returned (.int .i64 (1)) ∧ Below w.heap.size w w' := by
  have q4 : (op == 4) = false := by simpa using hc.1
  have q5 : (op == 5) = false := by simpa using hc.2.1
  have q6 : (op == 6) = false := by simpa using hc.2.2
  clear hc
  obtain ⟨hm0, hm1⟩ := hm
  obtain ⟨hd0, hd1⟩ := hd
  go_enter Try.func65, Try.ntmps65
  go_wp2_with fail
  have XT0 := Lib.hid (TF.newAt (mul) (div) (tk) (hz) (w) (w.heap.size) (by simp))
  have BxT0 := Lib.hid (below_new (Below.refl w.heap.size w) (.cells #[.int .i64 (mul), .int .i64 (div), .int .i64 (tk), .int .i64 (hz)] 49))
  have XT0' := Lib.hid (XT0.out.alloc (.cells #[.int .u8 (op), .int .i64 (a), .int .i64 (b), .int .i64 (c), .int .i64 (m)] 23))
  have XI0 := Lib.hid (IF.newAt (op) (a) (b) (c) (m) ((w).alloc (.cells #[.int .i64 (mul), .int .i64 (div), .int .i64 (tk), .int .i64 (hz)] 49)) (w.heap.size + 1) (by simp))
  have BxI0 := Lib.hid (below_new BxT0.out (.cells #[.int .u8 (op), .int .i64 (a), .int .i64 (b), .int .i64 (c), .int .i64 (m)] 23))
  have XT0'_lt := XT0'.out.lt
  have XT0'_i0 := XT0'.out.i0
  have XT0'_i1 := XT0'.out.i1
  have XT0'_i2 := XT0'.out.i2
  have XT0'_i3 := XT0'.out.i3
  have XI0_lt := XI0.out.lt
  have XI0_i0 := XI0.out.i0
  have XI0_i1 := XI0.out.i1
  have XI0_i2 := XI0.out.i2
  have XI0_i3 := XI0.out.i3
  have XI0_i4 := XI0.out.i4
  go_wp2_with fail
  go_ret
  exact ⟨ret_int (by first | rfl | omega | go_num), BxI0.out⟩
theorem base65 (mul div tk hz op a b c m : Int) (hm : 0 ≤ mul ∧ mul ≤ 1000) (hd : 0 ≤ div ∧ div ≤ 1000) (r : Int) (hr : baseV mul div op = r) (w : World) :
    Calls Try.prog 65 #[.agg #[.int .i64 mul, .int .i64 div, .int .i64 tk, .int .i64 hz], .agg #[.int .u8 op, .int .i64 a, .int .i64 b, .int .i64 c, .int .i64 m]] w fun e w' => e = .returned (.int .i64 (r)) ∧ Below w.heap.size w w' := by
  subst hr
  unfold baseV
  by_cases h4 : op = 4
  · rw [if_pos h4]; exact base65_4 mul div tk hz op a b c m hm hd h4 w
  rw [if_neg h4]
  by_cases h5 : op = 5
  · rw [if_pos (.inl h5)]; exact base65_5 mul div tk hz op a b c m hm hd h5 w
  by_cases h6 : op = 6
  · rw [if_pos (.inr h6)]; exact base65_6 mul div tk hz op a b c m hm hd h6 w
  rw [if_neg (by omega)]; exact base65_no mul div tk hz op a b c m hm hd ⟨h4, h5, h6⟩ w
def cycV (mul div tk hz op a b c m s : Int) (taken : Bool) : Int := baseV mul div op + ((if hazB op a b c m s = true then hz else 0) + (if taken = true ∧ brB op = true then tk else 0))
theorem cycV_in {mul div tk hz op a b c m s : Int} {taken : Bool} (hm : 0 ≤ mul ∧ mul ≤ 1000) (hd : 0 ≤ div ∧ div ≤ 1000) (ht : 0 ≤ tk ∧ tk ≤ 1000) (hh : 0 ≤ hz ∧ hz ≤ 1000) : 1 ≤ cycV mul div tk hz op a b c m s taken ∧ cycV mul div tk hz op a b c m s taken ≤ 3001 := by
  have hb := baseV_in (op := op) hm hd
  unfold cycV
  split <;> split <;> omega
set_option maxRecDepth 100000 in
set_option maxHeartbeats 4000000 in
theorem cyc44_000 (s : Int) (mul div tk hz op a b c m : Int) (hm : 0 ≤ mul ∧ mul ≤ 1000) (hd : 0 ≤ div ∧ div ≤ 1000) (ht : 0 ≤ tk ∧ tk ≤ 1000) (hh : 0 ≤ hz ∧ hz ≤ 1000) (h0 : 0 ≤ op) (h1 : op ≤ 255) (x : Int) (hx : baseV mul div op = x) (hx0 : 1 ≤ x) (hx1 : x ≤ 1001) (hza : hazB op a b c m s = false) (hbr : brB op = false) (w : World) :
    Calls Try.prog 44 #[.agg #[.int .i64 mul, .int .i64 div, .int .i64 tk, .int .i64 hz], .int .i64 s, .agg #[.int .u8 op, .int .i64 a, .int .i64 b, .int .i64 c, .int .i64 m], .bool false] w fun e w' => e = .returned (.int .i64 (x)) ∧ Below w.heap.size w w' := by
  have H1 := Lib.hid (fun W => base64 mul div tk hz op a b c m hm hd x hx W)
  have H2 := Lib.hid (fun W => hazard_any s op a b c m h0 h1 false hza W)
  have H3 := Lib.hid (fun W => branch28 op false hbr W)
  obtain ⟨ht0, ht1⟩ := ht
  obtain ⟨hh0, hh1⟩ := hh
  clear hm hd h0 h1 hx hza hbr
  go_enter Try.func44, Try.ntmps44
  go_wp2_with fail
  have XT0 := Lib.hid (TF.newAt (mul) (div) (tk) (hz) (w) (w.heap.size) (by simp))
  have BxT0 := Lib.hid (below_new (Below.refl w.heap.size w) (.cells #[.int .i64 (mul), .int .i64 (div), .int .i64 (tk), .int .i64 (hz)] 49))
  have XT0' := Lib.hid (XT0.out.alloc (.cells #[.int .u8 (op), .int .i64 (a), .int .i64 (b), .int .i64 (c), .int .i64 (m)] 23))
  have XI0 := Lib.hid (IF.newAt (op) (a) (b) (c) (m) ((w).alloc (.cells #[.int .i64 (mul), .int .i64 (div), .int .i64 (tk), .int .i64 (hz)] 49)) (w.heap.size + 1) (by simp))
  have BxI0 := Lib.hid (below_new BxT0.out (.cells #[.int .u8 (op), .int .i64 (a), .int .i64 (b), .int .i64 (c), .int .i64 (m)] 23))
  have XT0'_lt := XT0'.out.lt
  have XT0'_i0 := XT0'.out.i0
  have XT0'_i1 := XT0'.out.i1
  have XT0'_i2 := XT0'.out.i2
  have XT0'_i3 := XT0'.out.i3
  have XI0_lt := XI0.out.lt
  have XI0_i0 := XI0.out.i0
  have XI0_i1 := XI0.out.i1
  have XI0_i2 := XI0.out.i2
  have XI0_i3 := XI0.out.i3
  have XI0_i4 := XI0.out.i4
  go_wp2_with fail
  refine (H1.out _).mono ?_
  rintro e w1 ⟨rfl, hb1⟩
  have B1 := Lib.hid (below_next BxI0.out hb1)
  have XT1 := Lib.hid (XT0'.out.step hb1)
  have XI1 := Lib.hid (XI0.out.step hb1)
  clear hb1
  have XT1_lt := XT1.out.lt
  have XT1_i0 := XT1.out.i0
  have XT1_i1 := XT1.out.i1
  have XT1_i2 := XT1.out.i2
  have XT1_i3 := XT1.out.i3
  have XI1_lt := XI1.out.lt
  have XI1_i0 := XI1.out.i0
  have XI1_i1 := XI1.out.i1
  have XI1_i2 := XI1.out.i2
  have XI1_i3 := XI1.out.i3
  have XI1_i4 := XI1.out.i4
  go_wp2_with fail
  refine (H2.out _).mono ?_
  rintro e w2 ⟨rfl, hb2⟩
  have B2 := Lib.hid (below_next B1.out hb2)
  have XT2 := Lib.hid (XT1.out.step hb2)
  have XI2 := Lib.hid (XI1.out.step hb2)
  clear hb2
  have XT2_lt := XT2.out.lt
  have XT2_i0 := XT2.out.i0
  have XT2_i1 := XT2.out.i1
  have XT2_i2 := XT2.out.i2
  have XT2_i3 := XT2.out.i3
  have XI2_lt := XI2.out.lt
  have XI2_i0 := XI2.out.i0
  have XI2_i1 := XI2.out.i1
  have XI2_i2 := XI2.out.i2
  have XI2_i3 := XI2.out.i3
  have XI2_i4 := XI2.out.i4
  go_wp2_with fail
  go_ret
  exact ⟨ret_int (by first | rfl | omega | go_num), B2.out⟩
set_option maxRecDepth 100000 in
set_option maxHeartbeats 4000000 in
theorem cyc44_010 (s : Int) (mul div tk hz op a b c m : Int) (hm : 0 ≤ mul ∧ mul ≤ 1000) (hd : 0 ≤ div ∧ div ≤ 1000) (ht : 0 ≤ tk ∧ tk ≤ 1000) (hh : 0 ≤ hz ∧ hz ≤ 1000) (h0 : 0 ≤ op) (h1 : op ≤ 255) (x : Int) (hx : baseV mul div op = x) (hx0 : 1 ≤ x) (hx1 : x ≤ 1001) (hza : hazB op a b c m s = false) (hbr : brB op = false) (w : World) :
    Calls Try.prog 44 #[.agg #[.int .i64 mul, .int .i64 div, .int .i64 tk, .int .i64 hz], .int .i64 s, .agg #[.int .u8 op, .int .i64 a, .int .i64 b, .int .i64 c, .int .i64 m], .bool true] w fun e w' => e = .returned (.int .i64 (x)) ∧ Below w.heap.size w w' := by
  have H1 := Lib.hid (fun W => base64 mul div tk hz op a b c m hm hd x hx W)
  have H2 := Lib.hid (fun W => hazard_any s op a b c m h0 h1 false hza W)
  have H3 := Lib.hid (fun W => branch28 op false hbr W)
  obtain ⟨ht0, ht1⟩ := ht
  obtain ⟨hh0, hh1⟩ := hh
  clear hm hd h0 h1 hx hza hbr
  go_enter Try.func44, Try.ntmps44
  go_wp2_with fail
  have XT0 := Lib.hid (TF.newAt (mul) (div) (tk) (hz) (w) (w.heap.size) (by simp))
  have BxT0 := Lib.hid (below_new (Below.refl w.heap.size w) (.cells #[.int .i64 (mul), .int .i64 (div), .int .i64 (tk), .int .i64 (hz)] 49))
  have XT0' := Lib.hid (XT0.out.alloc (.cells #[.int .u8 (op), .int .i64 (a), .int .i64 (b), .int .i64 (c), .int .i64 (m)] 23))
  have XI0 := Lib.hid (IF.newAt (op) (a) (b) (c) (m) ((w).alloc (.cells #[.int .i64 (mul), .int .i64 (div), .int .i64 (tk), .int .i64 (hz)] 49)) (w.heap.size + 1) (by simp))
  have BxI0 := Lib.hid (below_new BxT0.out (.cells #[.int .u8 (op), .int .i64 (a), .int .i64 (b), .int .i64 (c), .int .i64 (m)] 23))
  have XT0'_lt := XT0'.out.lt
  have XT0'_i0 := XT0'.out.i0
  have XT0'_i1 := XT0'.out.i1
  have XT0'_i2 := XT0'.out.i2
  have XT0'_i3 := XT0'.out.i3
  have XI0_lt := XI0.out.lt
  have XI0_i0 := XI0.out.i0
  have XI0_i1 := XI0.out.i1
  have XI0_i2 := XI0.out.i2
  have XI0_i3 := XI0.out.i3
  have XI0_i4 := XI0.out.i4
  go_wp2_with fail
  refine (H1.out _).mono ?_
  rintro e w1 ⟨rfl, hb1⟩
  have B1 := Lib.hid (below_next BxI0.out hb1)
  have XT1 := Lib.hid (XT0'.out.step hb1)
  have XI1 := Lib.hid (XI0.out.step hb1)
  clear hb1
  have XT1_lt := XT1.out.lt
  have XT1_i0 := XT1.out.i0
  have XT1_i1 := XT1.out.i1
  have XT1_i2 := XT1.out.i2
  have XT1_i3 := XT1.out.i3
  have XI1_lt := XI1.out.lt
  have XI1_i0 := XI1.out.i0
  have XI1_i1 := XI1.out.i1
  have XI1_i2 := XI1.out.i2
  have XI1_i3 := XI1.out.i3
  have XI1_i4 := XI1.out.i4
  go_wp2_with fail
  refine (H2.out _).mono ?_
  rintro e w2 ⟨rfl, hb2⟩
  have B2 := Lib.hid (below_next B1.out hb2)
  have XT2 := Lib.hid (XT1.out.step hb2)
  have XI2 := Lib.hid (XI1.out.step hb2)
  clear hb2
  have XT2_lt := XT2.out.lt
  have XT2_i0 := XT2.out.i0
  have XT2_i1 := XT2.out.i1
  have XT2_i2 := XT2.out.i2
  have XT2_i3 := XT2.out.i3
  have XI2_lt := XI2.out.lt
  have XI2_i0 := XI2.out.i0
  have XI2_i1 := XI2.out.i1
  have XI2_i2 := XI2.out.i2
  have XI2_i3 := XI2.out.i3
  have XI2_i4 := XI2.out.i4
  go_wp2_with fail
  refine (H3.out _).mono ?_
  rintro e w3 ⟨rfl, hb3⟩
  have B3 := Lib.hid (below_next B2.out hb3)
  have XT3 := Lib.hid (XT2.out.step hb3)
  have XI3 := Lib.hid (XI2.out.step hb3)
  clear hb3
  have XT3_lt := XT3.out.lt
  have XT3_i0 := XT3.out.i0
  have XT3_i1 := XT3.out.i1
  have XT3_i2 := XT3.out.i2
  have XT3_i3 := XT3.out.i3
  have XI3_lt := XI3.out.lt
  have XI3_i0 := XI3.out.i0
  have XI3_i1 := XI3.out.i1
  have XI3_i2 := XI3.out.i2
  have XI3_i3 := XI3.out.i3
  have XI3_i4 := XI3.out.i4
  go_wp2_with fail
  go_ret
  exact ⟨ret_int (by first | rfl | omega | go_num), B3.out⟩
set_option maxRecDepth 100000 in
set_option maxHeartbeats 4000000 in
theorem cyc44_011 (s : Int) (mul div tk hz op a b c m : Int) (hm : 0 ≤ mul ∧ mul ≤ 1000) (hd : 0 ≤ div ∧ div ≤ 1000) (ht : 0 ≤ tk ∧ tk ≤ 1000) (hh : 0 ≤ hz ∧ hz ≤ 1000) (h0 : 0 ≤ op) (h1 : op ≤ 255) (x : Int) (hx : baseV mul div op = x) (hx0 : 1 ≤ x) (hx1 : x ≤ 1001) (hza : hazB op a b c m s = false) (hbr : brB op = true) (w : World) :
    Calls Try.prog 44 #[.agg #[.int .i64 mul, .int .i64 div, .int .i64 tk, .int .i64 hz], .int .i64 s, .agg #[.int .u8 op, .int .i64 a, .int .i64 b, .int .i64 c, .int .i64 m], .bool true] w fun e w' => e = .returned (.int .i64 (x + tk)) ∧ Below w.heap.size w w' := by
  have H1 := Lib.hid (fun W => base64 mul div tk hz op a b c m hm hd x hx W)
  have H2 := Lib.hid (fun W => hazard_any s op a b c m h0 h1 false hza W)
  have H3 := Lib.hid (fun W => branch28 op true hbr W)
  obtain ⟨ht0, ht1⟩ := ht
  obtain ⟨hh0, hh1⟩ := hh
  clear hm hd h0 h1 hx hza hbr
  go_enter Try.func44, Try.ntmps44
  go_wp2_with fail
  have XT0 := Lib.hid (TF.newAt (mul) (div) (tk) (hz) (w) (w.heap.size) (by simp))
  have BxT0 := Lib.hid (below_new (Below.refl w.heap.size w) (.cells #[.int .i64 (mul), .int .i64 (div), .int .i64 (tk), .int .i64 (hz)] 49))
  have XT0' := Lib.hid (XT0.out.alloc (.cells #[.int .u8 (op), .int .i64 (a), .int .i64 (b), .int .i64 (c), .int .i64 (m)] 23))
  have XI0 := Lib.hid (IF.newAt (op) (a) (b) (c) (m) ((w).alloc (.cells #[.int .i64 (mul), .int .i64 (div), .int .i64 (tk), .int .i64 (hz)] 49)) (w.heap.size + 1) (by simp))
  have BxI0 := Lib.hid (below_new BxT0.out (.cells #[.int .u8 (op), .int .i64 (a), .int .i64 (b), .int .i64 (c), .int .i64 (m)] 23))
  have XT0'_lt := XT0'.out.lt
  have XT0'_i0 := XT0'.out.i0
  have XT0'_i1 := XT0'.out.i1
  have XT0'_i2 := XT0'.out.i2
  have XT0'_i3 := XT0'.out.i3
  have XI0_lt := XI0.out.lt
  have XI0_i0 := XI0.out.i0
  have XI0_i1 := XI0.out.i1
  have XI0_i2 := XI0.out.i2
  have XI0_i3 := XI0.out.i3
  have XI0_i4 := XI0.out.i4
  go_wp2_with fail
  refine (H1.out _).mono ?_
  rintro e w1 ⟨rfl, hb1⟩
  have B1 := Lib.hid (below_next BxI0.out hb1)
  have XT1 := Lib.hid (XT0'.out.step hb1)
  have XI1 := Lib.hid (XI0.out.step hb1)
  clear hb1
  have XT1_lt := XT1.out.lt
  have XT1_i0 := XT1.out.i0
  have XT1_i1 := XT1.out.i1
  have XT1_i2 := XT1.out.i2
  have XT1_i3 := XT1.out.i3
  have XI1_lt := XI1.out.lt
  have XI1_i0 := XI1.out.i0
  have XI1_i1 := XI1.out.i1
  have XI1_i2 := XI1.out.i2
  have XI1_i3 := XI1.out.i3
  have XI1_i4 := XI1.out.i4
  go_wp2_with fail
  refine (H2.out _).mono ?_
  rintro e w2 ⟨rfl, hb2⟩
  have B2 := Lib.hid (below_next B1.out hb2)
  have XT2 := Lib.hid (XT1.out.step hb2)
  have XI2 := Lib.hid (XI1.out.step hb2)
  clear hb2
  have XT2_lt := XT2.out.lt
  have XT2_i0 := XT2.out.i0
  have XT2_i1 := XT2.out.i1
  have XT2_i2 := XT2.out.i2
  have XT2_i3 := XT2.out.i3
  have XI2_lt := XI2.out.lt
  have XI2_i0 := XI2.out.i0
  have XI2_i1 := XI2.out.i1
  have XI2_i2 := XI2.out.i2
  have XI2_i3 := XI2.out.i3
  have XI2_i4 := XI2.out.i4
  go_wp2_with fail
  refine (H3.out _).mono ?_
  rintro e w3 ⟨rfl, hb3⟩
  have B3 := Lib.hid (below_next B2.out hb3)
  have XT3 := Lib.hid (XT2.out.step hb3)
  have XI3 := Lib.hid (XI2.out.step hb3)
  clear hb3
  have XT3_lt := XT3.out.lt
  have XT3_i0 := XT3.out.i0
  have XT3_i1 := XT3.out.i1
  have XT3_i2 := XT3.out.i2
  have XT3_i3 := XT3.out.i3
  have XI3_lt := XI3.out.lt
  have XI3_i0 := XI3.out.i0
  have XI3_i1 := XI3.out.i1
  have XI3_i2 := XI3.out.i2
  have XI3_i3 := XI3.out.i3
  have XI3_i4 := XI3.out.i4
  go_wp2_with fail
  go_ret
  exact ⟨ret_int (by first | rfl | omega | go_num), B3.out⟩
set_option maxRecDepth 100000 in
set_option maxHeartbeats 4000000 in
theorem cyc44_100 (s : Int) (mul div tk hz op a b c m : Int) (hm : 0 ≤ mul ∧ mul ≤ 1000) (hd : 0 ≤ div ∧ div ≤ 1000) (ht : 0 ≤ tk ∧ tk ≤ 1000) (hh : 0 ≤ hz ∧ hz ≤ 1000) (h0 : 0 ≤ op) (h1 : op ≤ 255) (x : Int) (hx : baseV mul div op = x) (hx0 : 1 ≤ x) (hx1 : x ≤ 1001) (hza : hazB op a b c m s = true) (hbr : brB op = false) (w : World) :
    Calls Try.prog 44 #[.agg #[.int .i64 mul, .int .i64 div, .int .i64 tk, .int .i64 hz], .int .i64 s, .agg #[.int .u8 op, .int .i64 a, .int .i64 b, .int .i64 c, .int .i64 m], .bool false] w fun e w' => e = .returned (.int .i64 (x + hz)) ∧ Below w.heap.size w w' := by
  have H1 := Lib.hid (fun W => base64 mul div tk hz op a b c m hm hd x hx W)
  have H2 := Lib.hid (fun W => hazard_any s op a b c m h0 h1 true hza W)
  have H3 := Lib.hid (fun W => branch28 op false hbr W)
  obtain ⟨ht0, ht1⟩ := ht
  obtain ⟨hh0, hh1⟩ := hh
  clear hm hd h0 h1 hx hza hbr
  go_enter Try.func44, Try.ntmps44
  go_wp2_with fail
  have XT0 := Lib.hid (TF.newAt (mul) (div) (tk) (hz) (w) (w.heap.size) (by simp))
  have BxT0 := Lib.hid (below_new (Below.refl w.heap.size w) (.cells #[.int .i64 (mul), .int .i64 (div), .int .i64 (tk), .int .i64 (hz)] 49))
  have XT0' := Lib.hid (XT0.out.alloc (.cells #[.int .u8 (op), .int .i64 (a), .int .i64 (b), .int .i64 (c), .int .i64 (m)] 23))
  have XI0 := Lib.hid (IF.newAt (op) (a) (b) (c) (m) ((w).alloc (.cells #[.int .i64 (mul), .int .i64 (div), .int .i64 (tk), .int .i64 (hz)] 49)) (w.heap.size + 1) (by simp))
  have BxI0 := Lib.hid (below_new BxT0.out (.cells #[.int .u8 (op), .int .i64 (a), .int .i64 (b), .int .i64 (c), .int .i64 (m)] 23))
  have XT0'_lt := XT0'.out.lt
  have XT0'_i0 := XT0'.out.i0
  have XT0'_i1 := XT0'.out.i1
  have XT0'_i2 := XT0'.out.i2
  have XT0'_i3 := XT0'.out.i3
  have XI0_lt := XI0.out.lt
  have XI0_i0 := XI0.out.i0
  have XI0_i1 := XI0.out.i1
  have XI0_i2 := XI0.out.i2
  have XI0_i3 := XI0.out.i3
  have XI0_i4 := XI0.out.i4
  go_wp2_with fail
  refine (H1.out _).mono ?_
  rintro e w1 ⟨rfl, hb1⟩
  have B1 := Lib.hid (below_next BxI0.out hb1)
  have XT1 := Lib.hid (XT0'.out.step hb1)
  have XI1 := Lib.hid (XI0.out.step hb1)
  clear hb1
  have XT1_lt := XT1.out.lt
  have XT1_i0 := XT1.out.i0
  have XT1_i1 := XT1.out.i1
  have XT1_i2 := XT1.out.i2
  have XT1_i3 := XT1.out.i3
  have XI1_lt := XI1.out.lt
  have XI1_i0 := XI1.out.i0
  have XI1_i1 := XI1.out.i1
  have XI1_i2 := XI1.out.i2
  have XI1_i3 := XI1.out.i3
  have XI1_i4 := XI1.out.i4
  go_wp2_with fail
  refine (H2.out _).mono ?_
  rintro e w2 ⟨rfl, hb2⟩
  have B2 := Lib.hid (below_next B1.out hb2)
  have XT2 := Lib.hid (XT1.out.step hb2)
  have XI2 := Lib.hid (XI1.out.step hb2)
  clear hb2
  have XT2_lt := XT2.out.lt
  have XT2_i0 := XT2.out.i0
  have XT2_i1 := XT2.out.i1
  have XT2_i2 := XT2.out.i2
  have XT2_i3 := XT2.out.i3
  have XI2_lt := XI2.out.lt
  have XI2_i0 := XI2.out.i0
  have XI2_i1 := XI2.out.i1
  have XI2_i2 := XI2.out.i2
  have XI2_i3 := XI2.out.i3
  have XI2_i4 := XI2.out.i4
  go_wp2_with fail
  go_ret
  exact ⟨ret_int (by first | rfl | omega | go_num), B2.out⟩
set_option maxRecDepth 100000 in
set_option maxHeartbeats 4000000 in
theorem cyc44_110 (s : Int) (mul div tk hz op a b c m : Int) (hm : 0 ≤ mul ∧ mul ≤ 1000) (hd : 0 ≤ div ∧ div ≤ 1000) (ht : 0 ≤ tk ∧ tk ≤ 1000) (hh : 0 ≤ hz ∧ hz ≤ 1000) (h0 : 0 ≤ op) (h1 : op ≤ 255) (x : Int) (hx : baseV mul div op = x) (hx0 : 1 ≤ x) (hx1 : x ≤ 1001) (hza : hazB op a b c m s = true) (hbr : brB op = false) (w : World) :
    Calls Try.prog 44 #[.agg #[.int .i64 mul, .int .i64 div, .int .i64 tk, .int .i64 hz], .int .i64 s, .agg #[.int .u8 op, .int .i64 a, .int .i64 b, .int .i64 c, .int .i64 m], .bool true] w fun e w' => e = .returned (.int .i64 (x + hz)) ∧ Below w.heap.size w w' := by
  have H1 := Lib.hid (fun W => base64 mul div tk hz op a b c m hm hd x hx W)
  have H2 := Lib.hid (fun W => hazard_any s op a b c m h0 h1 true hza W)
  have H3 := Lib.hid (fun W => branch28 op false hbr W)
  obtain ⟨ht0, ht1⟩ := ht
  obtain ⟨hh0, hh1⟩ := hh
  clear hm hd h0 h1 hx hza hbr
  go_enter Try.func44, Try.ntmps44
  go_wp2_with fail
  have XT0 := Lib.hid (TF.newAt (mul) (div) (tk) (hz) (w) (w.heap.size) (by simp))
  have BxT0 := Lib.hid (below_new (Below.refl w.heap.size w) (.cells #[.int .i64 (mul), .int .i64 (div), .int .i64 (tk), .int .i64 (hz)] 49))
  have XT0' := Lib.hid (XT0.out.alloc (.cells #[.int .u8 (op), .int .i64 (a), .int .i64 (b), .int .i64 (c), .int .i64 (m)] 23))
  have XI0 := Lib.hid (IF.newAt (op) (a) (b) (c) (m) ((w).alloc (.cells #[.int .i64 (mul), .int .i64 (div), .int .i64 (tk), .int .i64 (hz)] 49)) (w.heap.size + 1) (by simp))
  have BxI0 := Lib.hid (below_new BxT0.out (.cells #[.int .u8 (op), .int .i64 (a), .int .i64 (b), .int .i64 (c), .int .i64 (m)] 23))
  have XT0'_lt := XT0'.out.lt
  have XT0'_i0 := XT0'.out.i0
  have XT0'_i1 := XT0'.out.i1
  have XT0'_i2 := XT0'.out.i2
  have XT0'_i3 := XT0'.out.i3
  have XI0_lt := XI0.out.lt
  have XI0_i0 := XI0.out.i0
  have XI0_i1 := XI0.out.i1
  have XI0_i2 := XI0.out.i2
  have XI0_i3 := XI0.out.i3
  have XI0_i4 := XI0.out.i4
  go_wp2_with fail
  refine (H1.out _).mono ?_
  rintro e w1 ⟨rfl, hb1⟩
  have B1 := Lib.hid (below_next BxI0.out hb1)
  have XT1 := Lib.hid (XT0'.out.step hb1)
  have XI1 := Lib.hid (XI0.out.step hb1)
  clear hb1
  have XT1_lt := XT1.out.lt
  have XT1_i0 := XT1.out.i0
  have XT1_i1 := XT1.out.i1
  have XT1_i2 := XT1.out.i2
  have XT1_i3 := XT1.out.i3
  have XI1_lt := XI1.out.lt
  have XI1_i0 := XI1.out.i0
  have XI1_i1 := XI1.out.i1
  have XI1_i2 := XI1.out.i2
  have XI1_i3 := XI1.out.i3
  have XI1_i4 := XI1.out.i4
  go_wp2_with fail
  refine (H2.out _).mono ?_
  rintro e w2 ⟨rfl, hb2⟩
  have B2 := Lib.hid (below_next B1.out hb2)
  have XT2 := Lib.hid (XT1.out.step hb2)
  have XI2 := Lib.hid (XI1.out.step hb2)
  clear hb2
  have XT2_lt := XT2.out.lt
  have XT2_i0 := XT2.out.i0
  have XT2_i1 := XT2.out.i1
  have XT2_i2 := XT2.out.i2
  have XT2_i3 := XT2.out.i3
  have XI2_lt := XI2.out.lt
  have XI2_i0 := XI2.out.i0
  have XI2_i1 := XI2.out.i1
  have XI2_i2 := XI2.out.i2
  have XI2_i3 := XI2.out.i3
  have XI2_i4 := XI2.out.i4
  go_wp2_with fail
  refine (H3.out _).mono ?_
  rintro e w3 ⟨rfl, hb3⟩
  have B3 := Lib.hid (below_next B2.out hb3)
  have XT3 := Lib.hid (XT2.out.step hb3)
  have XI3 := Lib.hid (XI2.out.step hb3)
  clear hb3
  have XT3_lt := XT3.out.lt
  have XT3_i0 := XT3.out.i0
  have XT3_i1 := XT3.out.i1
  have XT3_i2 := XT3.out.i2
  have XT3_i3 := XT3.out.i3
  have XI3_lt := XI3.out.lt
  have XI3_i0 := XI3.out.i0
  have XI3_i1 := XI3.out.i1
  have XI3_i2 := XI3.out.i2
  have XI3_i3 := XI3.out.i3
  have XI3_i4 := XI3.out.i4
  go_wp2_with fail
  go_ret
  exact ⟨ret_int (by first | rfl | omega | go_num), B3.out⟩
set_option maxRecDepth 100000 in
set_option maxHeartbeats 4000000 in
theorem cyc44_111 (s : Int) (mul div tk hz op a b c m : Int) (hm : 0 ≤ mul ∧ mul ≤ 1000) (hd : 0 ≤ div ∧ div ≤ 1000) (ht : 0 ≤ tk ∧ tk ≤ 1000) (hh : 0 ≤ hz ∧ hz ≤ 1000) (h0 : 0 ≤ op) (h1 : op ≤ 255) (x : Int) (hx : baseV mul div op = x) (hx0 : 1 ≤ x) (hx1 : x ≤ 1001) (hza : hazB op a b c m s = true) (hbr : brB op = true) (w : World) :
    Calls Try.prog 44 #[.agg #[.int .i64 mul, .int .i64 div, .int .i64 tk, .int .i64 hz], .int .i64 s, .agg #[.int .u8 op, .int .i64 a, .int .i64 b, .int .i64 c, .int .i64 m], .bool true] w fun e w' => e = .returned (.int .i64 (x + hz + tk)) ∧ Below w.heap.size w w' := by
  have H1 := Lib.hid (fun W => base64 mul div tk hz op a b c m hm hd x hx W)
  have H2 := Lib.hid (fun W => hazard_any s op a b c m h0 h1 true hza W)
  have H3 := Lib.hid (fun W => branch28 op true hbr W)
  obtain ⟨ht0, ht1⟩ := ht
  obtain ⟨hh0, hh1⟩ := hh
  clear hm hd h0 h1 hx hza hbr
  go_enter Try.func44, Try.ntmps44
  go_wp2_with fail
  have XT0 := Lib.hid (TF.newAt (mul) (div) (tk) (hz) (w) (w.heap.size) (by simp))
  have BxT0 := Lib.hid (below_new (Below.refl w.heap.size w) (.cells #[.int .i64 (mul), .int .i64 (div), .int .i64 (tk), .int .i64 (hz)] 49))
  have XT0' := Lib.hid (XT0.out.alloc (.cells #[.int .u8 (op), .int .i64 (a), .int .i64 (b), .int .i64 (c), .int .i64 (m)] 23))
  have XI0 := Lib.hid (IF.newAt (op) (a) (b) (c) (m) ((w).alloc (.cells #[.int .i64 (mul), .int .i64 (div), .int .i64 (tk), .int .i64 (hz)] 49)) (w.heap.size + 1) (by simp))
  have BxI0 := Lib.hid (below_new BxT0.out (.cells #[.int .u8 (op), .int .i64 (a), .int .i64 (b), .int .i64 (c), .int .i64 (m)] 23))
  have XT0'_lt := XT0'.out.lt
  have XT0'_i0 := XT0'.out.i0
  have XT0'_i1 := XT0'.out.i1
  have XT0'_i2 := XT0'.out.i2
  have XT0'_i3 := XT0'.out.i3
  have XI0_lt := XI0.out.lt
  have XI0_i0 := XI0.out.i0
  have XI0_i1 := XI0.out.i1
  have XI0_i2 := XI0.out.i2
  have XI0_i3 := XI0.out.i3
  have XI0_i4 := XI0.out.i4
  go_wp2_with fail
  refine (H1.out _).mono ?_
  rintro e w1 ⟨rfl, hb1⟩
  have B1 := Lib.hid (below_next BxI0.out hb1)
  have XT1 := Lib.hid (XT0'.out.step hb1)
  have XI1 := Lib.hid (XI0.out.step hb1)
  clear hb1
  have XT1_lt := XT1.out.lt
  have XT1_i0 := XT1.out.i0
  have XT1_i1 := XT1.out.i1
  have XT1_i2 := XT1.out.i2
  have XT1_i3 := XT1.out.i3
  have XI1_lt := XI1.out.lt
  have XI1_i0 := XI1.out.i0
  have XI1_i1 := XI1.out.i1
  have XI1_i2 := XI1.out.i2
  have XI1_i3 := XI1.out.i3
  have XI1_i4 := XI1.out.i4
  go_wp2_with fail
  refine (H2.out _).mono ?_
  rintro e w2 ⟨rfl, hb2⟩
  have B2 := Lib.hid (below_next B1.out hb2)
  have XT2 := Lib.hid (XT1.out.step hb2)
  have XI2 := Lib.hid (XI1.out.step hb2)
  clear hb2
  have XT2_lt := XT2.out.lt
  have XT2_i0 := XT2.out.i0
  have XT2_i1 := XT2.out.i1
  have XT2_i2 := XT2.out.i2
  have XT2_i3 := XT2.out.i3
  have XI2_lt := XI2.out.lt
  have XI2_i0 := XI2.out.i0
  have XI2_i1 := XI2.out.i1
  have XI2_i2 := XI2.out.i2
  have XI2_i3 := XI2.out.i3
  have XI2_i4 := XI2.out.i4
  go_wp2_with fail
  refine (H3.out _).mono ?_
  rintro e w3 ⟨rfl, hb3⟩
  have B3 := Lib.hid (below_next B2.out hb3)
  have XT3 := Lib.hid (XT2.out.step hb3)
  have XI3 := Lib.hid (XI2.out.step hb3)
  clear hb3
  have XT3_lt := XT3.out.lt
  have XT3_i0 := XT3.out.i0
  have XT3_i1 := XT3.out.i1
  have XT3_i2 := XT3.out.i2
  have XT3_i3 := XT3.out.i3
  have XI3_lt := XI3.out.lt
  have XI3_i0 := XI3.out.i0
  have XI3_i1 := XI3.out.i1
  have XI3_i2 := XI3.out.i2
  have XI3_i3 := XI3.out.i3
  have XI3_i4 := XI3.out.i4
  go_wp2_with fail
  go_ret
  exact ⟨ret_int (by first | rfl | omega | go_num), B3.out⟩
set_option maxRecDepth 100000 in
set_option maxHeartbeats 4000000 in
theorem cyc44_001 (s : Int) (mul div tk hz op a b c m : Int) (hm : 0 ≤ mul ∧ mul ≤ 1000) (hd : 0 ≤ div ∧ div ≤ 1000) (ht : 0 ≤ tk ∧ tk ≤ 1000) (hh : 0 ≤ hz ∧ hz ≤ 1000) (h0 : 0 ≤ op) (h1 : op ≤ 255) (x : Int) (hx : baseV mul div op = x) (hx0 : 1 ≤ x) (hx1 : x ≤ 1001) (hza : hazB op a b c m s = false) (hbr : brB op = true) (w : World) :
    Calls Try.prog 44 #[.agg #[.int .i64 mul, .int .i64 div, .int .i64 tk, .int .i64 hz], .int .i64 s, .agg #[.int .u8 op, .int .i64 a, .int .i64 b, .int .i64 c, .int .i64 m], .bool false] w fun e w' => e = .returned (.int .i64 (x)) ∧ Below w.heap.size w w' := by
  have H1 := Lib.hid (fun W => base64 mul div tk hz op a b c m hm hd x hx W)
  have H2 := Lib.hid (fun W => hazard_any s op a b c m h0 h1 false hza W)
  obtain ⟨ht0, ht1⟩ := ht
  obtain ⟨hh0, hh1⟩ := hh
  clear hm hd h0 h1 hx hza hbr
  go_enter Try.func44, Try.ntmps44
  go_wp2_with fail
  have XT0 := Lib.hid (TF.newAt (mul) (div) (tk) (hz) (w) (w.heap.size) (by simp))
  have BxT0 := Lib.hid (below_new (Below.refl w.heap.size w) (.cells #[.int .i64 (mul), .int .i64 (div), .int .i64 (tk), .int .i64 (hz)] 49))
  have XT0' := Lib.hid (XT0.out.alloc (.cells #[.int .u8 (op), .int .i64 (a), .int .i64 (b), .int .i64 (c), .int .i64 (m)] 23))
  have XI0 := Lib.hid (IF.newAt (op) (a) (b) (c) (m) ((w).alloc (.cells #[.int .i64 (mul), .int .i64 (div), .int .i64 (tk), .int .i64 (hz)] 49)) (w.heap.size + 1) (by simp))
  have BxI0 := Lib.hid (below_new BxT0.out (.cells #[.int .u8 (op), .int .i64 (a), .int .i64 (b), .int .i64 (c), .int .i64 (m)] 23))
  have XT0'_lt := XT0'.out.lt
  have XT0'_i0 := XT0'.out.i0
  have XT0'_i1 := XT0'.out.i1
  have XT0'_i2 := XT0'.out.i2
  have XT0'_i3 := XT0'.out.i3
  have XI0_lt := XI0.out.lt
  have XI0_i0 := XI0.out.i0
  have XI0_i1 := XI0.out.i1
  have XI0_i2 := XI0.out.i2
  have XI0_i3 := XI0.out.i3
  have XI0_i4 := XI0.out.i4
  go_wp2_with fail
  refine (H1.out _).mono ?_
  rintro e w1 ⟨rfl, hb1⟩
  have B1 := Lib.hid (below_next BxI0.out hb1)
  have XT1 := Lib.hid (XT0'.out.step hb1)
  have XI1 := Lib.hid (XI0.out.step hb1)
  clear hb1
  have XT1_lt := XT1.out.lt
  have XT1_i0 := XT1.out.i0
  have XT1_i1 := XT1.out.i1
  have XT1_i2 := XT1.out.i2
  have XT1_i3 := XT1.out.i3
  have XI1_lt := XI1.out.lt
  have XI1_i0 := XI1.out.i0
  have XI1_i1 := XI1.out.i1
  have XI1_i2 := XI1.out.i2
  have XI1_i3 := XI1.out.i3
  have XI1_i4 := XI1.out.i4
  go_wp2_with fail
  refine (H2.out _).mono ?_
  rintro e w2 ⟨rfl, hb2⟩
  have B2 := Lib.hid (below_next B1.out hb2)
  have XT2 := Lib.hid (XT1.out.step hb2)
  have XI2 := Lib.hid (XI1.out.step hb2)
  clear hb2
  have XT2_lt := XT2.out.lt
  have XT2_i0 := XT2.out.i0
  have XT2_i1 := XT2.out.i1
  have XT2_i2 := XT2.out.i2
  have XT2_i3 := XT2.out.i3
  have XI2_lt := XI2.out.lt
  have XI2_i0 := XI2.out.i0
  have XI2_i1 := XI2.out.i1
  have XI2_i2 := XI2.out.i2
  have XI2_i3 := XI2.out.i3
  have XI2_i4 := XI2.out.i4
  go_wp2_with fail
  go_ret
  exact ⟨ret_int (by first | rfl | omega | go_num), B2.out⟩
set_option maxRecDepth 100000 in
set_option maxHeartbeats 4000000 in
theorem cyc44_101 (s : Int) (mul div tk hz op a b c m : Int) (hm : 0 ≤ mul ∧ mul ≤ 1000) (hd : 0 ≤ div ∧ div ≤ 1000) (ht : 0 ≤ tk ∧ tk ≤ 1000) (hh : 0 ≤ hz ∧ hz ≤ 1000) (h0 : 0 ≤ op) (h1 : op ≤ 255) (x : Int) (hx : baseV mul div op = x) (hx0 : 1 ≤ x) (hx1 : x ≤ 1001) (hza : hazB op a b c m s = true) (hbr : brB op = true) (w : World) :
    Calls Try.prog 44 #[.agg #[.int .i64 mul, .int .i64 div, .int .i64 tk, .int .i64 hz], .int .i64 s, .agg #[.int .u8 op, .int .i64 a, .int .i64 b, .int .i64 c, .int .i64 m], .bool false] w fun e w' => e = .returned (.int .i64 (x + hz)) ∧ Below w.heap.size w w' := by
  have H1 := Lib.hid (fun W => base64 mul div tk hz op a b c m hm hd x hx W)
  have H2 := Lib.hid (fun W => hazard_any s op a b c m h0 h1 true hza W)
  obtain ⟨ht0, ht1⟩ := ht
  obtain ⟨hh0, hh1⟩ := hh
  clear hm hd h0 h1 hx hza hbr
  go_enter Try.func44, Try.ntmps44
  go_wp2_with fail
  have XT0 := Lib.hid (TF.newAt (mul) (div) (tk) (hz) (w) (w.heap.size) (by simp))
  have BxT0 := Lib.hid (below_new (Below.refl w.heap.size w) (.cells #[.int .i64 (mul), .int .i64 (div), .int .i64 (tk), .int .i64 (hz)] 49))
  have XT0' := Lib.hid (XT0.out.alloc (.cells #[.int .u8 (op), .int .i64 (a), .int .i64 (b), .int .i64 (c), .int .i64 (m)] 23))
  have XI0 := Lib.hid (IF.newAt (op) (a) (b) (c) (m) ((w).alloc (.cells #[.int .i64 (mul), .int .i64 (div), .int .i64 (tk), .int .i64 (hz)] 49)) (w.heap.size + 1) (by simp))
  have BxI0 := Lib.hid (below_new BxT0.out (.cells #[.int .u8 (op), .int .i64 (a), .int .i64 (b), .int .i64 (c), .int .i64 (m)] 23))
  have XT0'_lt := XT0'.out.lt
  have XT0'_i0 := XT0'.out.i0
  have XT0'_i1 := XT0'.out.i1
  have XT0'_i2 := XT0'.out.i2
  have XT0'_i3 := XT0'.out.i3
  have XI0_lt := XI0.out.lt
  have XI0_i0 := XI0.out.i0
  have XI0_i1 := XI0.out.i1
  have XI0_i2 := XI0.out.i2
  have XI0_i3 := XI0.out.i3
  have XI0_i4 := XI0.out.i4
  go_wp2_with fail
  refine (H1.out _).mono ?_
  rintro e w1 ⟨rfl, hb1⟩
  have B1 := Lib.hid (below_next BxI0.out hb1)
  have XT1 := Lib.hid (XT0'.out.step hb1)
  have XI1 := Lib.hid (XI0.out.step hb1)
  clear hb1
  have XT1_lt := XT1.out.lt
  have XT1_i0 := XT1.out.i0
  have XT1_i1 := XT1.out.i1
  have XT1_i2 := XT1.out.i2
  have XT1_i3 := XT1.out.i3
  have XI1_lt := XI1.out.lt
  have XI1_i0 := XI1.out.i0
  have XI1_i1 := XI1.out.i1
  have XI1_i2 := XI1.out.i2
  have XI1_i3 := XI1.out.i3
  have XI1_i4 := XI1.out.i4
  go_wp2_with fail
  refine (H2.out _).mono ?_
  rintro e w2 ⟨rfl, hb2⟩
  have B2 := Lib.hid (below_next B1.out hb2)
  have XT2 := Lib.hid (XT1.out.step hb2)
  have XI2 := Lib.hid (XI1.out.step hb2)
  clear hb2
  have XT2_lt := XT2.out.lt
  have XT2_i0 := XT2.out.i0
  have XT2_i1 := XT2.out.i1
  have XT2_i2 := XT2.out.i2
  have XT2_i3 := XT2.out.i3
  have XI2_lt := XI2.out.lt
  have XI2_i0 := XI2.out.i0
  have XI2_i1 := XI2.out.i1
  have XI2_i2 := XI2.out.i2
  have XI2_i3 := XI2.out.i3
  have XI2_i4 := XI2.out.i4
  go_wp2_with fail
  go_ret
  exact ⟨ret_int (by first | rfl | omega | go_num), B2.out⟩
theorem cycles44 (s : Int) (mul div tk hz op a b c m : Int) (hm : 0 ≤ mul ∧ mul ≤ 1000) (hd : 0 ≤ div ∧ div ≤ 1000) (ht : 0 ≤ tk ∧ tk ≤ 1000) (hh : 0 ≤ hz ∧ hz ≤ 1000) (h0 : 0 ≤ op) (h1 : op ≤ 255) (taken : Bool) (r : Int) (hr : cycV mul div tk hz op a b c m s taken = r) (w : World) :
    Calls Try.prog 44 #[.agg #[.int .i64 mul, .int .i64 div, .int .i64 tk, .int .i64 hz], .int .i64 s, .agg #[.int .u8 op, .int .i64 a, .int .i64 b, .int .i64 c, .int .i64 m], .bool taken] w fun e w' => e = .returned (.int .i64 (r)) ∧ Below w.heap.size w w' := by
  subst hr
  have hb := baseV_in (op := op) hm hd
  unfold cycV
  cases hza : hazB op a b c m s <;> cases hbr : brB op <;> cases taken
  · simpa using cyc44_000 s mul div tk hz op a b c m hm hd ht hh h0 h1 _ rfl hb.1 hb.2 hza hbr w
  · simpa using cyc44_010 s mul div tk hz op a b c m hm hd ht hh h0 h1 _ rfl hb.1 hb.2 hza hbr w
  · simpa using cyc44_001 s mul div tk hz op a b c m hm hd ht hh h0 h1 _ rfl hb.1 hb.2 hza hbr w
  · simpa using cyc44_011 s mul div tk hz op a b c m hm hd ht hh h0 h1 _ rfl hb.1 hb.2 hza hbr w
  · simpa using cyc44_100 s mul div tk hz op a b c m hm hd ht hh h0 h1 _ rfl hb.1 hb.2 hza hbr w
  · simpa using cyc44_110 s mul div tk hz op a b c m hm hd ht hh h0 h1 _ rfl hb.1 hb.2 hza hbr w
  · simpa using cyc44_101 s mul div tk hz op a b c m hm hd ht hh h0 h1 _ rfl hb.1 hb.2 hza hbr w
  · simpa [Int.add_assoc] using cyc44_111 s mul div tk hz op a b c m hm hd ht hh h0 h1 _ rfl hb.1 hb.2 hza hbr w
set_option maxRecDepth 100000 in
set_option maxHeartbeats 4000000 in
theorem cyc46_000 (s : Int) (mul div tk hz op a b c m : Int) (hm : 0 ≤ mul ∧ mul ≤ 1000) (hd : 0 ≤ div ∧ div ≤ 1000) (ht : 0 ≤ tk ∧ tk ≤ 1000) (hh : 0 ≤ hz ∧ hz ≤ 1000) (h0 : 0 ≤ op) (h1 : op ≤ 255) (x : Int) (hx : baseV mul div op = x) (hx0 : 1 ≤ x) (hx1 : x ≤ 1001) (hza : hazB op a b c m s = false) (hbr : brB op = false) (w : World) :
    Calls Try.prog 46 #[.agg #[.int .i64 mul, .int .i64 div, .int .i64 tk, .int .i64 hz], .int .i64 s, .agg #[.int .u8 op, .int .i64 a, .int .i64 b, .int .i64 c, .int .i64 m], .bool false] w fun e w' => e = .returned (.int .i64 (x)) ∧ Below w.heap.size w w' := by
  have H1 := Lib.hid (fun W => base65 mul div tk hz op a b c m hm hd x hx W)
  have H2 := Lib.hid (fun W => ref_hazard_any s op a b c m h0 h1 false hza W)
  have H3 := Lib.hid (fun W => branch66 op false hbr W)
  obtain ⟨ht0, ht1⟩ := ht
  obtain ⟨hh0, hh1⟩ := hh
  clear hm hd h0 h1 hx hza hbr
  go_enter Try.func46, Try.ntmps46
  go_wp2_with fail
  have XT0 := Lib.hid (TF.newAt (mul) (div) (tk) (hz) (w) (w.heap.size) (by simp))
  have BxT0 := Lib.hid (below_new (Below.refl w.heap.size w) (.cells #[.int .i64 (mul), .int .i64 (div), .int .i64 (tk), .int .i64 (hz)] 49))
  have XT0' := Lib.hid (XT0.out.alloc (.cells #[.int .u8 (op), .int .i64 (a), .int .i64 (b), .int .i64 (c), .int .i64 (m)] 23))
  have XI0 := Lib.hid (IF.newAt (op) (a) (b) (c) (m) ((w).alloc (.cells #[.int .i64 (mul), .int .i64 (div), .int .i64 (tk), .int .i64 (hz)] 49)) (w.heap.size + 1) (by simp))
  have BxI0 := Lib.hid (below_new BxT0.out (.cells #[.int .u8 (op), .int .i64 (a), .int .i64 (b), .int .i64 (c), .int .i64 (m)] 23))
  have XT0'_lt := XT0'.out.lt
  have XT0'_i0 := XT0'.out.i0
  have XT0'_i1 := XT0'.out.i1
  have XT0'_i2 := XT0'.out.i2
  have XT0'_i3 := XT0'.out.i3
  have XI0_lt := XI0.out.lt
  have XI0_i0 := XI0.out.i0
  have XI0_i1 := XI0.out.i1
  have XI0_i2 := XI0.out.i2
  have XI0_i3 := XI0.out.i3
  have XI0_i4 := XI0.out.i4
  go_wp2_with fail
  refine (H1.out _).mono ?_
  rintro e w1 ⟨rfl, hb1⟩
  have B1 := Lib.hid (below_next BxI0.out hb1)
  have XT1 := Lib.hid (XT0'.out.step hb1)
  have XI1 := Lib.hid (XI0.out.step hb1)
  clear hb1
  have XT1_lt := XT1.out.lt
  have XT1_i0 := XT1.out.i0
  have XT1_i1 := XT1.out.i1
  have XT1_i2 := XT1.out.i2
  have XT1_i3 := XT1.out.i3
  have XI1_lt := XI1.out.lt
  have XI1_i0 := XI1.out.i0
  have XI1_i1 := XI1.out.i1
  have XI1_i2 := XI1.out.i2
  have XI1_i3 := XI1.out.i3
  have XI1_i4 := XI1.out.i4
  go_wp2_with fail
  refine (H2.out _).mono ?_
  rintro e w2 ⟨rfl, hb2⟩
  have B2 := Lib.hid (below_next B1.out hb2)
  have XT2 := Lib.hid (XT1.out.step hb2)
  have XI2 := Lib.hid (XI1.out.step hb2)
  clear hb2
  have XT2_lt := XT2.out.lt
  have XT2_i0 := XT2.out.i0
  have XT2_i1 := XT2.out.i1
  have XT2_i2 := XT2.out.i2
  have XT2_i3 := XT2.out.i3
  have XI2_lt := XI2.out.lt
  have XI2_i0 := XI2.out.i0
  have XI2_i1 := XI2.out.i1
  have XI2_i2 := XI2.out.i2
  have XI2_i3 := XI2.out.i3
  have XI2_i4 := XI2.out.i4
  go_wp2_with fail
  go_ret
  exact ⟨ret_int (by first | rfl | omega | go_num), B2.out⟩
set_option maxRecDepth 100000 in
set_option maxHeartbeats 4000000 in
theorem cyc46_010 (s : Int) (mul div tk hz op a b c m : Int) (hm : 0 ≤ mul ∧ mul ≤ 1000) (hd : 0 ≤ div ∧ div ≤ 1000) (ht : 0 ≤ tk ∧ tk ≤ 1000) (hh : 0 ≤ hz ∧ hz ≤ 1000) (h0 : 0 ≤ op) (h1 : op ≤ 255) (x : Int) (hx : baseV mul div op = x) (hx0 : 1 ≤ x) (hx1 : x ≤ 1001) (hza : hazB op a b c m s = false) (hbr : brB op = false) (w : World) :
    Calls Try.prog 46 #[.agg #[.int .i64 mul, .int .i64 div, .int .i64 tk, .int .i64 hz], .int .i64 s, .agg #[.int .u8 op, .int .i64 a, .int .i64 b, .int .i64 c, .int .i64 m], .bool true] w fun e w' => e = .returned (.int .i64 (x)) ∧ Below w.heap.size w w' := by
  have H1 := Lib.hid (fun W => base65 mul div tk hz op a b c m hm hd x hx W)
  have H2 := Lib.hid (fun W => ref_hazard_any s op a b c m h0 h1 false hza W)
  have H3 := Lib.hid (fun W => branch66 op false hbr W)
  obtain ⟨ht0, ht1⟩ := ht
  obtain ⟨hh0, hh1⟩ := hh
  clear hm hd h0 h1 hx hza hbr
  go_enter Try.func46, Try.ntmps46
  go_wp2_with fail
  have XT0 := Lib.hid (TF.newAt (mul) (div) (tk) (hz) (w) (w.heap.size) (by simp))
  have BxT0 := Lib.hid (below_new (Below.refl w.heap.size w) (.cells #[.int .i64 (mul), .int .i64 (div), .int .i64 (tk), .int .i64 (hz)] 49))
  have XT0' := Lib.hid (XT0.out.alloc (.cells #[.int .u8 (op), .int .i64 (a), .int .i64 (b), .int .i64 (c), .int .i64 (m)] 23))
  have XI0 := Lib.hid (IF.newAt (op) (a) (b) (c) (m) ((w).alloc (.cells #[.int .i64 (mul), .int .i64 (div), .int .i64 (tk), .int .i64 (hz)] 49)) (w.heap.size + 1) (by simp))
  have BxI0 := Lib.hid (below_new BxT0.out (.cells #[.int .u8 (op), .int .i64 (a), .int .i64 (b), .int .i64 (c), .int .i64 (m)] 23))
  have XT0'_lt := XT0'.out.lt
  have XT0'_i0 := XT0'.out.i0
  have XT0'_i1 := XT0'.out.i1
  have XT0'_i2 := XT0'.out.i2
  have XT0'_i3 := XT0'.out.i3
  have XI0_lt := XI0.out.lt
  have XI0_i0 := XI0.out.i0
  have XI0_i1 := XI0.out.i1
  have XI0_i2 := XI0.out.i2
  have XI0_i3 := XI0.out.i3
  have XI0_i4 := XI0.out.i4
  go_wp2_with fail
  refine (H1.out _).mono ?_
  rintro e w1 ⟨rfl, hb1⟩
  have B1 := Lib.hid (below_next BxI0.out hb1)
  have XT1 := Lib.hid (XT0'.out.step hb1)
  have XI1 := Lib.hid (XI0.out.step hb1)
  clear hb1
  have XT1_lt := XT1.out.lt
  have XT1_i0 := XT1.out.i0
  have XT1_i1 := XT1.out.i1
  have XT1_i2 := XT1.out.i2
  have XT1_i3 := XT1.out.i3
  have XI1_lt := XI1.out.lt
  have XI1_i0 := XI1.out.i0
  have XI1_i1 := XI1.out.i1
  have XI1_i2 := XI1.out.i2
  have XI1_i3 := XI1.out.i3
  have XI1_i4 := XI1.out.i4
  go_wp2_with fail
  refine (H2.out _).mono ?_
  rintro e w2 ⟨rfl, hb2⟩
  have B2 := Lib.hid (below_next B1.out hb2)
  have XT2 := Lib.hid (XT1.out.step hb2)
  have XI2 := Lib.hid (XI1.out.step hb2)
  clear hb2
  have XT2_lt := XT2.out.lt
  have XT2_i0 := XT2.out.i0
  have XT2_i1 := XT2.out.i1
  have XT2_i2 := XT2.out.i2
  have XT2_i3 := XT2.out.i3
  have XI2_lt := XI2.out.lt
  have XI2_i0 := XI2.out.i0
  have XI2_i1 := XI2.out.i1
  have XI2_i2 := XI2.out.i2
  have XI2_i3 := XI2.out.i3
  have XI2_i4 := XI2.out.i4
  go_wp2_with fail
  refine (H3.out _).mono ?_
  rintro e w3 ⟨rfl, hb3⟩
  have B3 := Lib.hid (below_next B2.out hb3)
  have XT3 := Lib.hid (XT2.out.step hb3)
  have XI3 := Lib.hid (XI2.out.step hb3)
  clear hb3
  have XT3_lt := XT3.out.lt
  have XT3_i0 := XT3.out.i0
  have XT3_i1 := XT3.out.i1
  have XT3_i2 := XT3.out.i2
  have XT3_i3 := XT3.out.i3
  have XI3_lt := XI3.out.lt
  have XI3_i0 := XI3.out.i0
  have XI3_i1 := XI3.out.i1
  have XI3_i2 := XI3.out.i2
  have XI3_i3 := XI3.out.i3
  have XI3_i4 := XI3.out.i4
  go_wp2_with fail
  go_ret
  exact ⟨ret_int (by first | rfl | omega | go_num), B3.out⟩
set_option maxRecDepth 100000 in
set_option maxHeartbeats 4000000 in
theorem cyc46_011 (s : Int) (mul div tk hz op a b c m : Int) (hm : 0 ≤ mul ∧ mul ≤ 1000) (hd : 0 ≤ div ∧ div ≤ 1000) (ht : 0 ≤ tk ∧ tk ≤ 1000) (hh : 0 ≤ hz ∧ hz ≤ 1000) (h0 : 0 ≤ op) (h1 : op ≤ 255) (x : Int) (hx : baseV mul div op = x) (hx0 : 1 ≤ x) (hx1 : x ≤ 1001) (hza : hazB op a b c m s = false) (hbr : brB op = true) (w : World) :
    Calls Try.prog 46 #[.agg #[.int .i64 mul, .int .i64 div, .int .i64 tk, .int .i64 hz], .int .i64 s, .agg #[.int .u8 op, .int .i64 a, .int .i64 b, .int .i64 c, .int .i64 m], .bool true] w fun e w' => e = .returned (.int .i64 (x + tk)) ∧ Below w.heap.size w w' := by
  have H1 := Lib.hid (fun W => base65 mul div tk hz op a b c m hm hd x hx W)
  have H2 := Lib.hid (fun W => ref_hazard_any s op a b c m h0 h1 false hza W)
  have H3 := Lib.hid (fun W => branch66 op true hbr W)
  obtain ⟨ht0, ht1⟩ := ht
  obtain ⟨hh0, hh1⟩ := hh
  clear hm hd h0 h1 hx hza hbr
  go_enter Try.func46, Try.ntmps46
  go_wp2_with fail
  have XT0 := Lib.hid (TF.newAt (mul) (div) (tk) (hz) (w) (w.heap.size) (by simp))
  have BxT0 := Lib.hid (below_new (Below.refl w.heap.size w) (.cells #[.int .i64 (mul), .int .i64 (div), .int .i64 (tk), .int .i64 (hz)] 49))
  have XT0' := Lib.hid (XT0.out.alloc (.cells #[.int .u8 (op), .int .i64 (a), .int .i64 (b), .int .i64 (c), .int .i64 (m)] 23))
  have XI0 := Lib.hid (IF.newAt (op) (a) (b) (c) (m) ((w).alloc (.cells #[.int .i64 (mul), .int .i64 (div), .int .i64 (tk), .int .i64 (hz)] 49)) (w.heap.size + 1) (by simp))
  have BxI0 := Lib.hid (below_new BxT0.out (.cells #[.int .u8 (op), .int .i64 (a), .int .i64 (b), .int .i64 (c), .int .i64 (m)] 23))
  have XT0'_lt := XT0'.out.lt
  have XT0'_i0 := XT0'.out.i0
  have XT0'_i1 := XT0'.out.i1
  have XT0'_i2 := XT0'.out.i2
  have XT0'_i3 := XT0'.out.i3
  have XI0_lt := XI0.out.lt
  have XI0_i0 := XI0.out.i0
  have XI0_i1 := XI0.out.i1
  have XI0_i2 := XI0.out.i2
  have XI0_i3 := XI0.out.i3
  have XI0_i4 := XI0.out.i4
  go_wp2_with fail
  refine (H1.out _).mono ?_
  rintro e w1 ⟨rfl, hb1⟩
  have B1 := Lib.hid (below_next BxI0.out hb1)
  have XT1 := Lib.hid (XT0'.out.step hb1)
  have XI1 := Lib.hid (XI0.out.step hb1)
  clear hb1
  have XT1_lt := XT1.out.lt
  have XT1_i0 := XT1.out.i0
  have XT1_i1 := XT1.out.i1
  have XT1_i2 := XT1.out.i2
  have XT1_i3 := XT1.out.i3
  have XI1_lt := XI1.out.lt
  have XI1_i0 := XI1.out.i0
  have XI1_i1 := XI1.out.i1
  have XI1_i2 := XI1.out.i2
  have XI1_i3 := XI1.out.i3
  have XI1_i4 := XI1.out.i4
  go_wp2_with fail
  refine (H2.out _).mono ?_
  rintro e w2 ⟨rfl, hb2⟩
  have B2 := Lib.hid (below_next B1.out hb2)
  have XT2 := Lib.hid (XT1.out.step hb2)
  have XI2 := Lib.hid (XI1.out.step hb2)
  clear hb2
  have XT2_lt := XT2.out.lt
  have XT2_i0 := XT2.out.i0
  have XT2_i1 := XT2.out.i1
  have XT2_i2 := XT2.out.i2
  have XT2_i3 := XT2.out.i3
  have XI2_lt := XI2.out.lt
  have XI2_i0 := XI2.out.i0
  have XI2_i1 := XI2.out.i1
  have XI2_i2 := XI2.out.i2
  have XI2_i3 := XI2.out.i3
  have XI2_i4 := XI2.out.i4
  go_wp2_with fail
  refine (H3.out _).mono ?_
  rintro e w3 ⟨rfl, hb3⟩
  have B3 := Lib.hid (below_next B2.out hb3)
  have XT3 := Lib.hid (XT2.out.step hb3)
  have XI3 := Lib.hid (XI2.out.step hb3)
  clear hb3
  have XT3_lt := XT3.out.lt
  have XT3_i0 := XT3.out.i0
  have XT3_i1 := XT3.out.i1
  have XT3_i2 := XT3.out.i2
  have XT3_i3 := XT3.out.i3
  have XI3_lt := XI3.out.lt
  have XI3_i0 := XI3.out.i0
  have XI3_i1 := XI3.out.i1
  have XI3_i2 := XI3.out.i2
  have XI3_i3 := XI3.out.i3
  have XI3_i4 := XI3.out.i4
  go_wp2_with fail
  go_ret
  exact ⟨ret_int (by first | rfl | omega | go_num), B3.out⟩
set_option maxRecDepth 100000 in
set_option maxHeartbeats 4000000 in
theorem cyc46_100 (s : Int) (mul div tk hz op a b c m : Int) (hm : 0 ≤ mul ∧ mul ≤ 1000) (hd : 0 ≤ div ∧ div ≤ 1000) (ht : 0 ≤ tk ∧ tk ≤ 1000) (hh : 0 ≤ hz ∧ hz ≤ 1000) (h0 : 0 ≤ op) (h1 : op ≤ 255) (x : Int) (hx : baseV mul div op = x) (hx0 : 1 ≤ x) (hx1 : x ≤ 1001) (hza : hazB op a b c m s = true) (hbr : brB op = false) (w : World) :
    Calls Try.prog 46 #[.agg #[.int .i64 mul, .int .i64 div, .int .i64 tk, .int .i64 hz], .int .i64 s, .agg #[.int .u8 op, .int .i64 a, .int .i64 b, .int .i64 c, .int .i64 m], .bool false] w fun e w' => e = .returned (.int .i64 (x + hz)) ∧ Below w.heap.size w w' := by
  have H1 := Lib.hid (fun W => base65 mul div tk hz op a b c m hm hd x hx W)
  have H2 := Lib.hid (fun W => ref_hazard_any s op a b c m h0 h1 true hza W)
  have H3 := Lib.hid (fun W => branch66 op false hbr W)
  obtain ⟨ht0, ht1⟩ := ht
  obtain ⟨hh0, hh1⟩ := hh
  clear hm hd h0 h1 hx hza hbr
  go_enter Try.func46, Try.ntmps46
  go_wp2_with fail
  have XT0 := Lib.hid (TF.newAt (mul) (div) (tk) (hz) (w) (w.heap.size) (by simp))
  have BxT0 := Lib.hid (below_new (Below.refl w.heap.size w) (.cells #[.int .i64 (mul), .int .i64 (div), .int .i64 (tk), .int .i64 (hz)] 49))
  have XT0' := Lib.hid (XT0.out.alloc (.cells #[.int .u8 (op), .int .i64 (a), .int .i64 (b), .int .i64 (c), .int .i64 (m)] 23))
  have XI0 := Lib.hid (IF.newAt (op) (a) (b) (c) (m) ((w).alloc (.cells #[.int .i64 (mul), .int .i64 (div), .int .i64 (tk), .int .i64 (hz)] 49)) (w.heap.size + 1) (by simp))
  have BxI0 := Lib.hid (below_new BxT0.out (.cells #[.int .u8 (op), .int .i64 (a), .int .i64 (b), .int .i64 (c), .int .i64 (m)] 23))
  have XT0'_lt := XT0'.out.lt
  have XT0'_i0 := XT0'.out.i0
  have XT0'_i1 := XT0'.out.i1
  have XT0'_i2 := XT0'.out.i2
  have XT0'_i3 := XT0'.out.i3
  have XI0_lt := XI0.out.lt
  have XI0_i0 := XI0.out.i0
  have XI0_i1 := XI0.out.i1
  have XI0_i2 := XI0.out.i2
  have XI0_i3 := XI0.out.i3
  have XI0_i4 := XI0.out.i4
  go_wp2_with fail
  refine (H1.out _).mono ?_
  rintro e w1 ⟨rfl, hb1⟩
  have B1 := Lib.hid (below_next BxI0.out hb1)
  have XT1 := Lib.hid (XT0'.out.step hb1)
  have XI1 := Lib.hid (XI0.out.step hb1)
  clear hb1
  have XT1_lt := XT1.out.lt
  have XT1_i0 := XT1.out.i0
  have XT1_i1 := XT1.out.i1
  have XT1_i2 := XT1.out.i2
  have XT1_i3 := XT1.out.i3
  have XI1_lt := XI1.out.lt
  have XI1_i0 := XI1.out.i0
  have XI1_i1 := XI1.out.i1
  have XI1_i2 := XI1.out.i2
  have XI1_i3 := XI1.out.i3
  have XI1_i4 := XI1.out.i4
  go_wp2_with fail
  refine (H2.out _).mono ?_
  rintro e w2 ⟨rfl, hb2⟩
  have B2 := Lib.hid (below_next B1.out hb2)
  have XT2 := Lib.hid (XT1.out.step hb2)
  have XI2 := Lib.hid (XI1.out.step hb2)
  clear hb2
  have XT2_lt := XT2.out.lt
  have XT2_i0 := XT2.out.i0
  have XT2_i1 := XT2.out.i1
  have XT2_i2 := XT2.out.i2
  have XT2_i3 := XT2.out.i3
  have XI2_lt := XI2.out.lt
  have XI2_i0 := XI2.out.i0
  have XI2_i1 := XI2.out.i1
  have XI2_i2 := XI2.out.i2
  have XI2_i3 := XI2.out.i3
  have XI2_i4 := XI2.out.i4
  go_wp2_with fail
  go_ret
  exact ⟨ret_int (by first | rfl | omega | go_num), B2.out⟩
set_option maxRecDepth 100000 in
set_option maxHeartbeats 4000000 in
theorem cyc46_110 (s : Int) (mul div tk hz op a b c m : Int) (hm : 0 ≤ mul ∧ mul ≤ 1000) (hd : 0 ≤ div ∧ div ≤ 1000) (ht : 0 ≤ tk ∧ tk ≤ 1000) (hh : 0 ≤ hz ∧ hz ≤ 1000) (h0 : 0 ≤ op) (h1 : op ≤ 255) (x : Int) (hx : baseV mul div op = x) (hx0 : 1 ≤ x) (hx1 : x ≤ 1001) (hza : hazB op a b c m s = true) (hbr : brB op = false) (w : World) :
    Calls Try.prog 46 #[.agg #[.int .i64 mul, .int .i64 div, .int .i64 tk, .int .i64 hz], .int .i64 s, .agg #[.int .u8 op, .int .i64 a, .int .i64 b, .int .i64 c, .int .i64 m], .bool true] w fun e w' => e = .returned (.int .i64 (x + hz)) ∧ Below w.heap.size w w' := by
  have H1 := Lib.hid (fun W => base65 mul div tk hz op a b c m hm hd x hx W)
  have H2 := Lib.hid (fun W => ref_hazard_any s op a b c m h0 h1 true hza W)
  have H3 := Lib.hid (fun W => branch66 op false hbr W)
  obtain ⟨ht0, ht1⟩ := ht
  obtain ⟨hh0, hh1⟩ := hh
  clear hm hd h0 h1 hx hza hbr
  go_enter Try.func46, Try.ntmps46
  go_wp2_with fail
  have XT0 := Lib.hid (TF.newAt (mul) (div) (tk) (hz) (w) (w.heap.size) (by simp))
  have BxT0 := Lib.hid (below_new (Below.refl w.heap.size w) (.cells #[.int .i64 (mul), .int .i64 (div), .int .i64 (tk), .int .i64 (hz)] 49))
  have XT0' := Lib.hid (XT0.out.alloc (.cells #[.int .u8 (op), .int .i64 (a), .int .i64 (b), .int .i64 (c), .int .i64 (m)] 23))
  have XI0 := Lib.hid (IF.newAt (op) (a) (b) (c) (m) ((w).alloc (.cells #[.int .i64 (mul), .int .i64 (div), .int .i64 (tk), .int .i64 (hz)] 49)) (w.heap.size + 1) (by simp))
  have BxI0 := Lib.hid (below_new BxT0.out (.cells #[.int .u8 (op), .int .i64 (a), .int .i64 (b), .int .i64 (c), .int .i64 (m)] 23))
  have XT0'_lt := XT0'.out.lt
  have XT0'_i0 := XT0'.out.i0
  have XT0'_i1 := XT0'.out.i1
  have XT0'_i2 := XT0'.out.i2
  have XT0'_i3 := XT0'.out.i3
  have XI0_lt := XI0.out.lt
  have XI0_i0 := XI0.out.i0
  have XI0_i1 := XI0.out.i1
  have XI0_i2 := XI0.out.i2
  have XI0_i3 := XI0.out.i3
  have XI0_i4 := XI0.out.i4
  go_wp2_with fail
  refine (H1.out _).mono ?_
  rintro e w1 ⟨rfl, hb1⟩
  have B1 := Lib.hid (below_next BxI0.out hb1)
  have XT1 := Lib.hid (XT0'.out.step hb1)
  have XI1 := Lib.hid (XI0.out.step hb1)
  clear hb1
  have XT1_lt := XT1.out.lt
  have XT1_i0 := XT1.out.i0
  have XT1_i1 := XT1.out.i1
  have XT1_i2 := XT1.out.i2
  have XT1_i3 := XT1.out.i3
  have XI1_lt := XI1.out.lt
  have XI1_i0 := XI1.out.i0
  have XI1_i1 := XI1.out.i1
  have XI1_i2 := XI1.out.i2
  have XI1_i3 := XI1.out.i3
  have XI1_i4 := XI1.out.i4
  go_wp2_with fail
  refine (H2.out _).mono ?_
  rintro e w2 ⟨rfl, hb2⟩
  have B2 := Lib.hid (below_next B1.out hb2)
  have XT2 := Lib.hid (XT1.out.step hb2)
  have XI2 := Lib.hid (XI1.out.step hb2)
  clear hb2
  have XT2_lt := XT2.out.lt
  have XT2_i0 := XT2.out.i0
  have XT2_i1 := XT2.out.i1
  have XT2_i2 := XT2.out.i2
  have XT2_i3 := XT2.out.i3
  have XI2_lt := XI2.out.lt
  have XI2_i0 := XI2.out.i0
  have XI2_i1 := XI2.out.i1
  have XI2_i2 := XI2.out.i2
  have XI2_i3 := XI2.out.i3
  have XI2_i4 := XI2.out.i4
  go_wp2_with fail
  refine (H3.out _).mono ?_
  rintro e w3 ⟨rfl, hb3⟩
  have B3 := Lib.hid (below_next B2.out hb3)
  have XT3 := Lib.hid (XT2.out.step hb3)
  have XI3 := Lib.hid (XI2.out.step hb3)
  clear hb3
  have XT3_lt := XT3.out.lt
  have XT3_i0 := XT3.out.i0
  have XT3_i1 := XT3.out.i1
  have XT3_i2 := XT3.out.i2
  have XT3_i3 := XT3.out.i3
  have XI3_lt := XI3.out.lt
  have XI3_i0 := XI3.out.i0
  have XI3_i1 := XI3.out.i1
  have XI3_i2 := XI3.out.i2
  have XI3_i3 := XI3.out.i3
  have XI3_i4 := XI3.out.i4
  go_wp2_with fail
  go_ret
  exact ⟨ret_int (by first | rfl | omega | go_num), B3.out⟩
set_option maxRecDepth 100000 in
set_option maxHeartbeats 4000000 in
theorem cyc46_111 (s : Int) (mul div tk hz op a b c m : Int) (hm : 0 ≤ mul ∧ mul ≤ 1000) (hd : 0 ≤ div ∧ div ≤ 1000) (ht : 0 ≤ tk ∧ tk ≤ 1000) (hh : 0 ≤ hz ∧ hz ≤ 1000) (h0 : 0 ≤ op) (h1 : op ≤ 255) (x : Int) (hx : baseV mul div op = x) (hx0 : 1 ≤ x) (hx1 : x ≤ 1001) (hza : hazB op a b c m s = true) (hbr : brB op = true) (w : World) :
    Calls Try.prog 46 #[.agg #[.int .i64 mul, .int .i64 div, .int .i64 tk, .int .i64 hz], .int .i64 s, .agg #[.int .u8 op, .int .i64 a, .int .i64 b, .int .i64 c, .int .i64 m], .bool true] w fun e w' => e = .returned (.int .i64 (x + hz + tk)) ∧ Below w.heap.size w w' := by
  have H1 := Lib.hid (fun W => base65 mul div tk hz op a b c m hm hd x hx W)
  have H2 := Lib.hid (fun W => ref_hazard_any s op a b c m h0 h1 true hza W)
  have H3 := Lib.hid (fun W => branch66 op true hbr W)
  obtain ⟨ht0, ht1⟩ := ht
  obtain ⟨hh0, hh1⟩ := hh
  clear hm hd h0 h1 hx hza hbr
  go_enter Try.func46, Try.ntmps46
  go_wp2_with fail
  have XT0 := Lib.hid (TF.newAt (mul) (div) (tk) (hz) (w) (w.heap.size) (by simp))
  have BxT0 := Lib.hid (below_new (Below.refl w.heap.size w) (.cells #[.int .i64 (mul), .int .i64 (div), .int .i64 (tk), .int .i64 (hz)] 49))
  have XT0' := Lib.hid (XT0.out.alloc (.cells #[.int .u8 (op), .int .i64 (a), .int .i64 (b), .int .i64 (c), .int .i64 (m)] 23))
  have XI0 := Lib.hid (IF.newAt (op) (a) (b) (c) (m) ((w).alloc (.cells #[.int .i64 (mul), .int .i64 (div), .int .i64 (tk), .int .i64 (hz)] 49)) (w.heap.size + 1) (by simp))
  have BxI0 := Lib.hid (below_new BxT0.out (.cells #[.int .u8 (op), .int .i64 (a), .int .i64 (b), .int .i64 (c), .int .i64 (m)] 23))
  have XT0'_lt := XT0'.out.lt
  have XT0'_i0 := XT0'.out.i0
  have XT0'_i1 := XT0'.out.i1
  have XT0'_i2 := XT0'.out.i2
  have XT0'_i3 := XT0'.out.i3
  have XI0_lt := XI0.out.lt
  have XI0_i0 := XI0.out.i0
  have XI0_i1 := XI0.out.i1
  have XI0_i2 := XI0.out.i2
  have XI0_i3 := XI0.out.i3
  have XI0_i4 := XI0.out.i4
  go_wp2_with fail
  refine (H1.out _).mono ?_
  rintro e w1 ⟨rfl, hb1⟩
  have B1 := Lib.hid (below_next BxI0.out hb1)
  have XT1 := Lib.hid (XT0'.out.step hb1)
  have XI1 := Lib.hid (XI0.out.step hb1)
  clear hb1
  have XT1_lt := XT1.out.lt
  have XT1_i0 := XT1.out.i0
  have XT1_i1 := XT1.out.i1
  have XT1_i2 := XT1.out.i2
  have XT1_i3 := XT1.out.i3
  have XI1_lt := XI1.out.lt
  have XI1_i0 := XI1.out.i0
  have XI1_i1 := XI1.out.i1
  have XI1_i2 := XI1.out.i2
  have XI1_i3 := XI1.out.i3
  have XI1_i4 := XI1.out.i4
  go_wp2_with fail
  refine (H2.out _).mono ?_
  rintro e w2 ⟨rfl, hb2⟩
  have B2 := Lib.hid (below_next B1.out hb2)
  have XT2 := Lib.hid (XT1.out.step hb2)
  have XI2 := Lib.hid (XI1.out.step hb2)
  clear hb2
  have XT2_lt := XT2.out.lt
  have XT2_i0 := XT2.out.i0
  have XT2_i1 := XT2.out.i1
  have XT2_i2 := XT2.out.i2
  have XT2_i3 := XT2.out.i3
  have XI2_lt := XI2.out.lt
  have XI2_i0 := XI2.out.i0
  have XI2_i1 := XI2.out.i1
  have XI2_i2 := XI2.out.i2
  have XI2_i3 := XI2.out.i3
  have XI2_i4 := XI2.out.i4
  go_wp2_with fail
  refine (H3.out _).mono ?_
  rintro e w3 ⟨rfl, hb3⟩
  have B3 := Lib.hid (below_next B2.out hb3)
  have XT3 := Lib.hid (XT2.out.step hb3)
  have XI3 := Lib.hid (XI2.out.step hb3)
  clear hb3
  have XT3_lt := XT3.out.lt
  have XT3_i0 := XT3.out.i0
  have XT3_i1 := XT3.out.i1
  have XT3_i2 := XT3.out.i2
  have XT3_i3 := XT3.out.i3
  have XI3_lt := XI3.out.lt
  have XI3_i0 := XI3.out.i0
  have XI3_i1 := XI3.out.i1
  have XI3_i2 := XI3.out.i2
  have XI3_i3 := XI3.out.i3
  have XI3_i4 := XI3.out.i4
  go_wp2_with fail
  go_ret
  exact ⟨ret_int (by first | rfl | omega | go_num), B3.out⟩
set_option maxRecDepth 100000 in
set_option maxHeartbeats 4000000 in
theorem cyc46_001 (s : Int) (mul div tk hz op a b c m : Int) (hm : 0 ≤ mul ∧ mul ≤ 1000) (hd : 0 ≤ div ∧ div ≤ 1000) (ht : 0 ≤ tk ∧ tk ≤ 1000) (hh : 0 ≤ hz ∧ hz ≤ 1000) (h0 : 0 ≤ op) (h1 : op ≤ 255) (x : Int) (hx : baseV mul div op = x) (hx0 : 1 ≤ x) (hx1 : x ≤ 1001) (hza : hazB op a b c m s = false) (hbr : brB op = true) (w : World) :
    Calls Try.prog 46 #[.agg #[.int .i64 mul, .int .i64 div, .int .i64 tk, .int .i64 hz], .int .i64 s, .agg #[.int .u8 op, .int .i64 a, .int .i64 b, .int .i64 c, .int .i64 m], .bool false] w fun e w' => e = .returned (.int .i64 (x)) ∧ Below w.heap.size w w' := by
  have H1 := Lib.hid (fun W => base65 mul div tk hz op a b c m hm hd x hx W)
  have H2 := Lib.hid (fun W => ref_hazard_any s op a b c m h0 h1 false hza W)
  obtain ⟨ht0, ht1⟩ := ht
  obtain ⟨hh0, hh1⟩ := hh
  clear hm hd h0 h1 hx hza hbr
  go_enter Try.func46, Try.ntmps46
  go_wp2_with fail
  have XT0 := Lib.hid (TF.newAt (mul) (div) (tk) (hz) (w) (w.heap.size) (by simp))
  have BxT0 := Lib.hid (below_new (Below.refl w.heap.size w) (.cells #[.int .i64 (mul), .int .i64 (div), .int .i64 (tk), .int .i64 (hz)] 49))
  have XT0' := Lib.hid (XT0.out.alloc (.cells #[.int .u8 (op), .int .i64 (a), .int .i64 (b), .int .i64 (c), .int .i64 (m)] 23))
  have XI0 := Lib.hid (IF.newAt (op) (a) (b) (c) (m) ((w).alloc (.cells #[.int .i64 (mul), .int .i64 (div), .int .i64 (tk), .int .i64 (hz)] 49)) (w.heap.size + 1) (by simp))
  have BxI0 := Lib.hid (below_new BxT0.out (.cells #[.int .u8 (op), .int .i64 (a), .int .i64 (b), .int .i64 (c), .int .i64 (m)] 23))
  have XT0'_lt := XT0'.out.lt
  have XT0'_i0 := XT0'.out.i0
  have XT0'_i1 := XT0'.out.i1
  have XT0'_i2 := XT0'.out.i2
  have XT0'_i3 := XT0'.out.i3
  have XI0_lt := XI0.out.lt
  have XI0_i0 := XI0.out.i0
  have XI0_i1 := XI0.out.i1
  have XI0_i2 := XI0.out.i2
  have XI0_i3 := XI0.out.i3
  have XI0_i4 := XI0.out.i4
  go_wp2_with fail
  refine (H1.out _).mono ?_
  rintro e w1 ⟨rfl, hb1⟩
  have B1 := Lib.hid (below_next BxI0.out hb1)
  have XT1 := Lib.hid (XT0'.out.step hb1)
  have XI1 := Lib.hid (XI0.out.step hb1)
  clear hb1
  have XT1_lt := XT1.out.lt
  have XT1_i0 := XT1.out.i0
  have XT1_i1 := XT1.out.i1
  have XT1_i2 := XT1.out.i2
  have XT1_i3 := XT1.out.i3
  have XI1_lt := XI1.out.lt
  have XI1_i0 := XI1.out.i0
  have XI1_i1 := XI1.out.i1
  have XI1_i2 := XI1.out.i2
  have XI1_i3 := XI1.out.i3
  have XI1_i4 := XI1.out.i4
  go_wp2_with fail
  refine (H2.out _).mono ?_
  rintro e w2 ⟨rfl, hb2⟩
  have B2 := Lib.hid (below_next B1.out hb2)
  have XT2 := Lib.hid (XT1.out.step hb2)
  have XI2 := Lib.hid (XI1.out.step hb2)
  clear hb2
  have XT2_lt := XT2.out.lt
  have XT2_i0 := XT2.out.i0
  have XT2_i1 := XT2.out.i1
  have XT2_i2 := XT2.out.i2
  have XT2_i3 := XT2.out.i3
  have XI2_lt := XI2.out.lt
  have XI2_i0 := XI2.out.i0
  have XI2_i1 := XI2.out.i1
  have XI2_i2 := XI2.out.i2
  have XI2_i3 := XI2.out.i3
  have XI2_i4 := XI2.out.i4
  go_wp2_with fail
  go_ret
  exact ⟨ret_int (by first | rfl | omega | go_num), B2.out⟩
set_option maxRecDepth 100000 in
set_option maxHeartbeats 4000000 in
theorem cyc46_101 (s : Int) (mul div tk hz op a b c m : Int) (hm : 0 ≤ mul ∧ mul ≤ 1000) (hd : 0 ≤ div ∧ div ≤ 1000) (ht : 0 ≤ tk ∧ tk ≤ 1000) (hh : 0 ≤ hz ∧ hz ≤ 1000) (h0 : 0 ≤ op) (h1 : op ≤ 255) (x : Int) (hx : baseV mul div op = x) (hx0 : 1 ≤ x) (hx1 : x ≤ 1001) (hza : hazB op a b c m s = true) (hbr : brB op = true) (w : World) :
    Calls Try.prog 46 #[.agg #[.int .i64 mul, .int .i64 div, .int .i64 tk, .int .i64 hz], .int .i64 s, .agg #[.int .u8 op, .int .i64 a, .int .i64 b, .int .i64 c, .int .i64 m], .bool false] w fun e w' => e = .returned (.int .i64 (x + hz)) ∧ Below w.heap.size w w' := by
  have H1 := Lib.hid (fun W => base65 mul div tk hz op a b c m hm hd x hx W)
  have H2 := Lib.hid (fun W => ref_hazard_any s op a b c m h0 h1 true hza W)
  obtain ⟨ht0, ht1⟩ := ht
  obtain ⟨hh0, hh1⟩ := hh
  clear hm hd h0 h1 hx hza hbr
  go_enter Try.func46, Try.ntmps46
  go_wp2_with fail
  have XT0 := Lib.hid (TF.newAt (mul) (div) (tk) (hz) (w) (w.heap.size) (by simp))
  have BxT0 := Lib.hid (below_new (Below.refl w.heap.size w) (.cells #[.int .i64 (mul), .int .i64 (div), .int .i64 (tk), .int .i64 (hz)] 49))
  have XT0' := Lib.hid (XT0.out.alloc (.cells #[.int .u8 (op), .int .i64 (a), .int .i64 (b), .int .i64 (c), .int .i64 (m)] 23))
  have XI0 := Lib.hid (IF.newAt (op) (a) (b) (c) (m) ((w).alloc (.cells #[.int .i64 (mul), .int .i64 (div), .int .i64 (tk), .int .i64 (hz)] 49)) (w.heap.size + 1) (by simp))
  have BxI0 := Lib.hid (below_new BxT0.out (.cells #[.int .u8 (op), .int .i64 (a), .int .i64 (b), .int .i64 (c), .int .i64 (m)] 23))
  have XT0'_lt := XT0'.out.lt
  have XT0'_i0 := XT0'.out.i0
  have XT0'_i1 := XT0'.out.i1
  have XT0'_i2 := XT0'.out.i2
  have XT0'_i3 := XT0'.out.i3
  have XI0_lt := XI0.out.lt
  have XI0_i0 := XI0.out.i0
  have XI0_i1 := XI0.out.i1
  have XI0_i2 := XI0.out.i2
  have XI0_i3 := XI0.out.i3
  have XI0_i4 := XI0.out.i4
  go_wp2_with fail
  refine (H1.out _).mono ?_
  rintro e w1 ⟨rfl, hb1⟩
  have B1 := Lib.hid (below_next BxI0.out hb1)
  have XT1 := Lib.hid (XT0'.out.step hb1)
  have XI1 := Lib.hid (XI0.out.step hb1)
  clear hb1
  have XT1_lt := XT1.out.lt
  have XT1_i0 := XT1.out.i0
  have XT1_i1 := XT1.out.i1
  have XT1_i2 := XT1.out.i2
  have XT1_i3 := XT1.out.i3
  have XI1_lt := XI1.out.lt
  have XI1_i0 := XI1.out.i0
  have XI1_i1 := XI1.out.i1
  have XI1_i2 := XI1.out.i2
  have XI1_i3 := XI1.out.i3
  have XI1_i4 := XI1.out.i4
  go_wp2_with fail
  refine (H2.out _).mono ?_
  rintro e w2 ⟨rfl, hb2⟩
  have B2 := Lib.hid (below_next B1.out hb2)
  have XT2 := Lib.hid (XT1.out.step hb2)
  have XI2 := Lib.hid (XI1.out.step hb2)
  clear hb2
  have XT2_lt := XT2.out.lt
  have XT2_i0 := XT2.out.i0
  have XT2_i1 := XT2.out.i1
  have XT2_i2 := XT2.out.i2
  have XT2_i3 := XT2.out.i3
  have XI2_lt := XI2.out.lt
  have XI2_i0 := XI2.out.i0
  have XI2_i1 := XI2.out.i1
  have XI2_i2 := XI2.out.i2
  have XI2_i3 := XI2.out.i3
  have XI2_i4 := XI2.out.i4
  go_wp2_with fail
  go_ret
  exact ⟨ret_int (by first | rfl | omega | go_num), B2.out⟩
theorem cycles46 (s : Int) (mul div tk hz op a b c m : Int) (hm : 0 ≤ mul ∧ mul ≤ 1000) (hd : 0 ≤ div ∧ div ≤ 1000) (ht : 0 ≤ tk ∧ tk ≤ 1000) (hh : 0 ≤ hz ∧ hz ≤ 1000) (h0 : 0 ≤ op) (h1 : op ≤ 255) (taken : Bool) (r : Int) (hr : cycV mul div tk hz op a b c m s taken = r) (w : World) :
    Calls Try.prog 46 #[.agg #[.int .i64 mul, .int .i64 div, .int .i64 tk, .int .i64 hz], .int .i64 s, .agg #[.int .u8 op, .int .i64 a, .int .i64 b, .int .i64 c, .int .i64 m], .bool taken] w fun e w' => e = .returned (.int .i64 (r)) ∧ Below w.heap.size w w' := by
  subst hr
  have hb := baseV_in (op := op) hm hd
  unfold cycV
  cases hza : hazB op a b c m s <;> cases hbr : brB op <;> cases taken
  · simpa using cyc46_000 s mul div tk hz op a b c m hm hd ht hh h0 h1 _ rfl hb.1 hb.2 hza hbr w
  · simpa using cyc46_010 s mul div tk hz op a b c m hm hd ht hh h0 h1 _ rfl hb.1 hb.2 hza hbr w
  · simpa using cyc46_001 s mul div tk hz op a b c m hm hd ht hh h0 h1 _ rfl hb.1 hb.2 hza hbr w
  · simpa using cyc46_011 s mul div tk hz op a b c m hm hd ht hh h0 h1 _ rfl hb.1 hb.2 hza hbr w
  · simpa using cyc46_100 s mul div tk hz op a b c m hm hd ht hh h0 h1 _ rfl hb.1 hb.2 hza hbr w
  · simpa using cyc46_110 s mul div tk hz op a b c m hm hd ht hh h0 h1 _ rfl hb.1 hb.2 hza hbr w
  · simpa using cyc46_101 s mul div tk hz op a b c m hm hd ht hh h0 h1 _ rfl hb.1 hb.2 hza hbr w
  · simpa [Int.add_assoc] using cyc46_111 s mul div tk hz op a b c m hm hd ht hh h0 h1 _ rfl hb.1 hb.2 hza hbr w
theorem up_facts' (p : Int → Bool) : ∀ x ∈ up p, 1 ≤ x ∧ x ≤ 15 ∧ p x = true := by
  intro x hx
  unfold up at hx
  rw [List.mem_filter] at hx
  obtain ⟨h, hp⟩ := hx
  obtain ⟨j, hj, rfl⟩ := List.mem_map.1 h
  have := List.mem_range.1 hj
  exact ⟨by omega, by omega, hp⟩
theorem readsV_up' {op a b c m : Int} (h0 : 0 ≤ op) (hv : validB op a b c m = true) : readsV op a b c m = up (hit (six op) (u1B op) (u2B op) a b c) := by
  unfold readsV; rw [if_pos hv, reads_same h0 hv]; rfl
theorem haz_zero (op a b c m : Int) (h0 : 0 ≤ op) : hazB op a b c m 0 = false := by
  unfold hazB
  cases hv : validB op a b c m
  · unfold readsV; rw [hv]; simp
  · rw [readsV_up' h0 hv, Bool.eq_false_iff]
    intro h
    have := (up_facts' _ 0 (List.contains_iff_mem.1 h)).1
    omega
def mostV (mul div tk hz op a b c m : Int) : Int := baseV mul div op + ((if (readsV op a b c m).length = 0 then 0 else hz) + (if brB op = true then tk else 0))
theorem mostV_in {mul div tk hz op a b c m : Int} (hm : 0 ≤ mul ∧ mul ≤ 1000) (hd : 0 ≤ div ∧ div ≤ 1000) (ht : 0 ≤ tk ∧ tk ≤ 1000) (hh : 0 ≤ hz ∧ hz ≤ 1000) : 1 ≤ mostV mul div tk hz op a b c m ∧ mostV mul div tk hz op a b c m ≤ 3001 := by
  have hb := baseV_in (op := op) hm hd
  unfold mostV
  split <;> split <;> omega
set_option maxRecDepth 100000 in
set_option maxHeartbeats 4000000 in
theorem most47_0 (mul div tk hz op a b c m : Int) (hm : 0 ≤ mul ∧ mul ≤ 1000) (hd : 0 ≤ div ∧ div ≤ 1000) (ht : 0 ≤ tk ∧ tk ≤ 1000) (hh : 0 ≤ hz ∧ hz ≤ 1000) (h0 : 0 ≤ op) (h1 : op ≤ 255) (y : Int) (hy : cycV mul div tk hz op a b c m 0 true = y) (hy0 : 1 ≤ y) (hy1 : y ≤ 3001) (L : List Int) (hL : readsV op a b c m = L) (hl : L.length = 0) (hsm : L.length ≤ 100) (w : World) :
    Calls Try.prog 47 #[.agg #[.int .i64 mul, .int .i64 div, .int .i64 tk, .int .i64 hz], .agg #[.int .u8 op, .int .i64 a, .int .i64 b, .int .i64 c, .int .i64 m]] w fun e w' => e = .returned (.int .i64 (y)) ∧ Below w.heap.size w w' := by
  have rd1 := fun W => reads_any op a b c m h0 h1 W
  rw [hL] at rd1
  have H1 := Lib.hid rd1
  have H2 := Lib.hid (fun W => cycles44 0 mul div tk hz op a b c m hm hd ht hh h0 h1 true y hy W)
  obtain ⟨hh0, hh1⟩ := hh
  clear hm hd ht h0 h1 hy hL rd1
  go_enter Try.func47, Try.ntmps47
  go_wp2_with fail
  have XT0 := Lib.hid (TF.newAt (mul) (div) (tk) (hz) (w) (w.heap.size) (by simp))
  have BxT0 := Lib.hid (below_new (Below.refl w.heap.size w) (.cells #[.int .i64 (mul), .int .i64 (div), .int .i64 (tk), .int .i64 (hz)] 49))
  have XT0' := Lib.hid (XT0.out.alloc (.cells #[.int .u8 (op), .int .i64 (a), .int .i64 (b), .int .i64 (c), .int .i64 (m)] 23))
  have XI0 := Lib.hid (IF.newAt (op) (a) (b) (c) (m) ((w).alloc (.cells #[.int .i64 (mul), .int .i64 (div), .int .i64 (tk), .int .i64 (hz)] 49)) (w.heap.size + 1) (by simp))
  have BxI0 := Lib.hid (below_new BxT0.out (.cells #[.int .u8 (op), .int .i64 (a), .int .i64 (b), .int .i64 (c), .int .i64 (m)] 23))
  have XT0'_lt := XT0'.out.lt
  have XT0'_i0 := XT0'.out.i0
  have XT0'_i1 := XT0'.out.i1
  have XT0'_i2 := XT0'.out.i2
  have XT0'_i3 := XT0'.out.i3
  have XI0_lt := XI0.out.lt
  have XI0_i0 := XI0.out.i0
  have XI0_i1 := XI0.out.i1
  have XI0_i2 := XI0.out.i2
  have XI0_i3 := XI0.out.i3
  have XI0_i4 := XI0.out.i4
  go_wp2_with fail
  refine (H2.out _).mono ?_
  rintro e w1 ⟨rfl, hb1⟩
  have B1 := Lib.hid (below_next BxI0.out hb1)
  have XT1 := Lib.hid (XT0'.out.step hb1)
  have XI1 := Lib.hid (XI0.out.step hb1)
  clear hb1
  have XT1_lt := XT1.out.lt
  have XT1_i0 := XT1.out.i0
  have XT1_i1 := XT1.out.i1
  have XT1_i2 := XT1.out.i2
  have XT1_i3 := XT1.out.i3
  have XI1_lt := XI1.out.lt
  have XI1_i0 := XI1.out.i0
  have XI1_i1 := XI1.out.i1
  have XI1_i2 := XI1.out.i2
  have XI1_i3 := XI1.out.i3
  have XI1_i4 := XI1.out.i4
  go_wp2_with fail
  refine (H1.out _).mono ?_
  rintro e w2 ⟨vP, rfl, o2, hb2⟩
  have XP2 := Lib.hid o2
  clear o2
  have B2 := Lib.hid (below_next B1.out hb2)
  have XT2 := Lib.hid (XT1.out.step hb2)
  have XI2 := Lib.hid (XI1.out.step hb2)
  clear hb2
  have XT2_lt := XT2.out.lt
  have XT2_i0 := XT2.out.i0
  have XT2_i1 := XT2.out.i1
  have XT2_i2 := XT2.out.i2
  have XT2_i3 := XT2.out.i3
  have XI2_lt := XI2.out.lt
  have XI2_i0 := XI2.out.i0
  have XI2_i1 := XI2.out.i1
  have XI2_i2 := XI2.out.i2
  have XI2_i3 := XI2.out.i3
  have XI2_i4 := XI2.out.i4
  obtain ⟨AP, cP, rfl⟩ := own_none XP2.out hl
  clear XP2
  go_wp2_with fail
  go_ret
  exact ⟨ret_int (by first | rfl | omega | go_num), B2.out⟩
set_option maxRecDepth 100000 in
set_option maxHeartbeats 4000000 in
theorem most47_1 (mul div tk hz op a b c m : Int) (hm : 0 ≤ mul ∧ mul ≤ 1000) (hd : 0 ≤ div ∧ div ≤ 1000) (ht : 0 ≤ tk ∧ tk ≤ 1000) (hh : 0 ≤ hz ∧ hz ≤ 1000) (h0 : 0 ≤ op) (h1 : op ≤ 255) (y : Int) (hy : cycV mul div tk hz op a b c m 0 true = y) (hy0 : 1 ≤ y) (hy1 : y ≤ 3001) (L : List Int) (hL : readsV op a b c m = L) (hl : L.length ≠ 0) (hsm : L.length ≤ 100) (w : World) :
    Calls Try.prog 47 #[.agg #[.int .i64 mul, .int .i64 div, .int .i64 tk, .int .i64 hz], .agg #[.int .u8 op, .int .i64 a, .int .i64 b, .int .i64 c, .int .i64 m]] w fun e w' => e = .returned (.int .i64 (y + hz)) ∧ Below w.heap.size w w' := by
  have rd1 := fun W => reads_any op a b c m h0 h1 W
  rw [hL] at rd1
  have H1 := Lib.hid rd1
  have H2 := Lib.hid (fun W => cycles44 0 mul div tk hz op a b c m hm hd ht hh h0 h1 true y hy W)
  obtain ⟨hh0, hh1⟩ := hh
  clear hm hd ht h0 h1 hy hL rd1
  go_enter Try.func47, Try.ntmps47
  go_wp2_with fail
  have XT0 := Lib.hid (TF.newAt (mul) (div) (tk) (hz) (w) (w.heap.size) (by simp))
  have BxT0 := Lib.hid (below_new (Below.refl w.heap.size w) (.cells #[.int .i64 (mul), .int .i64 (div), .int .i64 (tk), .int .i64 (hz)] 49))
  have XT0' := Lib.hid (XT0.out.alloc (.cells #[.int .u8 (op), .int .i64 (a), .int .i64 (b), .int .i64 (c), .int .i64 (m)] 23))
  have XI0 := Lib.hid (IF.newAt (op) (a) (b) (c) (m) ((w).alloc (.cells #[.int .i64 (mul), .int .i64 (div), .int .i64 (tk), .int .i64 (hz)] 49)) (w.heap.size + 1) (by simp))
  have BxI0 := Lib.hid (below_new BxT0.out (.cells #[.int .u8 (op), .int .i64 (a), .int .i64 (b), .int .i64 (c), .int .i64 (m)] 23))
  have XT0'_lt := XT0'.out.lt
  have XT0'_i0 := XT0'.out.i0
  have XT0'_i1 := XT0'.out.i1
  have XT0'_i2 := XT0'.out.i2
  have XT0'_i3 := XT0'.out.i3
  have XI0_lt := XI0.out.lt
  have XI0_i0 := XI0.out.i0
  have XI0_i1 := XI0.out.i1
  have XI0_i2 := XI0.out.i2
  have XI0_i3 := XI0.out.i3
  have XI0_i4 := XI0.out.i4
  go_wp2_with fail
  refine (H2.out _).mono ?_
  rintro e w1 ⟨rfl, hb1⟩
  have B1 := Lib.hid (below_next BxI0.out hb1)
  have XT1 := Lib.hid (XT0'.out.step hb1)
  have XI1 := Lib.hid (XI0.out.step hb1)
  clear hb1
  have XT1_lt := XT1.out.lt
  have XT1_i0 := XT1.out.i0
  have XT1_i1 := XT1.out.i1
  have XT1_i2 := XT1.out.i2
  have XT1_i3 := XT1.out.i3
  have XI1_lt := XI1.out.lt
  have XI1_i0 := XI1.out.i0
  have XI1_i1 := XI1.out.i1
  have XI1_i2 := XI1.out.i2
  have XI1_i3 := XI1.out.i3
  have XI1_i4 := XI1.out.i4
  go_wp2_with fail
  refine (H1.out _).mono ?_
  rintro e w2 ⟨vP, rfl, o2, hb2⟩
  have XP2 := Lib.hid o2
  clear o2
  have B2 := Lib.hid (below_next B1.out hb2)
  have XT2 := Lib.hid (XT1.out.step hb2)
  have XI2 := Lib.hid (XI1.out.step hb2)
  clear hb2
  have XT2_lt := XT2.out.lt
  have XT2_i0 := XT2.out.i0
  have XT2_i1 := XT2.out.i1
  have XT2_i2 := XT2.out.i2
  have XT2_i3 := XT2.out.i3
  have XI2_lt := XI2.out.lt
  have XI2_i0 := XI2.out.i0
  have XI2_i1 := XI2.out.i1
  have XI2_i2 := XI2.out.i2
  have XI2_i3 := XI2.out.i3
  have XI2_i4 := XI2.out.i4
  obtain ⟨gP, cP, rfl, _, _⟩ := own_some XP2.out hl
  clear XP2
  have hpos : 0 < L.length := Nat.pos_of_ne_zero hl
  clear hl
  go_wp2_with fail
  go_ret
  exact ⟨ret_int (by first | rfl | omega | go_num), B2.out⟩
theorem most47 (mul div tk hz op a b c m : Int) (hm : 0 ≤ mul ∧ mul ≤ 1000) (hd : 0 ≤ div ∧ div ≤ 1000) (ht : 0 ≤ tk ∧ tk ≤ 1000) (hh : 0 ≤ hz ∧ hz ≤ 1000) (h0 : 0 ≤ op) (h1 : op ≤ 255) (r : Int) (hr : mostV mul div tk hz op a b c m = r) (w : World) :
    Calls Try.prog 47 #[.agg #[.int .i64 mul, .int .i64 div, .int .i64 tk, .int .i64 hz], .agg #[.int .u8 op, .int .i64 a, .int .i64 b, .int .i64 c, .int .i64 m]] w fun e w' => e = .returned (.int .i64 (r)) ∧ Below w.heap.size w w' := by
  subst hr
  have hc := cycV_in (op := op) (a := a) (b := b) (c := c) (m := m) (s := 0) (taken := true) hm hd ht hh
  have hs := readsV_small op a b c m h0 h1
  have hz0 := haz_zero op a b c m h0
  by_cases hl : (readsV op a b c m).length = 0
  · have e : mostV mul div tk hz op a b c m = cycV mul div tk hz op a b c m 0 true := by unfold mostV cycV; simp [hl, hz0]
    rw [e]; exact most47_0 mul div tk hz op a b c m hm hd ht hh h0 h1 _ rfl hc.1 hc.2 _ rfl hl hs w
  · have e : mostV mul div tk hz op a b c m = cycV mul div tk hz op a b c m 0 true + hz := by unfold mostV cycV; rw [if_neg hl, hz0]; simp; omega
    rw [e]; exact most47_1 mul div tk hz op a b c m hm hd ht hh h0 h1 _ rfl hc.1 hc.2 _ rfl hl hs w
set_option maxRecDepth 100000 in
set_option maxHeartbeats 4000000 in
theorem most48_00 (mul div tk hz op a b c m : Int) (hm : 0 ≤ mul ∧ mul ≤ 1000) (hd : 0 ≤ div ∧ div ≤ 1000) (ht : 0 ≤ tk ∧ tk ≤ 1000) (hh : 0 ≤ hz ∧ hz ≤ 1000) (h0 : 0 ≤ op) (h1 : op ≤ 255) (x : Int) (hx : baseV mul div op = x) (hx0 : 1 ≤ x) (hx1 : x ≤ 1001) (hbr : brB op = false) (L : List Int) (hL : readsV op a b c m = L) (hl : L.length = 0) (hsm : L.length ≤ 100) (w : World) :
    Calls Try.prog 48 #[.agg #[.int .i64 mul, .int .i64 div, .int .i64 tk, .int .i64 hz], .agg #[.int .u8 op, .int .i64 a, .int .i64 b, .int .i64 c, .int .i64 m]] w fun e w' => e = .returned (.int .i64 (x)) ∧ Below w.heap.size w w' := by
  have rd1 := fun W => ref_reads_any op a b c m h0 h1 W
  rw [hL] at rd1
  have H1 := Lib.hid rd1
  have H2 := Lib.hid (fun W => base65 mul div tk hz op a b c m hm hd x hx W)
  have H3 := Lib.hid (fun W => branch66 op false hbr W)
  obtain ⟨hh0, hh1⟩ := hh
  obtain ⟨ht0, ht1⟩ := ht
  clear hm hd h0 h1 hx hL rd1 hbr
  go_enter Try.func48, Try.ntmps48
  go_wp2_with fail
  have XT0 := Lib.hid (TF.newAt (mul) (div) (tk) (hz) (w) (w.heap.size) (by simp))
  have BxT0 := Lib.hid (below_new (Below.refl w.heap.size w) (.cells #[.int .i64 (mul), .int .i64 (div), .int .i64 (tk), .int .i64 (hz)] 49))
  have XT0' := Lib.hid (XT0.out.alloc (.cells #[.int .u8 (op), .int .i64 (a), .int .i64 (b), .int .i64 (c), .int .i64 (m)] 23))
  have XI0 := Lib.hid (IF.newAt (op) (a) (b) (c) (m) ((w).alloc (.cells #[.int .i64 (mul), .int .i64 (div), .int .i64 (tk), .int .i64 (hz)] 49)) (w.heap.size + 1) (by simp))
  have BxI0 := Lib.hid (below_new BxT0.out (.cells #[.int .u8 (op), .int .i64 (a), .int .i64 (b), .int .i64 (c), .int .i64 (m)] 23))
  have XT0'_lt := XT0'.out.lt
  have XT0'_i0 := XT0'.out.i0
  have XT0'_i1 := XT0'.out.i1
  have XT0'_i2 := XT0'.out.i2
  have XT0'_i3 := XT0'.out.i3
  have XI0_lt := XI0.out.lt
  have XI0_i0 := XI0.out.i0
  have XI0_i1 := XI0.out.i1
  have XI0_i2 := XI0.out.i2
  have XI0_i3 := XI0.out.i3
  have XI0_i4 := XI0.out.i4
  go_wp2_with fail
  refine (H2.out _).mono ?_
  rintro e w1 ⟨rfl, hb1⟩
  have B1 := Lib.hid (below_next BxI0.out hb1)
  have XT1 := Lib.hid (XT0'.out.step hb1)
  have XI1 := Lib.hid (XI0.out.step hb1)
  clear hb1
  have XT1_lt := XT1.out.lt
  have XT1_i0 := XT1.out.i0
  have XT1_i1 := XT1.out.i1
  have XT1_i2 := XT1.out.i2
  have XT1_i3 := XT1.out.i3
  have XI1_lt := XI1.out.lt
  have XI1_i0 := XI1.out.i0
  have XI1_i1 := XI1.out.i1
  have XI1_i2 := XI1.out.i2
  have XI1_i3 := XI1.out.i3
  have XI1_i4 := XI1.out.i4
  go_wp2_with fail
  refine (H1.out _).mono ?_
  rintro e w2 ⟨vP, rfl, o2, hb2⟩
  have XP2 := Lib.hid o2
  clear o2
  have B2 := Lib.hid (below_next B1.out hb2)
  have XT2 := Lib.hid (XT1.out.step hb2)
  have XI2 := Lib.hid (XI1.out.step hb2)
  clear hb2
  have XT2_lt := XT2.out.lt
  have XT2_i0 := XT2.out.i0
  have XT2_i1 := XT2.out.i1
  have XT2_i2 := XT2.out.i2
  have XT2_i3 := XT2.out.i3
  have XI2_lt := XI2.out.lt
  have XI2_i0 := XI2.out.i0
  have XI2_i1 := XI2.out.i1
  have XI2_i2 := XI2.out.i2
  have XI2_i3 := XI2.out.i3
  have XI2_i4 := XI2.out.i4
  obtain ⟨AP, cP, rfl⟩ := own_none XP2.out hl
  clear XP2
  go_wp2_with fail
  refine (H3.out _).mono ?_
  rintro e w3 ⟨rfl, hb3⟩
  have B3 := Lib.hid (below_next B2.out hb3)
  have XT3 := Lib.hid (XT2.out.step hb3)
  have XI3 := Lib.hid (XI2.out.step hb3)
  clear hb3
  have XT3_lt := XT3.out.lt
  have XT3_i0 := XT3.out.i0
  have XT3_i1 := XT3.out.i1
  have XT3_i2 := XT3.out.i2
  have XT3_i3 := XT3.out.i3
  have XI3_lt := XI3.out.lt
  have XI3_i0 := XI3.out.i0
  have XI3_i1 := XI3.out.i1
  have XI3_i2 := XI3.out.i2
  have XI3_i3 := XI3.out.i3
  have XI3_i4 := XI3.out.i4
  go_wp2_with fail
  go_ret
  exact ⟨ret_int (by first | rfl | omega | go_num), B3.out⟩
set_option maxRecDepth 100000 in
set_option maxHeartbeats 4000000 in
theorem most48_01 (mul div tk hz op a b c m : Int) (hm : 0 ≤ mul ∧ mul ≤ 1000) (hd : 0 ≤ div ∧ div ≤ 1000) (ht : 0 ≤ tk ∧ tk ≤ 1000) (hh : 0 ≤ hz ∧ hz ≤ 1000) (h0 : 0 ≤ op) (h1 : op ≤ 255) (x : Int) (hx : baseV mul div op = x) (hx0 : 1 ≤ x) (hx1 : x ≤ 1001) (hbr : brB op = true) (L : List Int) (hL : readsV op a b c m = L) (hl : L.length = 0) (hsm : L.length ≤ 100) (w : World) :
    Calls Try.prog 48 #[.agg #[.int .i64 mul, .int .i64 div, .int .i64 tk, .int .i64 hz], .agg #[.int .u8 op, .int .i64 a, .int .i64 b, .int .i64 c, .int .i64 m]] w fun e w' => e = .returned (.int .i64 (x + tk)) ∧ Below w.heap.size w w' := by
  have rd1 := fun W => ref_reads_any op a b c m h0 h1 W
  rw [hL] at rd1
  have H1 := Lib.hid rd1
  have H2 := Lib.hid (fun W => base65 mul div tk hz op a b c m hm hd x hx W)
  have H3 := Lib.hid (fun W => branch66 op true hbr W)
  obtain ⟨hh0, hh1⟩ := hh
  obtain ⟨ht0, ht1⟩ := ht
  clear hm hd h0 h1 hx hL rd1 hbr
  go_enter Try.func48, Try.ntmps48
  go_wp2_with fail
  have XT0 := Lib.hid (TF.newAt (mul) (div) (tk) (hz) (w) (w.heap.size) (by simp))
  have BxT0 := Lib.hid (below_new (Below.refl w.heap.size w) (.cells #[.int .i64 (mul), .int .i64 (div), .int .i64 (tk), .int .i64 (hz)] 49))
  have XT0' := Lib.hid (XT0.out.alloc (.cells #[.int .u8 (op), .int .i64 (a), .int .i64 (b), .int .i64 (c), .int .i64 (m)] 23))
  have XI0 := Lib.hid (IF.newAt (op) (a) (b) (c) (m) ((w).alloc (.cells #[.int .i64 (mul), .int .i64 (div), .int .i64 (tk), .int .i64 (hz)] 49)) (w.heap.size + 1) (by simp))
  have BxI0 := Lib.hid (below_new BxT0.out (.cells #[.int .u8 (op), .int .i64 (a), .int .i64 (b), .int .i64 (c), .int .i64 (m)] 23))
  have XT0'_lt := XT0'.out.lt
  have XT0'_i0 := XT0'.out.i0
  have XT0'_i1 := XT0'.out.i1
  have XT0'_i2 := XT0'.out.i2
  have XT0'_i3 := XT0'.out.i3
  have XI0_lt := XI0.out.lt
  have XI0_i0 := XI0.out.i0
  have XI0_i1 := XI0.out.i1
  have XI0_i2 := XI0.out.i2
  have XI0_i3 := XI0.out.i3
  have XI0_i4 := XI0.out.i4
  go_wp2_with fail
  refine (H2.out _).mono ?_
  rintro e w1 ⟨rfl, hb1⟩
  have B1 := Lib.hid (below_next BxI0.out hb1)
  have XT1 := Lib.hid (XT0'.out.step hb1)
  have XI1 := Lib.hid (XI0.out.step hb1)
  clear hb1
  have XT1_lt := XT1.out.lt
  have XT1_i0 := XT1.out.i0
  have XT1_i1 := XT1.out.i1
  have XT1_i2 := XT1.out.i2
  have XT1_i3 := XT1.out.i3
  have XI1_lt := XI1.out.lt
  have XI1_i0 := XI1.out.i0
  have XI1_i1 := XI1.out.i1
  have XI1_i2 := XI1.out.i2
  have XI1_i3 := XI1.out.i3
  have XI1_i4 := XI1.out.i4
  go_wp2_with fail
  refine (H1.out _).mono ?_
  rintro e w2 ⟨vP, rfl, o2, hb2⟩
  have XP2 := Lib.hid o2
  clear o2
  have B2 := Lib.hid (below_next B1.out hb2)
  have XT2 := Lib.hid (XT1.out.step hb2)
  have XI2 := Lib.hid (XI1.out.step hb2)
  clear hb2
  have XT2_lt := XT2.out.lt
  have XT2_i0 := XT2.out.i0
  have XT2_i1 := XT2.out.i1
  have XT2_i2 := XT2.out.i2
  have XT2_i3 := XT2.out.i3
  have XI2_lt := XI2.out.lt
  have XI2_i0 := XI2.out.i0
  have XI2_i1 := XI2.out.i1
  have XI2_i2 := XI2.out.i2
  have XI2_i3 := XI2.out.i3
  have XI2_i4 := XI2.out.i4
  obtain ⟨AP, cP, rfl⟩ := own_none XP2.out hl
  clear XP2
  go_wp2_with fail
  refine (H3.out _).mono ?_
  rintro e w3 ⟨rfl, hb3⟩
  have B3 := Lib.hid (below_next B2.out hb3)
  have XT3 := Lib.hid (XT2.out.step hb3)
  have XI3 := Lib.hid (XI2.out.step hb3)
  clear hb3
  have XT3_lt := XT3.out.lt
  have XT3_i0 := XT3.out.i0
  have XT3_i1 := XT3.out.i1
  have XT3_i2 := XT3.out.i2
  have XT3_i3 := XT3.out.i3
  have XI3_lt := XI3.out.lt
  have XI3_i0 := XI3.out.i0
  have XI3_i1 := XI3.out.i1
  have XI3_i2 := XI3.out.i2
  have XI3_i3 := XI3.out.i3
  have XI3_i4 := XI3.out.i4
  go_wp2_with fail
  go_ret
  exact ⟨ret_int (by first | rfl | omega | go_num), B3.out⟩
set_option maxRecDepth 100000 in
set_option maxHeartbeats 4000000 in
theorem most48_10 (mul div tk hz op a b c m : Int) (hm : 0 ≤ mul ∧ mul ≤ 1000) (hd : 0 ≤ div ∧ div ≤ 1000) (ht : 0 ≤ tk ∧ tk ≤ 1000) (hh : 0 ≤ hz ∧ hz ≤ 1000) (h0 : 0 ≤ op) (h1 : op ≤ 255) (x : Int) (hx : baseV mul div op = x) (hx0 : 1 ≤ x) (hx1 : x ≤ 1001) (hbr : brB op = false) (L : List Int) (hL : readsV op a b c m = L) (hl : L.length ≠ 0) (hsm : L.length ≤ 100) (w : World) :
    Calls Try.prog 48 #[.agg #[.int .i64 mul, .int .i64 div, .int .i64 tk, .int .i64 hz], .agg #[.int .u8 op, .int .i64 a, .int .i64 b, .int .i64 c, .int .i64 m]] w fun e w' => e = .returned (.int .i64 (x + hz)) ∧ Below w.heap.size w w' := by
  have rd1 := fun W => ref_reads_any op a b c m h0 h1 W
  rw [hL] at rd1
  have H1 := Lib.hid rd1
  have H2 := Lib.hid (fun W => base65 mul div tk hz op a b c m hm hd x hx W)
  have H3 := Lib.hid (fun W => branch66 op false hbr W)
  obtain ⟨hh0, hh1⟩ := hh
  obtain ⟨ht0, ht1⟩ := ht
  clear hm hd h0 h1 hx hL rd1 hbr
  go_enter Try.func48, Try.ntmps48
  go_wp2_with fail
  have XT0 := Lib.hid (TF.newAt (mul) (div) (tk) (hz) (w) (w.heap.size) (by simp))
  have BxT0 := Lib.hid (below_new (Below.refl w.heap.size w) (.cells #[.int .i64 (mul), .int .i64 (div), .int .i64 (tk), .int .i64 (hz)] 49))
  have XT0' := Lib.hid (XT0.out.alloc (.cells #[.int .u8 (op), .int .i64 (a), .int .i64 (b), .int .i64 (c), .int .i64 (m)] 23))
  have XI0 := Lib.hid (IF.newAt (op) (a) (b) (c) (m) ((w).alloc (.cells #[.int .i64 (mul), .int .i64 (div), .int .i64 (tk), .int .i64 (hz)] 49)) (w.heap.size + 1) (by simp))
  have BxI0 := Lib.hid (below_new BxT0.out (.cells #[.int .u8 (op), .int .i64 (a), .int .i64 (b), .int .i64 (c), .int .i64 (m)] 23))
  have XT0'_lt := XT0'.out.lt
  have XT0'_i0 := XT0'.out.i0
  have XT0'_i1 := XT0'.out.i1
  have XT0'_i2 := XT0'.out.i2
  have XT0'_i3 := XT0'.out.i3
  have XI0_lt := XI0.out.lt
  have XI0_i0 := XI0.out.i0
  have XI0_i1 := XI0.out.i1
  have XI0_i2 := XI0.out.i2
  have XI0_i3 := XI0.out.i3
  have XI0_i4 := XI0.out.i4
  go_wp2_with fail
  refine (H2.out _).mono ?_
  rintro e w1 ⟨rfl, hb1⟩
  have B1 := Lib.hid (below_next BxI0.out hb1)
  have XT1 := Lib.hid (XT0'.out.step hb1)
  have XI1 := Lib.hid (XI0.out.step hb1)
  clear hb1
  have XT1_lt := XT1.out.lt
  have XT1_i0 := XT1.out.i0
  have XT1_i1 := XT1.out.i1
  have XT1_i2 := XT1.out.i2
  have XT1_i3 := XT1.out.i3
  have XI1_lt := XI1.out.lt
  have XI1_i0 := XI1.out.i0
  have XI1_i1 := XI1.out.i1
  have XI1_i2 := XI1.out.i2
  have XI1_i3 := XI1.out.i3
  have XI1_i4 := XI1.out.i4
  go_wp2_with fail
  refine (H1.out _).mono ?_
  rintro e w2 ⟨vP, rfl, o2, hb2⟩
  have XP2 := Lib.hid o2
  clear o2
  have B2 := Lib.hid (below_next B1.out hb2)
  have XT2 := Lib.hid (XT1.out.step hb2)
  have XI2 := Lib.hid (XI1.out.step hb2)
  clear hb2
  have XT2_lt := XT2.out.lt
  have XT2_i0 := XT2.out.i0
  have XT2_i1 := XT2.out.i1
  have XT2_i2 := XT2.out.i2
  have XT2_i3 := XT2.out.i3
  have XI2_lt := XI2.out.lt
  have XI2_i0 := XI2.out.i0
  have XI2_i1 := XI2.out.i1
  have XI2_i2 := XI2.out.i2
  have XI2_i3 := XI2.out.i3
  have XI2_i4 := XI2.out.i4
  obtain ⟨gP, cP, rfl, _, _⟩ := own_some XP2.out hl
  clear XP2
  have hpos : 0 < L.length := Nat.pos_of_ne_zero hl
  clear hl
  go_wp2_with fail
  refine (H3.out _).mono ?_
  rintro e w3 ⟨rfl, hb3⟩
  have B3 := Lib.hid (below_next B2.out hb3)
  have XT3 := Lib.hid (XT2.out.step hb3)
  have XI3 := Lib.hid (XI2.out.step hb3)
  clear hb3
  have XT3_lt := XT3.out.lt
  have XT3_i0 := XT3.out.i0
  have XT3_i1 := XT3.out.i1
  have XT3_i2 := XT3.out.i2
  have XT3_i3 := XT3.out.i3
  have XI3_lt := XI3.out.lt
  have XI3_i0 := XI3.out.i0
  have XI3_i1 := XI3.out.i1
  have XI3_i2 := XI3.out.i2
  have XI3_i3 := XI3.out.i3
  have XI3_i4 := XI3.out.i4
  go_wp2_with fail
  go_ret
  exact ⟨ret_int (by first | rfl | omega | go_num), B3.out⟩
set_option maxRecDepth 100000 in
set_option maxHeartbeats 4000000 in
theorem most48_11 (mul div tk hz op a b c m : Int) (hm : 0 ≤ mul ∧ mul ≤ 1000) (hd : 0 ≤ div ∧ div ≤ 1000) (ht : 0 ≤ tk ∧ tk ≤ 1000) (hh : 0 ≤ hz ∧ hz ≤ 1000) (h0 : 0 ≤ op) (h1 : op ≤ 255) (x : Int) (hx : baseV mul div op = x) (hx0 : 1 ≤ x) (hx1 : x ≤ 1001) (hbr : brB op = true) (L : List Int) (hL : readsV op a b c m = L) (hl : L.length ≠ 0) (hsm : L.length ≤ 100) (w : World) :
    Calls Try.prog 48 #[.agg #[.int .i64 mul, .int .i64 div, .int .i64 tk, .int .i64 hz], .agg #[.int .u8 op, .int .i64 a, .int .i64 b, .int .i64 c, .int .i64 m]] w fun e w' => e = .returned (.int .i64 (x + hz + tk)) ∧ Below w.heap.size w w' := by
  have rd1 := fun W => ref_reads_any op a b c m h0 h1 W
  rw [hL] at rd1
  have H1 := Lib.hid rd1
  have H2 := Lib.hid (fun W => base65 mul div tk hz op a b c m hm hd x hx W)
  have H3 := Lib.hid (fun W => branch66 op true hbr W)
  obtain ⟨hh0, hh1⟩ := hh
  obtain ⟨ht0, ht1⟩ := ht
  clear hm hd h0 h1 hx hL rd1 hbr
  go_enter Try.func48, Try.ntmps48
  go_wp2_with fail
  have XT0 := Lib.hid (TF.newAt (mul) (div) (tk) (hz) (w) (w.heap.size) (by simp))
  have BxT0 := Lib.hid (below_new (Below.refl w.heap.size w) (.cells #[.int .i64 (mul), .int .i64 (div), .int .i64 (tk), .int .i64 (hz)] 49))
  have XT0' := Lib.hid (XT0.out.alloc (.cells #[.int .u8 (op), .int .i64 (a), .int .i64 (b), .int .i64 (c), .int .i64 (m)] 23))
  have XI0 := Lib.hid (IF.newAt (op) (a) (b) (c) (m) ((w).alloc (.cells #[.int .i64 (mul), .int .i64 (div), .int .i64 (tk), .int .i64 (hz)] 49)) (w.heap.size + 1) (by simp))
  have BxI0 := Lib.hid (below_new BxT0.out (.cells #[.int .u8 (op), .int .i64 (a), .int .i64 (b), .int .i64 (c), .int .i64 (m)] 23))
  have XT0'_lt := XT0'.out.lt
  have XT0'_i0 := XT0'.out.i0
  have XT0'_i1 := XT0'.out.i1
  have XT0'_i2 := XT0'.out.i2
  have XT0'_i3 := XT0'.out.i3
  have XI0_lt := XI0.out.lt
  have XI0_i0 := XI0.out.i0
  have XI0_i1 := XI0.out.i1
  have XI0_i2 := XI0.out.i2
  have XI0_i3 := XI0.out.i3
  have XI0_i4 := XI0.out.i4
  go_wp2_with fail
  refine (H2.out _).mono ?_
  rintro e w1 ⟨rfl, hb1⟩
  have B1 := Lib.hid (below_next BxI0.out hb1)
  have XT1 := Lib.hid (XT0'.out.step hb1)
  have XI1 := Lib.hid (XI0.out.step hb1)
  clear hb1
  have XT1_lt := XT1.out.lt
  have XT1_i0 := XT1.out.i0
  have XT1_i1 := XT1.out.i1
  have XT1_i2 := XT1.out.i2
  have XT1_i3 := XT1.out.i3
  have XI1_lt := XI1.out.lt
  have XI1_i0 := XI1.out.i0
  have XI1_i1 := XI1.out.i1
  have XI1_i2 := XI1.out.i2
  have XI1_i3 := XI1.out.i3
  have XI1_i4 := XI1.out.i4
  go_wp2_with fail
  refine (H1.out _).mono ?_
  rintro e w2 ⟨vP, rfl, o2, hb2⟩
  have XP2 := Lib.hid o2
  clear o2
  have B2 := Lib.hid (below_next B1.out hb2)
  have XT2 := Lib.hid (XT1.out.step hb2)
  have XI2 := Lib.hid (XI1.out.step hb2)
  clear hb2
  have XT2_lt := XT2.out.lt
  have XT2_i0 := XT2.out.i0
  have XT2_i1 := XT2.out.i1
  have XT2_i2 := XT2.out.i2
  have XT2_i3 := XT2.out.i3
  have XI2_lt := XI2.out.lt
  have XI2_i0 := XI2.out.i0
  have XI2_i1 := XI2.out.i1
  have XI2_i2 := XI2.out.i2
  have XI2_i3 := XI2.out.i3
  have XI2_i4 := XI2.out.i4
  obtain ⟨gP, cP, rfl, _, _⟩ := own_some XP2.out hl
  clear XP2
  have hpos : 0 < L.length := Nat.pos_of_ne_zero hl
  clear hl
  go_wp2_with fail
  refine (H3.out _).mono ?_
  rintro e w3 ⟨rfl, hb3⟩
  have B3 := Lib.hid (below_next B2.out hb3)
  have XT3 := Lib.hid (XT2.out.step hb3)
  have XI3 := Lib.hid (XI2.out.step hb3)
  clear hb3
  have XT3_lt := XT3.out.lt
  have XT3_i0 := XT3.out.i0
  have XT3_i1 := XT3.out.i1
  have XT3_i2 := XT3.out.i2
  have XT3_i3 := XT3.out.i3
  have XI3_lt := XI3.out.lt
  have XI3_i0 := XI3.out.i0
  have XI3_i1 := XI3.out.i1
  have XI3_i2 := XI3.out.i2
  have XI3_i3 := XI3.out.i3
  have XI3_i4 := XI3.out.i4
  go_wp2_with fail
  go_ret
  exact ⟨ret_int (by first | rfl | omega | go_num), B3.out⟩
theorem most48 (mul div tk hz op a b c m : Int) (hm : 0 ≤ mul ∧ mul ≤ 1000) (hd : 0 ≤ div ∧ div ≤ 1000) (ht : 0 ≤ tk ∧ tk ≤ 1000) (hh : 0 ≤ hz ∧ hz ≤ 1000) (h0 : 0 ≤ op) (h1 : op ≤ 255) (r : Int) (hr : mostV mul div tk hz op a b c m = r) (w : World) :
    Calls Try.prog 48 #[.agg #[.int .i64 mul, .int .i64 div, .int .i64 tk, .int .i64 hz], .agg #[.int .u8 op, .int .i64 a, .int .i64 b, .int .i64 c, .int .i64 m]] w fun e w' => e = .returned (.int .i64 (r)) ∧ Below w.heap.size w w' := by
  subst hr
  have hb := baseV_in (op := op) hm hd
  have hs := readsV_small op a b c m h0 h1
  unfold mostV
  by_cases hl : (readsV op a b c m).length = 0 <;> cases hbr : brB op
  · simpa [hl] using most48_00 mul div tk hz op a b c m hm hd ht hh h0 h1 _ rfl hb.1 hb.2 hbr _ rfl hl hs w
  · simpa [hl] using most48_01 mul div tk hz op a b c m hm hd ht hh h0 h1 _ rfl hb.1 hb.2 hbr _ rfl hl hs w
  · rw [if_neg hl]; simpa using most48_10 mul div tk hz op a b c m hm hd ht hh h0 h1 _ rfl hb.1 hb.2 hbr _ rfl hl hs w
  · rw [if_neg hl]; simpa [Int.add_assoc] using most48_11 mul div tk hz op a b c m hm hd ht hh h0 h1 _ rfl hb.1 hb.2 hbr _ rfl hl hs w
set_option maxRecDepth 100000 in
set_option maxHeartbeats 4000000 in
theorem least49 (mul div tk hz op a b c m : Int) (hm : 0 ≤ mul ∧ mul ≤ 1000) (hd : 0 ≤ div ∧ div ≤ 1000) (r : Int) (hr : baseV mul div op = r) (w : World) :
    Calls Try.prog 49 #[.agg #[.int .i64 mul, .int .i64 div, .int .i64 tk, .int .i64 hz], .agg #[.int .u8 op, .int .i64 a, .int .i64 b, .int .i64 c, .int .i64 m]] w fun e w' => e = .returned (.int .i64 (r)) ∧ Below w.heap.size w w' := by
  have H1 := Lib.hid (fun W => base64 mul div tk hz op a b c m hm hd r hr W)
  clear hm hd hr
  go_enter Try.func49, Try.ntmps49
  go_wp2_with fail
  have XT0 := Lib.hid (TF.newAt (mul) (div) (tk) (hz) (w) (w.heap.size) (by simp))
  have BxT0 := Lib.hid (below_new (Below.refl w.heap.size w) (.cells #[.int .i64 (mul), .int .i64 (div), .int .i64 (tk), .int .i64 (hz)] 49))
  have XT0' := Lib.hid (XT0.out.alloc (.cells #[.int .u8 (op), .int .i64 (a), .int .i64 (b), .int .i64 (c), .int .i64 (m)] 23))
  have XI0 := Lib.hid (IF.newAt (op) (a) (b) (c) (m) ((w).alloc (.cells #[.int .i64 (mul), .int .i64 (div), .int .i64 (tk), .int .i64 (hz)] 49)) (w.heap.size + 1) (by simp))
  have BxI0 := Lib.hid (below_new BxT0.out (.cells #[.int .u8 (op), .int .i64 (a), .int .i64 (b), .int .i64 (c), .int .i64 (m)] 23))
  have XT0'_lt := XT0'.out.lt
  have XT0'_i0 := XT0'.out.i0
  have XT0'_i1 := XT0'.out.i1
  have XT0'_i2 := XT0'.out.i2
  have XT0'_i3 := XT0'.out.i3
  have XI0_lt := XI0.out.lt
  have XI0_i0 := XI0.out.i0
  have XI0_i1 := XI0.out.i1
  have XI0_i2 := XI0.out.i2
  have XI0_i3 := XI0.out.i3
  have XI0_i4 := XI0.out.i4
  go_wp2_with fail
  refine (H1.out _).mono ?_
  rintro e w1 ⟨rfl, hb1⟩
  have B1 := Lib.hid (below_next BxI0.out hb1)
  have XT1 := Lib.hid (XT0'.out.step hb1)
  have XI1 := Lib.hid (XI0.out.step hb1)
  clear hb1
  have XT1_lt := XT1.out.lt
  have XT1_i0 := XT1.out.i0
  have XT1_i1 := XT1.out.i1
  have XT1_i2 := XT1.out.i2
  have XT1_i3 := XT1.out.i3
  have XI1_lt := XI1.out.lt
  have XI1_i0 := XI1.out.i0
  have XI1_i1 := XI1.out.i1
  have XI1_i2 := XI1.out.i2
  have XI1_i3 := XI1.out.i3
  have XI1_i4 := XI1.out.i4
  go_wp2_with fail
  go_ret
  exact ⟨rfl, B1.out⟩
set_option maxRecDepth 100000 in
set_option maxHeartbeats 4000000 in
theorem least50 (mul div tk hz op a b c m : Int) (hm : 0 ≤ mul ∧ mul ≤ 1000) (hd : 0 ≤ div ∧ div ≤ 1000) (r : Int) (hr : baseV mul div op = r) (w : World) :
    Calls Try.prog 50 #[.agg #[.int .i64 mul, .int .i64 div, .int .i64 tk, .int .i64 hz], .agg #[.int .u8 op, .int .i64 a, .int .i64 b, .int .i64 c, .int .i64 m]] w fun e w' => e = .returned (.int .i64 (r)) ∧ Below w.heap.size w w' := by
  have H1 := Lib.hid (fun W => base65 mul div tk hz op a b c m hm hd r hr W)
  clear hm hd hr
  go_enter Try.func50, Try.ntmps50
  go_wp2_with fail
  have XT0 := Lib.hid (TF.newAt (mul) (div) (tk) (hz) (w) (w.heap.size) (by simp))
  have BxT0 := Lib.hid (below_new (Below.refl w.heap.size w) (.cells #[.int .i64 (mul), .int .i64 (div), .int .i64 (tk), .int .i64 (hz)] 49))
  have XT0' := Lib.hid (XT0.out.alloc (.cells #[.int .u8 (op), .int .i64 (a), .int .i64 (b), .int .i64 (c), .int .i64 (m)] 23))
  have XI0 := Lib.hid (IF.newAt (op) (a) (b) (c) (m) ((w).alloc (.cells #[.int .i64 (mul), .int .i64 (div), .int .i64 (tk), .int .i64 (hz)] 49)) (w.heap.size + 1) (by simp))
  have BxI0 := Lib.hid (below_new BxT0.out (.cells #[.int .u8 (op), .int .i64 (a), .int .i64 (b), .int .i64 (c), .int .i64 (m)] 23))
  have XT0'_lt := XT0'.out.lt
  have XT0'_i0 := XT0'.out.i0
  have XT0'_i1 := XT0'.out.i1
  have XT0'_i2 := XT0'.out.i2
  have XT0'_i3 := XT0'.out.i3
  have XI0_lt := XI0.out.lt
  have XI0_i0 := XI0.out.i0
  have XI0_i1 := XI0.out.i1
  have XI0_i2 := XI0.out.i2
  have XI0_i3 := XI0.out.i3
  have XI0_i4 := XI0.out.i4
  go_wp2_with fail
  refine (H1.out _).mono ?_
  rintro e w1 ⟨rfl, hb1⟩
  have B1 := Lib.hid (below_next BxI0.out hb1)
  have XT1 := Lib.hid (XT0'.out.step hb1)
  have XI1 := Lib.hid (XI0.out.step hb1)
  clear hb1
  have XT1_lt := XT1.out.lt
  have XT1_i0 := XT1.out.i0
  have XT1_i1 := XT1.out.i1
  have XT1_i2 := XT1.out.i2
  have XT1_i3 := XT1.out.i3
  have XI1_lt := XI1.out.lt
  have XI1_i0 := XI1.out.i0
  have XI1_i1 := XI1.out.i1
  have XI1_i2 := XI1.out.i2
  have XI1_i3 := XI1.out.i3
  have XI1_i4 := XI1.out.i4
  go_wp2_with fail
  go_ret
  exact ⟨rfl, B1.out⟩
end Go.Proofs.Ytgjpenhfechhcaa
