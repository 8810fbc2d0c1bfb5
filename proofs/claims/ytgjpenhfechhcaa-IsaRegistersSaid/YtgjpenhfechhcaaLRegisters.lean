/- The walk of IsaRegisters: it returns true whatever the input. -/
import Derived.Test.YtgjpenhfechhcaaA18
import Derived.BigQuiet
namespace Go.Proofs.Ytgjpenhfechhcaa
set_option linter.unusedVariables false
set_option linter.unusedSimpArgs false
open Go.RowKit Go.Proofs.YtgjpenhfechhcaaW.PrintWords Go.Proofs.YtgjpenhfechhcaaW.PrintLast Go.Proofs.YtgjpenhfechhcaaW.PrintMore
open PIsaDecodes
set_option maxRecDepth 100000 in
set_option maxHeartbeats 4000000 in
theorem reg_n_00 (op a b c m : Int) (h0 : 0 ≤ op) (h1 : op ≤ 255) (hL : readsV op a b c m = []) (hr : wrV op a b c m = 0) (hok : wrOK op a b c m = false) (hv : validB op a b c m = false) (w : World) :
    Calls Try.prog 11 #[.agg #[.int .u8 op, .int .i64 a, .int .i64 b, .int .i64 c, .int .i64 m]] w fun e w' => e = .returned (.bool true) ∧ Below w.heap.size w w' := by
  have rd1 := fun W => reads_any op a b c m h0 h1 W
  rw [hL] at rd1
  have H1 := Lib.hid rd1
  have H3 := Lib.hid (fun W => writes_any op a b c m h0 h1 0 false hr hok W)
  have hr0 := fun W => valid_any op a b c m h0 h1 W
  rw [hv] at hr0
  have H2 := Lib.hid hr0
  clear rd1 hL hr hok hr0 hv
  go_enter Try.func11, Try.ntmps11
  go_wp2_with fail
  have XI0 := Lib.hid (IF.newAt (op) (a) (b) (c) (m) (w) (w.heap.size) (by simp))
  have BnI := Lib.hid (below_new (Below.refl w.heap.size w) (.cells #[.int .u8 (op), .int .i64 (a), .int .i64 (b), .int .i64 (c), .int .i64 (m)] 23))
  refine (awake_any _).mono ?_
  rintro e w1 ⟨rfl, hb1⟩
  have B1 := Lib.hid (below_next BnI.out hb1)
  have XI1 := Lib.hid (XI0.out.step hb1)
  clear hb1
  have XI1_lt := XI1.out.lt
  have XI1_i0 := XI1.out.i0
  have XI1_i1 := XI1.out.i1
  have XI1_i2 := XI1.out.i2
  have XI1_i3 := XI1.out.i3
  have XI1_i4 := XI1.out.i4
  go_wp2_with fail
  refine (H1.out _).mono ?_
  rintro e w2 ⟨vP, rfl, o2, hb2⟩
  have XP2 := Lib.hid o2
  clear o2
  have B2 := Lib.hid (below_next B1.out hb2)
  have XI2 := Lib.hid (XI1.out.step hb2)
  clear hb2
  have XI2_lt := XI2.out.lt
  have XI2_i0 := XI2.out.i0
  have XI2_i1 := XI2.out.i1
  have XI2_i2 := XI2.out.i2
  have XI2_i3 := XI2.out.i3
  have XI2_i4 := XI2.out.i4
  obtain ⟨AP, cP, rfl⟩ := own_none XP2.out rfl
  clear XP2
  go_wp2_with fail
  refine (H2.out _).mono ?_
  rintro e w3 ⟨rfl, hb3⟩
  have B3 := Lib.hid (below_next B2.out hb3)
  have XI3 := Lib.hid (XI2.out.step hb3)
  clear hb3
  have XI3_lt := XI3.out.lt
  have XI3_i0 := XI3.out.i0
  have XI3_i1 := XI3.out.i1
  have XI3_i2 := XI3.out.i2
  have XI3_i3 := XI3.out.i3
  have XI3_i4 := XI3.out.i4
  go_wp2_with fail
  refine wp_loop_rounds 1 ?_
  rw [rounds_succ]
  go_wp2_with fail
  refine (H3.out _).mono ?_
  rintro e w4 ⟨rfl, hb4⟩
  have B4 := Lib.hid (below_next B3.out hb4)
  have XI4 := Lib.hid (XI3.out.step hb4)
  clear hb4
  have XI4_lt := XI4.out.lt
  have XI4_i0 := XI4.out.i0
  have XI4_i1 := XI4.out.i1
  have XI4_i2 := XI4.out.i2
  have XI4_i3 := XI4.out.i3
  have XI4_i4 := XI4.out.i4
  go_wp2_with fail
  go_ret
  exact ⟨rfl, B4.out⟩
set_option maxRecDepth 100000 in
set_option maxHeartbeats 4000000 in
theorem reg_n_10 (op a b c m : Int) (h0 : 0 ≤ op) (h1 : op ≤ 255) (hL : readsV op a b c m = []) (hr : wrV op a b c m = 0) (hok : wrOK op a b c m = false) (hv : validB op a b c m = true) (w : World) :
    Calls Try.prog 11 #[.agg #[.int .u8 op, .int .i64 a, .int .i64 b, .int .i64 c, .int .i64 m]] w fun e w' => e = .returned (.bool true) ∧ Below w.heap.size w w' := by
  have rd1 := fun W => reads_any op a b c m h0 h1 W
  rw [hL] at rd1
  have H1 := Lib.hid rd1
  have H3 := Lib.hid (fun W => writes_any op a b c m h0 h1 0 false hr hok W)
  have hr0 := fun W => valid_any op a b c m h0 h1 W
  rw [hv] at hr0
  have H2 := Lib.hid hr0
  clear rd1 hL hr hok hr0 hv
  go_enter Try.func11, Try.ntmps11
  go_wp2_with fail
  have XI0 := Lib.hid (IF.newAt (op) (a) (b) (c) (m) (w) (w.heap.size) (by simp))
  have BnI := Lib.hid (below_new (Below.refl w.heap.size w) (.cells #[.int .u8 (op), .int .i64 (a), .int .i64 (b), .int .i64 (c), .int .i64 (m)] 23))
  refine (awake_any _).mono ?_
  rintro e w1 ⟨rfl, hb1⟩
  have B1 := Lib.hid (below_next BnI.out hb1)
  have XI1 := Lib.hid (XI0.out.step hb1)
  clear hb1
  have XI1_lt := XI1.out.lt
  have XI1_i0 := XI1.out.i0
  have XI1_i1 := XI1.out.i1
  have XI1_i2 := XI1.out.i2
  have XI1_i3 := XI1.out.i3
  have XI1_i4 := XI1.out.i4
  go_wp2_with fail
  refine (H1.out _).mono ?_
  rintro e w2 ⟨vP, rfl, o2, hb2⟩
  have XP2 := Lib.hid o2
  clear o2
  have B2 := Lib.hid (below_next B1.out hb2)
  have XI2 := Lib.hid (XI1.out.step hb2)
  clear hb2
  have XI2_lt := XI2.out.lt
  have XI2_i0 := XI2.out.i0
  have XI2_i1 := XI2.out.i1
  have XI2_i2 := XI2.out.i2
  have XI2_i3 := XI2.out.i3
  have XI2_i4 := XI2.out.i4
  obtain ⟨AP, cP, rfl⟩ := own_none XP2.out rfl
  clear XP2
  go_wp2_with fail
  refine (H2.out _).mono ?_
  rintro e w3 ⟨rfl, hb3⟩
  have B3 := Lib.hid (below_next B2.out hb3)
  have XI3 := Lib.hid (XI2.out.step hb3)
  clear hb3
  have XI3_lt := XI3.out.lt
  have XI3_i0 := XI3.out.i0
  have XI3_i1 := XI3.out.i1
  have XI3_i2 := XI3.out.i2
  have XI3_i3 := XI3.out.i3
  have XI3_i4 := XI3.out.i4
  go_wp2_with fail
  refine wp_loop_rounds 1 ?_
  rw [rounds_succ]
  go_wp2_with fail
  refine (H3.out _).mono ?_
  rintro e w4 ⟨rfl, hb4⟩
  have B4 := Lib.hid (below_next B3.out hb4)
  have XI4 := Lib.hid (XI3.out.step hb4)
  clear hb4
  have XI4_lt := XI4.out.lt
  have XI4_i0 := XI4.out.i0
  have XI4_i1 := XI4.out.i1
  have XI4_i2 := XI4.out.i2
  have XI4_i3 := XI4.out.i3
  have XI4_i4 := XI4.out.i4
  go_wp2_with fail
  go_ret
  exact ⟨rfl, B4.out⟩
set_option maxRecDepth 100000 in
set_option maxHeartbeats 4000000 in
theorem reg_n_11 (op a b c m : Int) (h0 : 0 ≤ op) (h1 : op ≤ 255) (hL : readsV op a b c m = []) (hr : wrV op a b c m = a) (hok : wrOK op a b c m = true) (hv : validB op a b c m = true) (pos : decide (0 < a) = true) (w : World) :
    Calls Try.prog 11 #[.agg #[.int .u8 op, .int .i64 a, .int .i64 b, .int .i64 c, .int .i64 m]] w fun e w' => e = .returned (.bool true) ∧ Below w.heap.size w w' := by
  have rd1 := fun W => reads_any op a b c m h0 h1 W
  rw [hL] at rd1
  have H1 := Lib.hid rd1
  have H3 := Lib.hid (fun W => writes_any op a b c m h0 h1 a true hr hok W)
  have hr0 := fun W => valid_any op a b c m h0 h1 W
  rw [hv] at hr0
  have H2 := Lib.hid hr0
  clear rd1 hL hr hok hr0 hv
  go_enter Try.func11, Try.ntmps11
  go_wp2_with fail
  have XI0 := Lib.hid (IF.newAt (op) (a) (b) (c) (m) (w) (w.heap.size) (by simp))
  have BnI := Lib.hid (below_new (Below.refl w.heap.size w) (.cells #[.int .u8 (op), .int .i64 (a), .int .i64 (b), .int .i64 (c), .int .i64 (m)] 23))
  refine (awake_any _).mono ?_
  rintro e w1 ⟨rfl, hb1⟩
  have B1 := Lib.hid (below_next BnI.out hb1)
  have XI1 := Lib.hid (XI0.out.step hb1)
  clear hb1
  have XI1_lt := XI1.out.lt
  have XI1_i0 := XI1.out.i0
  have XI1_i1 := XI1.out.i1
  have XI1_i2 := XI1.out.i2
  have XI1_i3 := XI1.out.i3
  have XI1_i4 := XI1.out.i4
  go_wp2_with fail
  refine (H1.out _).mono ?_
  rintro e w2 ⟨vP, rfl, o2, hb2⟩
  have XP2 := Lib.hid o2
  clear o2
  have B2 := Lib.hid (below_next B1.out hb2)
  have XI2 := Lib.hid (XI1.out.step hb2)
  clear hb2
  have XI2_lt := XI2.out.lt
  have XI2_i0 := XI2.out.i0
  have XI2_i1 := XI2.out.i1
  have XI2_i2 := XI2.out.i2
  have XI2_i3 := XI2.out.i3
  have XI2_i4 := XI2.out.i4
  obtain ⟨AP, cP, rfl⟩ := own_none XP2.out rfl
  clear XP2
  go_wp2_with fail
  refine (H2.out _).mono ?_
  rintro e w3 ⟨rfl, hb3⟩
  have B3 := Lib.hid (below_next B2.out hb3)
  have XI3 := Lib.hid (XI2.out.step hb3)
  clear hb3
  have XI3_lt := XI3.out.lt
  have XI3_i0 := XI3.out.i0
  have XI3_i1 := XI3.out.i1
  have XI3_i2 := XI3.out.i2
  have XI3_i3 := XI3.out.i3
  have XI3_i4 := XI3.out.i4
  go_wp2_with fail
  refine wp_loop_rounds 1 ?_
  rw [rounds_succ]
  go_wp2_with fail
  refine (H3.out _).mono ?_
  rintro e w4 ⟨rfl, hb4⟩
  have B4 := Lib.hid (below_next B3.out hb4)
  have XI4 := Lib.hid (XI3.out.step hb4)
  clear hb4
  have XI4_lt := XI4.out.lt
  have XI4_i0 := XI4.out.i0
  have XI4_i1 := XI4.out.i1
  have XI4_i2 := XI4.out.i2
  have XI4_i3 := XI4.out.i3
  have XI4_i4 := XI4.out.i4
  go_wp2_with fail
  refine (H2.out _).mono ?_
  rintro e w5 ⟨rfl, hb5⟩
  have B5 := Lib.hid (below_next B4.out hb5)
  have XI5 := Lib.hid (XI4.out.step hb5)
  clear hb5
  have XI5_lt := XI5.out.lt
  have XI5_i0 := XI5.out.i0
  have XI5_i1 := XI5.out.i1
  have XI5_i2 := XI5.out.i2
  have XI5_i3 := XI5.out.i3
  have XI5_i4 := XI5.out.i4
  go_wp2_with fail
  go_ret
  exact ⟨rfl, B5.out⟩
set_option maxRecDepth 100000 in
set_option maxHeartbeats 4000000 in
theorem reg_xa_10 (op a b c m : Int) (h0 : 0 ≤ op) (h1 : op ≤ 255) (x : Int) (hL : readsV op a b c m = [x]) (hr : wrV op a b c m = 0) (hok : wrOK op a b c m = false) (hv : validB op a b c m = true) (lx : decide (x < 1) = false) (gx : decide (16 ≤ x) = false) (nxa : (x != a) = false) (w : World) :
    Calls Try.prog 11 #[.agg #[.int .u8 op, .int .i64 a, .int .i64 b, .int .i64 c, .int .i64 m]] w fun e w' => e = .returned (.bool true) ∧ Below w.heap.size w w' := by
  have rd1 := fun W => reads_any op a b c m h0 h1 W
  rw [hL] at rd1
  have H1 := Lib.hid rd1
  have H3 := Lib.hid (fun W => writes_any op a b c m h0 h1 0 false hr hok W)
  have hr0 := fun W => valid_any op a b c m h0 h1 W
  rw [hv] at hr0
  have H2 := Lib.hid hr0
  clear rd1 hL hr hok hr0 hv
  go_enter Try.func11, Try.ntmps11
  go_wp2_with fail
  have XI0 := Lib.hid (IF.newAt (op) (a) (b) (c) (m) (w) (w.heap.size) (by simp))
  have BnI := Lib.hid (below_new (Below.refl w.heap.size w) (.cells #[.int .u8 (op), .int .i64 (a), .int .i64 (b), .int .i64 (c), .int .i64 (m)] 23))
  refine (awake_any _).mono ?_
  rintro e w1 ⟨rfl, hb1⟩
  have B1 := Lib.hid (below_next BnI.out hb1)
  have XI1 := Lib.hid (XI0.out.step hb1)
  clear hb1
  have XI1_lt := XI1.out.lt
  have XI1_i0 := XI1.out.i0
  have XI1_i1 := XI1.out.i1
  have XI1_i2 := XI1.out.i2
  have XI1_i3 := XI1.out.i3
  have XI1_i4 := XI1.out.i4
  go_wp2_with fail
  refine (H1.out _).mono ?_
  rintro e w2 ⟨vP, rfl, o2, hb2⟩
  have XP2 := Lib.hid o2
  clear o2
  have B2 := Lib.hid (below_next B1.out hb2)
  have XI2 := Lib.hid (XI1.out.step hb2)
  clear hb2
  have XI2_lt := XI2.out.lt
  have XI2_i0 := XI2.out.i0
  have XI2_i1 := XI2.out.i1
  have XI2_i2 := XI2.out.i2
  have XI2_i3 := XI2.out.i3
  have XI2_i4 := XI2.out.i4
  obtain ⟨gP, cP, rfl, _, hP⟩ := own_some XP2.out (by simp)
  have F2 := Lib.hid hP
  clear hP XP2
  go_wp2_with fail
  refine (H2.out _).mono ?_
  rintro e w3 ⟨rfl, hb3⟩
  have B3 := Lib.hid (below_next B2.out hb3)
  have XI3 := Lib.hid (XI2.out.step hb3)
  have XP3 := Lib.hid (F2.out.step hb3)
  clear hb3
  have XI3_lt := XI3.out.lt
  have XI3_i0 := XI3.out.i0
  have XI3_i1 := XI3.out.i1
  have XI3_i2 := XI3.out.i2
  have XI3_i3 := XI3.out.i3
  have XI3_i4 := XI3.out.i4
  have XP3_lt := XP3.out.lt
  have cx : w3.cell? ⟨gP, 0, none⟩ = some (.int .i64 x) := XP3.out.at_ 0 (by simp)
  go_wp2_with fail
  refine wp_loop_rounds 2 ?_
  rw [rounds_succ]
  go_wp2_with fail
  rw [rounds_succ]
  go_wp2_with fail
  refine (H3.out _).mono ?_
  rintro e w4 ⟨rfl, hb4⟩
  have B4 := Lib.hid (below_next B3.out hb4)
  have XI4 := Lib.hid (XI3.out.step hb4)
  clear hb4
  have XI4_lt := XI4.out.lt
  have XI4_i0 := XI4.out.i0
  have XI4_i1 := XI4.out.i1
  have XI4_i2 := XI4.out.i2
  have XI4_i3 := XI4.out.i3
  have XI4_i4 := XI4.out.i4
  go_wp2_with fail
  go_ret
  exact ⟨rfl, B4.out⟩
set_option maxRecDepth 100000 in
set_option maxHeartbeats 4000000 in
theorem reg_xa_11 (op a b c m : Int) (h0 : 0 ≤ op) (h1 : op ≤ 255) (x : Int) (hL : readsV op a b c m = [x]) (hr : wrV op a b c m = a) (hok : wrOK op a b c m = true) (hv : validB op a b c m = true) (lx : decide (x < 1) = false) (gx : decide (16 ≤ x) = false) (nxa : (x != a) = false) (pos : decide (0 < a) = true) (w : World) :
    Calls Try.prog 11 #[.agg #[.int .u8 op, .int .i64 a, .int .i64 b, .int .i64 c, .int .i64 m]] w fun e w' => e = .returned (.bool true) ∧ Below w.heap.size w w' := by
  have rd1 := fun W => reads_any op a b c m h0 h1 W
  rw [hL] at rd1
  have H1 := Lib.hid rd1
  have H3 := Lib.hid (fun W => writes_any op a b c m h0 h1 a true hr hok W)
  have hr0 := fun W => valid_any op a b c m h0 h1 W
  rw [hv] at hr0
  have H2 := Lib.hid hr0
  clear rd1 hL hr hok hr0 hv
  go_enter Try.func11, Try.ntmps11
  go_wp2_with fail
  have XI0 := Lib.hid (IF.newAt (op) (a) (b) (c) (m) (w) (w.heap.size) (by simp))
  have BnI := Lib.hid (below_new (Below.refl w.heap.size w) (.cells #[.int .u8 (op), .int .i64 (a), .int .i64 (b), .int .i64 (c), .int .i64 (m)] 23))
  refine (awake_any _).mono ?_
  rintro e w1 ⟨rfl, hb1⟩
  have B1 := Lib.hid (below_next BnI.out hb1)
  have XI1 := Lib.hid (XI0.out.step hb1)
  clear hb1
  have XI1_lt := XI1.out.lt
  have XI1_i0 := XI1.out.i0
  have XI1_i1 := XI1.out.i1
  have XI1_i2 := XI1.out.i2
  have XI1_i3 := XI1.out.i3
  have XI1_i4 := XI1.out.i4
  go_wp2_with fail
  refine (H1.out _).mono ?_
  rintro e w2 ⟨vP, rfl, o2, hb2⟩
  have XP2 := Lib.hid o2
  clear o2
  have B2 := Lib.hid (below_next B1.out hb2)
  have XI2 := Lib.hid (XI1.out.step hb2)
  clear hb2
  have XI2_lt := XI2.out.lt
  have XI2_i0 := XI2.out.i0
  have XI2_i1 := XI2.out.i1
  have XI2_i2 := XI2.out.i2
  have XI2_i3 := XI2.out.i3
  have XI2_i4 := XI2.out.i4
  obtain ⟨gP, cP, rfl, _, hP⟩ := own_some XP2.out (by simp)
  have F2 := Lib.hid hP
  clear hP XP2
  go_wp2_with fail
  refine (H2.out _).mono ?_
  rintro e w3 ⟨rfl, hb3⟩
  have B3 := Lib.hid (below_next B2.out hb3)
  have XI3 := Lib.hid (XI2.out.step hb3)
  have XP3 := Lib.hid (F2.out.step hb3)
  clear hb3
  have XI3_lt := XI3.out.lt
  have XI3_i0 := XI3.out.i0
  have XI3_i1 := XI3.out.i1
  have XI3_i2 := XI3.out.i2
  have XI3_i3 := XI3.out.i3
  have XI3_i4 := XI3.out.i4
  have XP3_lt := XP3.out.lt
  have cx : w3.cell? ⟨gP, 0, none⟩ = some (.int .i64 x) := XP3.out.at_ 0 (by simp)
  go_wp2_with fail
  refine wp_loop_rounds 2 ?_
  rw [rounds_succ]
  go_wp2_with fail
  rw [rounds_succ]
  go_wp2_with fail
  refine (H3.out _).mono ?_
  rintro e w4 ⟨rfl, hb4⟩
  have B4 := Lib.hid (below_next B3.out hb4)
  have XI4 := Lib.hid (XI3.out.step hb4)
  clear hb4
  have XI4_lt := XI4.out.lt
  have XI4_i0 := XI4.out.i0
  have XI4_i1 := XI4.out.i1
  have XI4_i2 := XI4.out.i2
  have XI4_i3 := XI4.out.i3
  have XI4_i4 := XI4.out.i4
  go_wp2_with fail
  refine (H2.out _).mono ?_
  rintro e w5 ⟨rfl, hb5⟩
  have B5 := Lib.hid (below_next B4.out hb5)
  have XI5 := Lib.hid (XI4.out.step hb5)
  clear hb5
  have XI5_lt := XI5.out.lt
  have XI5_i0 := XI5.out.i0
  have XI5_i1 := XI5.out.i1
  have XI5_i2 := XI5.out.i2
  have XI5_i3 := XI5.out.i3
  have XI5_i4 := XI5.out.i4
  go_wp2_with fail
  go_ret
  exact ⟨rfl, B5.out⟩
set_option maxRecDepth 100000 in
set_option maxHeartbeats 4000000 in
theorem reg_xb_10 (op a b c m : Int) (h0 : 0 ≤ op) (h1 : op ≤ 255) (x : Int) (hL : readsV op a b c m = [x]) (hr : wrV op a b c m = 0) (hok : wrOK op a b c m = false) (hv : validB op a b c m = true) (lx : decide (x < 1) = false) (gx : decide (16 ≤ x) = false) (nxa : (x != a) = true) (nxb : (x != b) = false) (w : World) :
    Calls Try.prog 11 #[.agg #[.int .u8 op, .int .i64 a, .int .i64 b, .int .i64 c, .int .i64 m]] w fun e w' => e = .returned (.bool true) ∧ Below w.heap.size w w' := by
  have rd1 := fun W => reads_any op a b c m h0 h1 W
  rw [hL] at rd1
  have H1 := Lib.hid rd1
  have H3 := Lib.hid (fun W => writes_any op a b c m h0 h1 0 false hr hok W)
  have hr0 := fun W => valid_any op a b c m h0 h1 W
  rw [hv] at hr0
  have H2 := Lib.hid hr0
  clear rd1 hL hr hok hr0 hv
  go_enter Try.func11, Try.ntmps11
  go_wp2_with fail
  have XI0 := Lib.hid (IF.newAt (op) (a) (b) (c) (m) (w) (w.heap.size) (by simp))
  have BnI := Lib.hid (below_new (Below.refl w.heap.size w) (.cells #[.int .u8 (op), .int .i64 (a), .int .i64 (b), .int .i64 (c), .int .i64 (m)] 23))
  refine (awake_any _).mono ?_
  rintro e w1 ⟨rfl, hb1⟩
  have B1 := Lib.hid (below_next BnI.out hb1)
  have XI1 := Lib.hid (XI0.out.step hb1)
  clear hb1
  have XI1_lt := XI1.out.lt
  have XI1_i0 := XI1.out.i0
  have XI1_i1 := XI1.out.i1
  have XI1_i2 := XI1.out.i2
  have XI1_i3 := XI1.out.i3
  have XI1_i4 := XI1.out.i4
  go_wp2_with fail
  refine (H1.out _).mono ?_
  rintro e w2 ⟨vP, rfl, o2, hb2⟩
  have XP2 := Lib.hid o2
  clear o2
  have B2 := Lib.hid (below_next B1.out hb2)
  have XI2 := Lib.hid (XI1.out.step hb2)
  clear hb2
  have XI2_lt := XI2.out.lt
  have XI2_i0 := XI2.out.i0
  have XI2_i1 := XI2.out.i1
  have XI2_i2 := XI2.out.i2
  have XI2_i3 := XI2.out.i3
  have XI2_i4 := XI2.out.i4
  obtain ⟨gP, cP, rfl, _, hP⟩ := own_some XP2.out (by simp)
  have F2 := Lib.hid hP
  clear hP XP2
  go_wp2_with fail
  refine (H2.out _).mono ?_
  rintro e w3 ⟨rfl, hb3⟩
  have B3 := Lib.hid (below_next B2.out hb3)
  have XI3 := Lib.hid (XI2.out.step hb3)
  have XP3 := Lib.hid (F2.out.step hb3)
  clear hb3
  have XI3_lt := XI3.out.lt
  have XI3_i0 := XI3.out.i0
  have XI3_i1 := XI3.out.i1
  have XI3_i2 := XI3.out.i2
  have XI3_i3 := XI3.out.i3
  have XI3_i4 := XI3.out.i4
  have XP3_lt := XP3.out.lt
  have cx : w3.cell? ⟨gP, 0, none⟩ = some (.int .i64 x) := XP3.out.at_ 0 (by simp)
  go_wp2_with fail
  refine wp_loop_rounds 2 ?_
  rw [rounds_succ]
  go_wp2_with fail
  rw [rounds_succ]
  go_wp2_with fail
  refine (H3.out _).mono ?_
  rintro e w4 ⟨rfl, hb4⟩
  have B4 := Lib.hid (below_next B3.out hb4)
  have XI4 := Lib.hid (XI3.out.step hb4)
  clear hb4
  have XI4_lt := XI4.out.lt
  have XI4_i0 := XI4.out.i0
  have XI4_i1 := XI4.out.i1
  have XI4_i2 := XI4.out.i2
  have XI4_i3 := XI4.out.i3
  have XI4_i4 := XI4.out.i4
  go_wp2_with fail
  go_ret
  exact ⟨rfl, B4.out⟩
set_option maxRecDepth 100000 in
set_option maxHeartbeats 4000000 in
theorem reg_xb_11 (op a b c m : Int) (h0 : 0 ≤ op) (h1 : op ≤ 255) (x : Int) (hL : readsV op a b c m = [x]) (hr : wrV op a b c m = a) (hok : wrOK op a b c m = true) (hv : validB op a b c m = true) (lx : decide (x < 1) = false) (gx : decide (16 ≤ x) = false) (nxa : (x != a) = true) (nxb : (x != b) = false) (pos : decide (0 < a) = true) (w : World) :
    Calls Try.prog 11 #[.agg #[.int .u8 op, .int .i64 a, .int .i64 b, .int .i64 c, .int .i64 m]] w fun e w' => e = .returned (.bool true) ∧ Below w.heap.size w w' := by
  have rd1 := fun W => reads_any op a b c m h0 h1 W
  rw [hL] at rd1
  have H1 := Lib.hid rd1
  have H3 := Lib.hid (fun W => writes_any op a b c m h0 h1 a true hr hok W)
  have hr0 := fun W => valid_any op a b c m h0 h1 W
  rw [hv] at hr0
  have H2 := Lib.hid hr0
  clear rd1 hL hr hok hr0 hv
  go_enter Try.func11, Try.ntmps11
  go_wp2_with fail
  have XI0 := Lib.hid (IF.newAt (op) (a) (b) (c) (m) (w) (w.heap.size) (by simp))
  have BnI := Lib.hid (below_new (Below.refl w.heap.size w) (.cells #[.int .u8 (op), .int .i64 (a), .int .i64 (b), .int .i64 (c), .int .i64 (m)] 23))
  refine (awake_any _).mono ?_
  rintro e w1 ⟨rfl, hb1⟩
  have B1 := Lib.hid (below_next BnI.out hb1)
  have XI1 := Lib.hid (XI0.out.step hb1)
  clear hb1
  have XI1_lt := XI1.out.lt
  have XI1_i0 := XI1.out.i0
  have XI1_i1 := XI1.out.i1
  have XI1_i2 := XI1.out.i2
  have XI1_i3 := XI1.out.i3
  have XI1_i4 := XI1.out.i4
  go_wp2_with fail
  refine (H1.out _).mono ?_
  rintro e w2 ⟨vP, rfl, o2, hb2⟩
  have XP2 := Lib.hid o2
  clear o2
  have B2 := Lib.hid (below_next B1.out hb2)
  have XI2 := Lib.hid (XI1.out.step hb2)
  clear hb2
  have XI2_lt := XI2.out.lt
  have XI2_i0 := XI2.out.i0
  have XI2_i1 := XI2.out.i1
  have XI2_i2 := XI2.out.i2
  have XI2_i3 := XI2.out.i3
  have XI2_i4 := XI2.out.i4
  obtain ⟨gP, cP, rfl, _, hP⟩ := own_some XP2.out (by simp)
  have F2 := Lib.hid hP
  clear hP XP2
  go_wp2_with fail
  refine (H2.out _).mono ?_
  rintro e w3 ⟨rfl, hb3⟩
  have B3 := Lib.hid (below_next B2.out hb3)
  have XI3 := Lib.hid (XI2.out.step hb3)
  have XP3 := Lib.hid (F2.out.step hb3)
  clear hb3
  have XI3_lt := XI3.out.lt
  have XI3_i0 := XI3.out.i0
  have XI3_i1 := XI3.out.i1
  have XI3_i2 := XI3.out.i2
  have XI3_i3 := XI3.out.i3
  have XI3_i4 := XI3.out.i4
  have XP3_lt := XP3.out.lt
  have cx : w3.cell? ⟨gP, 0, none⟩ = some (.int .i64 x) := XP3.out.at_ 0 (by simp)
  go_wp2_with fail
  refine wp_loop_rounds 2 ?_
  rw [rounds_succ]
  go_wp2_with fail
  rw [rounds_succ]
  go_wp2_with fail
  refine (H3.out _).mono ?_
  rintro e w4 ⟨rfl, hb4⟩
  have B4 := Lib.hid (below_next B3.out hb4)
  have XI4 := Lib.hid (XI3.out.step hb4)
  clear hb4
  have XI4_lt := XI4.out.lt
  have XI4_i0 := XI4.out.i0
  have XI4_i1 := XI4.out.i1
  have XI4_i2 := XI4.out.i2
  have XI4_i3 := XI4.out.i3
  have XI4_i4 := XI4.out.i4
  go_wp2_with fail
  refine (H2.out _).mono ?_
  rintro e w5 ⟨rfl, hb5⟩
  have B5 := Lib.hid (below_next B4.out hb5)
  have XI5 := Lib.hid (XI4.out.step hb5)
  clear hb5
  have XI5_lt := XI5.out.lt
  have XI5_i0 := XI5.out.i0
  have XI5_i1 := XI5.out.i1
  have XI5_i2 := XI5.out.i2
  have XI5_i3 := XI5.out.i3
  have XI5_i4 := XI5.out.i4
  go_wp2_with fail
  go_ret
  exact ⟨rfl, B5.out⟩
set_option maxRecDepth 100000 in
set_option maxHeartbeats 4000000 in
theorem reg_xc_10 (op a b c m : Int) (h0 : 0 ≤ op) (h1 : op ≤ 255) (x : Int) (hL : readsV op a b c m = [x]) (hr : wrV op a b c m = 0) (hok : wrOK op a b c m = false) (hv : validB op a b c m = true) (lx : decide (x < 1) = false) (gx : decide (16 ≤ x) = false) (nxa : (x != a) = true) (nxb : (x != b) = true) (nxc : (x != c) = false) (w : World) :
    Calls Try.prog 11 #[.agg #[.int .u8 op, .int .i64 a, .int .i64 b, .int .i64 c, .int .i64 m]] w fun e w' => e = .returned (.bool true) ∧ Below w.heap.size w w' := by
  have rd1 := fun W => reads_any op a b c m h0 h1 W
  rw [hL] at rd1
  have H1 := Lib.hid rd1
  have H3 := Lib.hid (fun W => writes_any op a b c m h0 h1 0 false hr hok W)
  have hr0 := fun W => valid_any op a b c m h0 h1 W
  rw [hv] at hr0
  have H2 := Lib.hid hr0
  clear rd1 hL hr hok hr0 hv
  go_enter Try.func11, Try.ntmps11
  go_wp2_with fail
  have XI0 := Lib.hid (IF.newAt (op) (a) (b) (c) (m) (w) (w.heap.size) (by simp))
  have BnI := Lib.hid (below_new (Below.refl w.heap.size w) (.cells #[.int .u8 (op), .int .i64 (a), .int .i64 (b), .int .i64 (c), .int .i64 (m)] 23))
  refine (awake_any _).mono ?_
  rintro e w1 ⟨rfl, hb1⟩
  have B1 := Lib.hid (below_next BnI.out hb1)
  have XI1 := Lib.hid (XI0.out.step hb1)
  clear hb1
  have XI1_lt := XI1.out.lt
  have XI1_i0 := XI1.out.i0
  have XI1_i1 := XI1.out.i1
  have XI1_i2 := XI1.out.i2
  have XI1_i3 := XI1.out.i3
  have XI1_i4 := XI1.out.i4
  go_wp2_with fail
  refine (H1.out _).mono ?_
  rintro e w2 ⟨vP, rfl, o2, hb2⟩
  have XP2 := Lib.hid o2
  clear o2
  have B2 := Lib.hid (below_next B1.out hb2)
  have XI2 := Lib.hid (XI1.out.step hb2)
  clear hb2
  have XI2_lt := XI2.out.lt
  have XI2_i0 := XI2.out.i0
  have XI2_i1 := XI2.out.i1
  have XI2_i2 := XI2.out.i2
  have XI2_i3 := XI2.out.i3
  have XI2_i4 := XI2.out.i4
  obtain ⟨gP, cP, rfl, _, hP⟩ := own_some XP2.out (by simp)
  have F2 := Lib.hid hP
  clear hP XP2
  go_wp2_with fail
  refine (H2.out _).mono ?_
  rintro e w3 ⟨rfl, hb3⟩
  have B3 := Lib.hid (below_next B2.out hb3)
  have XI3 := Lib.hid (XI2.out.step hb3)
  have XP3 := Lib.hid (F2.out.step hb3)
  clear hb3
  have XI3_lt := XI3.out.lt
  have XI3_i0 := XI3.out.i0
  have XI3_i1 := XI3.out.i1
  have XI3_i2 := XI3.out.i2
  have XI3_i3 := XI3.out.i3
  have XI3_i4 := XI3.out.i4
  have XP3_lt := XP3.out.lt
  have cx : w3.cell? ⟨gP, 0, none⟩ = some (.int .i64 x) := XP3.out.at_ 0 (by simp)
  go_wp2_with fail
  refine wp_loop_rounds 2 ?_
  rw [rounds_succ]
  go_wp2_with fail
  rw [rounds_succ]
  go_wp2_with fail
  refine (H3.out _).mono ?_
  rintro e w4 ⟨rfl, hb4⟩
  have B4 := Lib.hid (below_next B3.out hb4)
  have XI4 := Lib.hid (XI3.out.step hb4)
  clear hb4
  have XI4_lt := XI4.out.lt
  have XI4_i0 := XI4.out.i0
  have XI4_i1 := XI4.out.i1
  have XI4_i2 := XI4.out.i2
  have XI4_i3 := XI4.out.i3
  have XI4_i4 := XI4.out.i4
  go_wp2_with fail
  go_ret
  exact ⟨rfl, B4.out⟩
set_option maxRecDepth 100000 in
set_option maxHeartbeats 4000000 in
theorem reg_xc_11 (op a b c m : Int) (h0 : 0 ≤ op) (h1 : op ≤ 255) (x : Int) (hL : readsV op a b c m = [x]) (hr : wrV op a b c m = a) (hok : wrOK op a b c m = true) (hv : validB op a b c m = true) (lx : decide (x < 1) = false) (gx : decide (16 ≤ x) = false) (nxa : (x != a) = true) (nxb : (x != b) = true) (nxc : (x != c) = false) (pos : decide (0 < a) = true) (w : World) :
    Calls Try.prog 11 #[.agg #[.int .u8 op, .int .i64 a, .int .i64 b, .int .i64 c, .int .i64 m]] w fun e w' => e = .returned (.bool true) ∧ Below w.heap.size w w' := by
  have rd1 := fun W => reads_any op a b c m h0 h1 W
  rw [hL] at rd1
  have H1 := Lib.hid rd1
  have H3 := Lib.hid (fun W => writes_any op a b c m h0 h1 a true hr hok W)
  have hr0 := fun W => valid_any op a b c m h0 h1 W
  rw [hv] at hr0
  have H2 := Lib.hid hr0
  clear rd1 hL hr hok hr0 hv
  go_enter Try.func11, Try.ntmps11
  go_wp2_with fail
  have XI0 := Lib.hid (IF.newAt (op) (a) (b) (c) (m) (w) (w.heap.size) (by simp))
  have BnI := Lib.hid (below_new (Below.refl w.heap.size w) (.cells #[.int .u8 (op), .int .i64 (a), .int .i64 (b), .int .i64 (c), .int .i64 (m)] 23))
  refine (awake_any _).mono ?_
  rintro e w1 ⟨rfl, hb1⟩
  have B1 := Lib.hid (below_next BnI.out hb1)
  have XI1 := Lib.hid (XI0.out.step hb1)
  clear hb1
  have XI1_lt := XI1.out.lt
  have XI1_i0 := XI1.out.i0
  have XI1_i1 := XI1.out.i1
  have XI1_i2 := XI1.out.i2
  have XI1_i3 := XI1.out.i3
  have XI1_i4 := XI1.out.i4
  go_wp2_with fail
  refine (H1.out _).mono ?_
  rintro e w2 ⟨vP, rfl, o2, hb2⟩
  have XP2 := Lib.hid o2
  clear o2
  have B2 := Lib.hid (below_next B1.out hb2)
  have XI2 := Lib.hid (XI1.out.step hb2)
  clear hb2
  have XI2_lt := XI2.out.lt
  have XI2_i0 := XI2.out.i0
  have XI2_i1 := XI2.out.i1
  have XI2_i2 := XI2.out.i2
  have XI2_i3 := XI2.out.i3
  have XI2_i4 := XI2.out.i4
  obtain ⟨gP, cP, rfl, _, hP⟩ := own_some XP2.out (by simp)
  have F2 := Lib.hid hP
  clear hP XP2
  go_wp2_with fail
  refine (H2.out _).mono ?_
  rintro e w3 ⟨rfl, hb3⟩
  have B3 := Lib.hid (below_next B2.out hb3)
  have XI3 := Lib.hid (XI2.out.step hb3)
  have XP3 := Lib.hid (F2.out.step hb3)
  clear hb3
  have XI3_lt := XI3.out.lt
  have XI3_i0 := XI3.out.i0
  have XI3_i1 := XI3.out.i1
  have XI3_i2 := XI3.out.i2
  have XI3_i3 := XI3.out.i3
  have XI3_i4 := XI3.out.i4
  have XP3_lt := XP3.out.lt
  have cx : w3.cell? ⟨gP, 0, none⟩ = some (.int .i64 x) := XP3.out.at_ 0 (by simp)
  go_wp2_with fail
  refine wp_loop_rounds 2 ?_
  rw [rounds_succ]
  go_wp2_with fail
  rw [rounds_succ]
  go_wp2_with fail
  refine (H3.out _).mono ?_
  rintro e w4 ⟨rfl, hb4⟩
  have B4 := Lib.hid (below_next B3.out hb4)
  have XI4 := Lib.hid (XI3.out.step hb4)
  clear hb4
  have XI4_lt := XI4.out.lt
  have XI4_i0 := XI4.out.i0
  have XI4_i1 := XI4.out.i1
  have XI4_i2 := XI4.out.i2
  have XI4_i3 := XI4.out.i3
  have XI4_i4 := XI4.out.i4
  go_wp2_with fail
  refine (H2.out _).mono ?_
  rintro e w5 ⟨rfl, hb5⟩
  have B5 := Lib.hid (below_next B4.out hb5)
  have XI5 := Lib.hid (XI4.out.step hb5)
  clear hb5
  have XI5_lt := XI5.out.lt
  have XI5_i0 := XI5.out.i0
  have XI5_i1 := XI5.out.i1
  have XI5_i2 := XI5.out.i2
  have XI5_i3 := XI5.out.i3
  have XI5_i4 := XI5.out.i4
  go_wp2_with fail
  go_ret
  exact ⟨rfl, B5.out⟩
set_option maxRecDepth 100000 in
set_option maxHeartbeats 4000000 in
theorem reg_xaya_10 (op a b c m : Int) (h0 : 0 ≤ op) (h1 : op ≤ 255) (x y : Int) (hL : readsV op a b c m = [x, y]) (hr : wrV op a b c m = 0) (hok : wrOK op a b c m = false) (hv : validB op a b c m = true) (lx : decide (x < 1) = false) (gx : decide (16 ≤ x) = false) (nxa : (x != a) = false) (ly : decide (y < 1) = false) (gy : decide (16 ≤ y) = false) (nya : (y != a) = false) (asc : decide (y ≤ x) = false) (w : World) :
    Calls Try.prog 11 #[.agg #[.int .u8 op, .int .i64 a, .int .i64 b, .int .i64 c, .int .i64 m]] w fun e w' => e = .returned (.bool true) ∧ Below w.heap.size w w' := by
  have rd1 := fun W => reads_any op a b c m h0 h1 W
  rw [hL] at rd1
  have H1 := Lib.hid rd1
  have H3 := Lib.hid (fun W => writes_any op a b c m h0 h1 0 false hr hok W)
  have hr0 := fun W => valid_any op a b c m h0 h1 W
  rw [hv] at hr0
  have H2 := Lib.hid hr0
  clear rd1 hL hr hok hr0 hv
  go_enter Try.func11, Try.ntmps11
  go_wp2_with fail
  have XI0 := Lib.hid (IF.newAt (op) (a) (b) (c) (m) (w) (w.heap.size) (by simp))
  have BnI := Lib.hid (below_new (Below.refl w.heap.size w) (.cells #[.int .u8 (op), .int .i64 (a), .int .i64 (b), .int .i64 (c), .int .i64 (m)] 23))
  refine (awake_any _).mono ?_
  rintro e w1 ⟨rfl, hb1⟩
  have B1 := Lib.hid (below_next BnI.out hb1)
  have XI1 := Lib.hid (XI0.out.step hb1)
  clear hb1
  have XI1_lt := XI1.out.lt
  have XI1_i0 := XI1.out.i0
  have XI1_i1 := XI1.out.i1
  have XI1_i2 := XI1.out.i2
  have XI1_i3 := XI1.out.i3
  have XI1_i4 := XI1.out.i4
  go_wp2_with fail
  refine (H1.out _).mono ?_
  rintro e w2 ⟨vP, rfl, o2, hb2⟩
  have XP2 := Lib.hid o2
  clear o2
  have B2 := Lib.hid (below_next B1.out hb2)
  have XI2 := Lib.hid (XI1.out.step hb2)
  clear hb2
  have XI2_lt := XI2.out.lt
  have XI2_i0 := XI2.out.i0
  have XI2_i1 := XI2.out.i1
  have XI2_i2 := XI2.out.i2
  have XI2_i3 := XI2.out.i3
  have XI2_i4 := XI2.out.i4
  obtain ⟨gP, cP, rfl, _, hP⟩ := own_some XP2.out (by simp)
  have F2 := Lib.hid hP
  clear hP XP2
  go_wp2_with fail
  refine (H2.out _).mono ?_
  rintro e w3 ⟨rfl, hb3⟩
  have B3 := Lib.hid (below_next B2.out hb3)
  have XI3 := Lib.hid (XI2.out.step hb3)
  have XP3 := Lib.hid (F2.out.step hb3)
  clear hb3
  have XI3_lt := XI3.out.lt
  have XI3_i0 := XI3.out.i0
  have XI3_i1 := XI3.out.i1
  have XI3_i2 := XI3.out.i2
  have XI3_i3 := XI3.out.i3
  have XI3_i4 := XI3.out.i4
  have XP3_lt := XP3.out.lt
  have cx : w3.cell? ⟨gP, 0, none⟩ = some (.int .i64 x) := XP3.out.at_ 0 (by simp)
  have cy : w3.cell? ⟨gP, 1, none⟩ = some (.int .i64 y) := XP3.out.at_ 1 (by simp)
  go_wp2_with fail
  refine wp_loop_rounds 3 ?_
  rw [rounds_succ]
  go_wp2_with fail
  rw [rounds_succ]
  go_wp2_with fail
  rw [rounds_succ]
  go_wp2_with fail
  refine (H3.out _).mono ?_
  rintro e w4 ⟨rfl, hb4⟩
  have B4 := Lib.hid (below_next B3.out hb4)
  have XI4 := Lib.hid (XI3.out.step hb4)
  clear hb4
  have XI4_lt := XI4.out.lt
  have XI4_i0 := XI4.out.i0
  have XI4_i1 := XI4.out.i1
  have XI4_i2 := XI4.out.i2
  have XI4_i3 := XI4.out.i3
  have XI4_i4 := XI4.out.i4
  go_wp2_with fail
  go_ret
  exact ⟨rfl, B4.out⟩
set_option maxRecDepth 100000 in
set_option maxHeartbeats 4000000 in
theorem reg_xaya_11 (op a b c m : Int) (h0 : 0 ≤ op) (h1 : op ≤ 255) (x y : Int) (hL : readsV op a b c m = [x, y]) (hr : wrV op a b c m = a) (hok : wrOK op a b c m = true) (hv : validB op a b c m = true) (lx : decide (x < 1) = false) (gx : decide (16 ≤ x) = false) (nxa : (x != a) = false) (ly : decide (y < 1) = false) (gy : decide (16 ≤ y) = false) (nya : (y != a) = false) (asc : decide (y ≤ x) = false) (pos : decide (0 < a) = true) (w : World) :
    Calls Try.prog 11 #[.agg #[.int .u8 op, .int .i64 a, .int .i64 b, .int .i64 c, .int .i64 m]] w fun e w' => e = .returned (.bool true) ∧ Below w.heap.size w w' := by
  have rd1 := fun W => reads_any op a b c m h0 h1 W
  rw [hL] at rd1
  have H1 := Lib.hid rd1
  have H3 := Lib.hid (fun W => writes_any op a b c m h0 h1 a true hr hok W)
  have hr0 := fun W => valid_any op a b c m h0 h1 W
  rw [hv] at hr0
  have H2 := Lib.hid hr0
  clear rd1 hL hr hok hr0 hv
  go_enter Try.func11, Try.ntmps11
  go_wp2_with fail
  have XI0 := Lib.hid (IF.newAt (op) (a) (b) (c) (m) (w) (w.heap.size) (by simp))
  have BnI := Lib.hid (below_new (Below.refl w.heap.size w) (.cells #[.int .u8 (op), .int .i64 (a), .int .i64 (b), .int .i64 (c), .int .i64 (m)] 23))
  refine (awake_any _).mono ?_
  rintro e w1 ⟨rfl, hb1⟩
  have B1 := Lib.hid (below_next BnI.out hb1)
  have XI1 := Lib.hid (XI0.out.step hb1)
  clear hb1
  have XI1_lt := XI1.out.lt
  have XI1_i0 := XI1.out.i0
  have XI1_i1 := XI1.out.i1
  have XI1_i2 := XI1.out.i2
  have XI1_i3 := XI1.out.i3
  have XI1_i4 := XI1.out.i4
  go_wp2_with fail
  refine (H1.out _).mono ?_
  rintro e w2 ⟨vP, rfl, o2, hb2⟩
  have XP2 := Lib.hid o2
  clear o2
  have B2 := Lib.hid (below_next B1.out hb2)
  have XI2 := Lib.hid (XI1.out.step hb2)
  clear hb2
  have XI2_lt := XI2.out.lt
  have XI2_i0 := XI2.out.i0
  have XI2_i1 := XI2.out.i1
  have XI2_i2 := XI2.out.i2
  have XI2_i3 := XI2.out.i3
  have XI2_i4 := XI2.out.i4
  obtain ⟨gP, cP, rfl, _, hP⟩ := own_some XP2.out (by simp)
  have F2 := Lib.hid hP
  clear hP XP2
  go_wp2_with fail
  refine (H2.out _).mono ?_
  rintro e w3 ⟨rfl, hb3⟩
  have B3 := Lib.hid (below_next B2.out hb3)
  have XI3 := Lib.hid (XI2.out.step hb3)
  have XP3 := Lib.hid (F2.out.step hb3)
  clear hb3
  have XI3_lt := XI3.out.lt
  have XI3_i0 := XI3.out.i0
  have XI3_i1 := XI3.out.i1
  have XI3_i2 := XI3.out.i2
  have XI3_i3 := XI3.out.i3
  have XI3_i4 := XI3.out.i4
  have XP3_lt := XP3.out.lt
  have cx : w3.cell? ⟨gP, 0, none⟩ = some (.int .i64 x) := XP3.out.at_ 0 (by simp)
  have cy : w3.cell? ⟨gP, 1, none⟩ = some (.int .i64 y) := XP3.out.at_ 1 (by simp)
  go_wp2_with fail
  refine wp_loop_rounds 3 ?_
  rw [rounds_succ]
  go_wp2_with fail
  rw [rounds_succ]
  go_wp2_with fail
  rw [rounds_succ]
  go_wp2_with fail
  refine (H3.out _).mono ?_
  rintro e w4 ⟨rfl, hb4⟩
  have B4 := Lib.hid (below_next B3.out hb4)
  have XI4 := Lib.hid (XI3.out.step hb4)
  clear hb4
  have XI4_lt := XI4.out.lt
  have XI4_i0 := XI4.out.i0
  have XI4_i1 := XI4.out.i1
  have XI4_i2 := XI4.out.i2
  have XI4_i3 := XI4.out.i3
  have XI4_i4 := XI4.out.i4
  go_wp2_with fail
  refine (H2.out _).mono ?_
  rintro e w5 ⟨rfl, hb5⟩
  have B5 := Lib.hid (below_next B4.out hb5)
  have XI5 := Lib.hid (XI4.out.step hb5)
  clear hb5
  have XI5_lt := XI5.out.lt
  have XI5_i0 := XI5.out.i0
  have XI5_i1 := XI5.out.i1
  have XI5_i2 := XI5.out.i2
  have XI5_i3 := XI5.out.i3
  have XI5_i4 := XI5.out.i4
  go_wp2_with fail
  go_ret
  exact ⟨rfl, B5.out⟩
set_option maxRecDepth 100000 in
set_option maxHeartbeats 4000000 in
theorem reg_xayb_10 (op a b c m : Int) (h0 : 0 ≤ op) (h1 : op ≤ 255) (x y : Int) (hL : readsV op a b c m = [x, y]) (hr : wrV op a b c m = 0) (hok : wrOK op a b c m = false) (hv : validB op a b c m = true) (lx : decide (x < 1) = false) (gx : decide (16 ≤ x) = false) (nxa : (x != a) = false) (ly : decide (y < 1) = false) (gy : decide (16 ≤ y) = false) (nya : (y != a) = true) (nyb : (y != b) = false) (asc : decide (y ≤ x) = false) (w : World) :
    Calls Try.prog 11 #[.agg #[.int .u8 op, .int .i64 a, .int .i64 b, .int .i64 c, .int .i64 m]] w fun e w' => e = .returned (.bool true) ∧ Below w.heap.size w w' := by
  have rd1 := fun W => reads_any op a b c m h0 h1 W
  rw [hL] at rd1
  have H1 := Lib.hid rd1
  have H3 := Lib.hid (fun W => writes_any op a b c m h0 h1 0 false hr hok W)
  have hr0 := fun W => valid_any op a b c m h0 h1 W
  rw [hv] at hr0
  have H2 := Lib.hid hr0
  clear rd1 hL hr hok hr0 hv
  go_enter Try.func11, Try.ntmps11
  go_wp2_with fail
  have XI0 := Lib.hid (IF.newAt (op) (a) (b) (c) (m) (w) (w.heap.size) (by simp))
  have BnI := Lib.hid (below_new (Below.refl w.heap.size w) (.cells #[.int .u8 (op), .int .i64 (a), .int .i64 (b), .int .i64 (c), .int .i64 (m)] 23))
  refine (awake_any _).mono ?_
  rintro e w1 ⟨rfl, hb1⟩
  have B1 := Lib.hid (below_next BnI.out hb1)
  have XI1 := Lib.hid (XI0.out.step hb1)
  clear hb1
  have XI1_lt := XI1.out.lt
  have XI1_i0 := XI1.out.i0
  have XI1_i1 := XI1.out.i1
  have XI1_i2 := XI1.out.i2
  have XI1_i3 := XI1.out.i3
  have XI1_i4 := XI1.out.i4
  go_wp2_with fail
  refine (H1.out _).mono ?_
  rintro e w2 ⟨vP, rfl, o2, hb2⟩
  have XP2 := Lib.hid o2
  clear o2
  have B2 := Lib.hid (below_next B1.out hb2)
  have XI2 := Lib.hid (XI1.out.step hb2)
  clear hb2
  have XI2_lt := XI2.out.lt
  have XI2_i0 := XI2.out.i0
  have XI2_i1 := XI2.out.i1
  have XI2_i2 := XI2.out.i2
  have XI2_i3 := XI2.out.i3
  have XI2_i4 := XI2.out.i4
  obtain ⟨gP, cP, rfl, _, hP⟩ := own_some XP2.out (by simp)
  have F2 := Lib.hid hP
  clear hP XP2
  go_wp2_with fail
  refine (H2.out _).mono ?_
  rintro e w3 ⟨rfl, hb3⟩
  have B3 := Lib.hid (below_next B2.out hb3)
  have XI3 := Lib.hid (XI2.out.step hb3)
  have XP3 := Lib.hid (F2.out.step hb3)
  clear hb3
  have XI3_lt := XI3.out.lt
  have XI3_i0 := XI3.out.i0
  have XI3_i1 := XI3.out.i1
  have XI3_i2 := XI3.out.i2
  have XI3_i3 := XI3.out.i3
  have XI3_i4 := XI3.out.i4
  have XP3_lt := XP3.out.lt
  have cx : w3.cell? ⟨gP, 0, none⟩ = some (.int .i64 x) := XP3.out.at_ 0 (by simp)
  have cy : w3.cell? ⟨gP, 1, none⟩ = some (.int .i64 y) := XP3.out.at_ 1 (by simp)
  go_wp2_with fail
  refine wp_loop_rounds 3 ?_
  rw [rounds_succ]
  go_wp2_with fail
  rw [rounds_succ]
  go_wp2_with fail
  rw [rounds_succ]
  go_wp2_with fail
  refine (H3.out _).mono ?_
  rintro e w4 ⟨rfl, hb4⟩
  have B4 := Lib.hid (below_next B3.out hb4)
  have XI4 := Lib.hid (XI3.out.step hb4)
  clear hb4
  have XI4_lt := XI4.out.lt
  have XI4_i0 := XI4.out.i0
  have XI4_i1 := XI4.out.i1
  have XI4_i2 := XI4.out.i2
  have XI4_i3 := XI4.out.i3
  have XI4_i4 := XI4.out.i4
  go_wp2_with fail
  go_ret
  exact ⟨rfl, B4.out⟩
set_option maxRecDepth 100000 in
set_option maxHeartbeats 4000000 in
theorem reg_xayb_11 (op a b c m : Int) (h0 : 0 ≤ op) (h1 : op ≤ 255) (x y : Int) (hL : readsV op a b c m = [x, y]) (hr : wrV op a b c m = a) (hok : wrOK op a b c m = true) (hv : validB op a b c m = true) (lx : decide (x < 1) = false) (gx : decide (16 ≤ x) = false) (nxa : (x != a) = false) (ly : decide (y < 1) = false) (gy : decide (16 ≤ y) = false) (nya : (y != a) = true) (nyb : (y != b) = false) (asc : decide (y ≤ x) = false) (pos : decide (0 < a) = true) (w : World) :
    Calls Try.prog 11 #[.agg #[.int .u8 op, .int .i64 a, .int .i64 b, .int .i64 c, .int .i64 m]] w fun e w' => e = .returned (.bool true) ∧ Below w.heap.size w w' := by
  have rd1 := fun W => reads_any op a b c m h0 h1 W
  rw [hL] at rd1
  have H1 := Lib.hid rd1
  have H3 := Lib.hid (fun W => writes_any op a b c m h0 h1 a true hr hok W)
  have hr0 := fun W => valid_any op a b c m h0 h1 W
  rw [hv] at hr0
  have H2 := Lib.hid hr0
  clear rd1 hL hr hok hr0 hv
  go_enter Try.func11, Try.ntmps11
  go_wp2_with fail
  have XI0 := Lib.hid (IF.newAt (op) (a) (b) (c) (m) (w) (w.heap.size) (by simp))
  have BnI := Lib.hid (below_new (Below.refl w.heap.size w) (.cells #[.int .u8 (op), .int .i64 (a), .int .i64 (b), .int .i64 (c), .int .i64 (m)] 23))
  refine (awake_any _).mono ?_
  rintro e w1 ⟨rfl, hb1⟩
  have B1 := Lib.hid (below_next BnI.out hb1)
  have XI1 := Lib.hid (XI0.out.step hb1)
  clear hb1
  have XI1_lt := XI1.out.lt
  have XI1_i0 := XI1.out.i0
  have XI1_i1 := XI1.out.i1
  have XI1_i2 := XI1.out.i2
  have XI1_i3 := XI1.out.i3
  have XI1_i4 := XI1.out.i4
  go_wp2_with fail
  refine (H1.out _).mono ?_
  rintro e w2 ⟨vP, rfl, o2, hb2⟩
  have XP2 := Lib.hid o2
  clear o2
  have B2 := Lib.hid (below_next B1.out hb2)
  have XI2 := Lib.hid (XI1.out.step hb2)
  clear hb2
  have XI2_lt := XI2.out.lt
  have XI2_i0 := XI2.out.i0
  have XI2_i1 := XI2.out.i1
  have XI2_i2 := XI2.out.i2
  have XI2_i3 := XI2.out.i3
  have XI2_i4 := XI2.out.i4
  obtain ⟨gP, cP, rfl, _, hP⟩ := own_some XP2.out (by simp)
  have F2 := Lib.hid hP
  clear hP XP2
  go_wp2_with fail
  refine (H2.out _).mono ?_
  rintro e w3 ⟨rfl, hb3⟩
  have B3 := Lib.hid (below_next B2.out hb3)
  have XI3 := Lib.hid (XI2.out.step hb3)
  have XP3 := Lib.hid (F2.out.step hb3)
  clear hb3
  have XI3_lt := XI3.out.lt
  have XI3_i0 := XI3.out.i0
  have XI3_i1 := XI3.out.i1
  have XI3_i2 := XI3.out.i2
  have XI3_i3 := XI3.out.i3
  have XI3_i4 := XI3.out.i4
  have XP3_lt := XP3.out.lt
  have cx : w3.cell? ⟨gP, 0, none⟩ = some (.int .i64 x) := XP3.out.at_ 0 (by simp)
  have cy : w3.cell? ⟨gP, 1, none⟩ = some (.int .i64 y) := XP3.out.at_ 1 (by simp)
  go_wp2_with fail
  refine wp_loop_rounds 3 ?_
  rw [rounds_succ]
  go_wp2_with fail
  rw [rounds_succ]
  go_wp2_with fail
  rw [rounds_succ]
  go_wp2_with fail
  refine (H3.out _).mono ?_
  rintro e w4 ⟨rfl, hb4⟩
  have B4 := Lib.hid (below_next B3.out hb4)
  have XI4 := Lib.hid (XI3.out.step hb4)
  clear hb4
  have XI4_lt := XI4.out.lt
  have XI4_i0 := XI4.out.i0
  have XI4_i1 := XI4.out.i1
  have XI4_i2 := XI4.out.i2
  have XI4_i3 := XI4.out.i3
  have XI4_i4 := XI4.out.i4
  go_wp2_with fail
  refine (H2.out _).mono ?_
  rintro e w5 ⟨rfl, hb5⟩
  have B5 := Lib.hid (below_next B4.out hb5)
  have XI5 := Lib.hid (XI4.out.step hb5)
  clear hb5
  have XI5_lt := XI5.out.lt
  have XI5_i0 := XI5.out.i0
  have XI5_i1 := XI5.out.i1
  have XI5_i2 := XI5.out.i2
  have XI5_i3 := XI5.out.i3
  have XI5_i4 := XI5.out.i4
  go_wp2_with fail
  go_ret
  exact ⟨rfl, B5.out⟩
set_option maxRecDepth 100000 in
set_option maxHeartbeats 4000000 in
theorem reg_xayc_10 (op a b c m : Int) (h0 : 0 ≤ op) (h1 : op ≤ 255) (x y : Int) (hL : readsV op a b c m = [x, y]) (hr : wrV op a b c m = 0) (hok : wrOK op a b c m = false) (hv : validB op a b c m = true) (lx : decide (x < 1) = false) (gx : decide (16 ≤ x) = false) (nxa : (x != a) = false) (ly : decide (y < 1) = false) (gy : decide (16 ≤ y) = false) (nya : (y != a) = true) (nyb : (y != b) = true) (nyc : (y != c) = false) (asc : decide (y ≤ x) = false) (w : World) :
    Calls Try.prog 11 #[.agg #[.int .u8 op, .int .i64 a, .int .i64 b, .int .i64 c, .int .i64 m]] w fun e w' => e = .returned (.bool true) ∧ Below w.heap.size w w' := by
  have rd1 := fun W => reads_any op a b c m h0 h1 W
  rw [hL] at rd1
  have H1 := Lib.hid rd1
  have H3 := Lib.hid (fun W => writes_any op a b c m h0 h1 0 false hr hok W)
  have hr0 := fun W => valid_any op a b c m h0 h1 W
  rw [hv] at hr0
  have H2 := Lib.hid hr0
  clear rd1 hL hr hok hr0 hv
  go_enter Try.func11, Try.ntmps11
  go_wp2_with fail
  have XI0 := Lib.hid (IF.newAt (op) (a) (b) (c) (m) (w) (w.heap.size) (by simp))
  have BnI := Lib.hid (below_new (Below.refl w.heap.size w) (.cells #[.int .u8 (op), .int .i64 (a), .int .i64 (b), .int .i64 (c), .int .i64 (m)] 23))
  refine (awake_any _).mono ?_
  rintro e w1 ⟨rfl, hb1⟩
  have B1 := Lib.hid (below_next BnI.out hb1)
  have XI1 := Lib.hid (XI0.out.step hb1)
  clear hb1
  have XI1_lt := XI1.out.lt
  have XI1_i0 := XI1.out.i0
  have XI1_i1 := XI1.out.i1
  have XI1_i2 := XI1.out.i2
  have XI1_i3 := XI1.out.i3
  have XI1_i4 := XI1.out.i4
  go_wp2_with fail
  refine (H1.out _).mono ?_
  rintro e w2 ⟨vP, rfl, o2, hb2⟩
  have XP2 := Lib.hid o2
  clear o2
  have B2 := Lib.hid (below_next B1.out hb2)
  have XI2 := Lib.hid (XI1.out.step hb2)
  clear hb2
  have XI2_lt := XI2.out.lt
  have XI2_i0 := XI2.out.i0
  have XI2_i1 := XI2.out.i1
  have XI2_i2 := XI2.out.i2
  have XI2_i3 := XI2.out.i3
  have XI2_i4 := XI2.out.i4
  obtain ⟨gP, cP, rfl, _, hP⟩ := own_some XP2.out (by simp)
  have F2 := Lib.hid hP
  clear hP XP2
  go_wp2_with fail
  refine (H2.out _).mono ?_
  rintro e w3 ⟨rfl, hb3⟩
  have B3 := Lib.hid (below_next B2.out hb3)
  have XI3 := Lib.hid (XI2.out.step hb3)
  have XP3 := Lib.hid (F2.out.step hb3)
  clear hb3
  have XI3_lt := XI3.out.lt
  have XI3_i0 := XI3.out.i0
  have XI3_i1 := XI3.out.i1
  have XI3_i2 := XI3.out.i2
  have XI3_i3 := XI3.out.i3
  have XI3_i4 := XI3.out.i4
  have XP3_lt := XP3.out.lt
  have cx : w3.cell? ⟨gP, 0, none⟩ = some (.int .i64 x) := XP3.out.at_ 0 (by simp)
  have cy : w3.cell? ⟨gP, 1, none⟩ = some (.int .i64 y) := XP3.out.at_ 1 (by simp)
  go_wp2_with fail
  refine wp_loop_rounds 3 ?_
  rw [rounds_succ]
  go_wp2_with fail
  rw [rounds_succ]
  go_wp2_with fail
  rw [rounds_succ]
  go_wp2_with fail
  refine (H3.out _).mono ?_
  rintro e w4 ⟨rfl, hb4⟩
  have B4 := Lib.hid (below_next B3.out hb4)
  have XI4 := Lib.hid (XI3.out.step hb4)
  clear hb4
  have XI4_lt := XI4.out.lt
  have XI4_i0 := XI4.out.i0
  have XI4_i1 := XI4.out.i1
  have XI4_i2 := XI4.out.i2
  have XI4_i3 := XI4.out.i3
  have XI4_i4 := XI4.out.i4
  go_wp2_with fail
  go_ret
  exact ⟨rfl, B4.out⟩
set_option maxRecDepth 100000 in
set_option maxHeartbeats 4000000 in
theorem reg_xayc_11 (op a b c m : Int) (h0 : 0 ≤ op) (h1 : op ≤ 255) (x y : Int) (hL : readsV op a b c m = [x, y]) (hr : wrV op a b c m = a) (hok : wrOK op a b c m = true) (hv : validB op a b c m = true) (lx : decide (x < 1) = false) (gx : decide (16 ≤ x) = false) (nxa : (x != a) = false) (ly : decide (y < 1) = false) (gy : decide (16 ≤ y) = false) (nya : (y != a) = true) (nyb : (y != b) = true) (nyc : (y != c) = false) (asc : decide (y ≤ x) = false) (pos : decide (0 < a) = true) (w : World) :
    Calls Try.prog 11 #[.agg #[.int .u8 op, .int .i64 a, .int .i64 b, .int .i64 c, .int .i64 m]] w fun e w' => e = .returned (.bool true) ∧ Below w.heap.size w w' := by
  have rd1 := fun W => reads_any op a b c m h0 h1 W
  rw [hL] at rd1
  have H1 := Lib.hid rd1
  have H3 := Lib.hid (fun W => writes_any op a b c m h0 h1 a true hr hok W)
  have hr0 := fun W => valid_any op a b c m h0 h1 W
  rw [hv] at hr0
  have H2 := Lib.hid hr0
  clear rd1 hL hr hok hr0 hv
  go_enter Try.func11, Try.ntmps11
  go_wp2_with fail
  have XI0 := Lib.hid (IF.newAt (op) (a) (b) (c) (m) (w) (w.heap.size) (by simp))
  have BnI := Lib.hid (below_new (Below.refl w.heap.size w) (.cells #[.int .u8 (op), .int .i64 (a), .int .i64 (b), .int .i64 (c), .int .i64 (m)] 23))
  refine (awake_any _).mono ?_
  rintro e w1 ⟨rfl, hb1⟩
  have B1 := Lib.hid (below_next BnI.out hb1)
  have XI1 := Lib.hid (XI0.out.step hb1)
  clear hb1
  have XI1_lt := XI1.out.lt
  have XI1_i0 := XI1.out.i0
  have XI1_i1 := XI1.out.i1
  have XI1_i2 := XI1.out.i2
  have XI1_i3 := XI1.out.i3
  have XI1_i4 := XI1.out.i4
  go_wp2_with fail
  refine (H1.out _).mono ?_
  rintro e w2 ⟨vP, rfl, o2, hb2⟩
  have XP2 := Lib.hid o2
  clear o2
  have B2 := Lib.hid (below_next B1.out hb2)
  have XI2 := Lib.hid (XI1.out.step hb2)
  clear hb2
  have XI2_lt := XI2.out.lt
  have XI2_i0 := XI2.out.i0
  have XI2_i1 := XI2.out.i1
  have XI2_i2 := XI2.out.i2
  have XI2_i3 := XI2.out.i3
  have XI2_i4 := XI2.out.i4
  obtain ⟨gP, cP, rfl, _, hP⟩ := own_some XP2.out (by simp)
  have F2 := Lib.hid hP
  clear hP XP2
  go_wp2_with fail
  refine (H2.out _).mono ?_
  rintro e w3 ⟨rfl, hb3⟩
  have B3 := Lib.hid (below_next B2.out hb3)
  have XI3 := Lib.hid (XI2.out.step hb3)
  have XP3 := Lib.hid (F2.out.step hb3)
  clear hb3
  have XI3_lt := XI3.out.lt
  have XI3_i0 := XI3.out.i0
  have XI3_i1 := XI3.out.i1
  have XI3_i2 := XI3.out.i2
  have XI3_i3 := XI3.out.i3
  have XI3_i4 := XI3.out.i4
  have XP3_lt := XP3.out.lt
  have cx : w3.cell? ⟨gP, 0, none⟩ = some (.int .i64 x) := XP3.out.at_ 0 (by simp)
  have cy : w3.cell? ⟨gP, 1, none⟩ = some (.int .i64 y) := XP3.out.at_ 1 (by simp)
  go_wp2_with fail
  refine wp_loop_rounds 3 ?_
  rw [rounds_succ]
  go_wp2_with fail
  rw [rounds_succ]
  go_wp2_with fail
  rw [rounds_succ]
  go_wp2_with fail
  refine (H3.out _).mono ?_
  rintro e w4 ⟨rfl, hb4⟩
  have B4 := Lib.hid (below_next B3.out hb4)
  have XI4 := Lib.hid (XI3.out.step hb4)
  clear hb4
  have XI4_lt := XI4.out.lt
  have XI4_i0 := XI4.out.i0
  have XI4_i1 := XI4.out.i1
  have XI4_i2 := XI4.out.i2
  have XI4_i3 := XI4.out.i3
  have XI4_i4 := XI4.out.i4
  go_wp2_with fail
  refine (H2.out _).mono ?_
  rintro e w5 ⟨rfl, hb5⟩
  have B5 := Lib.hid (below_next B4.out hb5)
  have XI5 := Lib.hid (XI4.out.step hb5)
  clear hb5
  have XI5_lt := XI5.out.lt
  have XI5_i0 := XI5.out.i0
  have XI5_i1 := XI5.out.i1
  have XI5_i2 := XI5.out.i2
  have XI5_i3 := XI5.out.i3
  have XI5_i4 := XI5.out.i4
  go_wp2_with fail
  go_ret
  exact ⟨rfl, B5.out⟩
set_option maxRecDepth 100000 in
set_option maxHeartbeats 4000000 in
theorem reg_xbya_10 (op a b c m : Int) (h0 : 0 ≤ op) (h1 : op ≤ 255) (x y : Int) (hL : readsV op a b c m = [x, y]) (hr : wrV op a b c m = 0) (hok : wrOK op a b c m = false) (hv : validB op a b c m = true) (lx : decide (x < 1) = false) (gx : decide (16 ≤ x) = false) (nxa : (x != a) = true) (nxb : (x != b) = false) (ly : decide (y < 1) = false) (gy : decide (16 ≤ y) = false) (nya : (y != a) = false) (asc : decide (y ≤ x) = false) (w : World) :
    Calls Try.prog 11 #[.agg #[.int .u8 op, .int .i64 a, .int .i64 b, .int .i64 c, .int .i64 m]] w fun e w' => e = .returned (.bool true) ∧ Below w.heap.size w w' := by
  have rd1 := fun W => reads_any op a b c m h0 h1 W
  rw [hL] at rd1
  have H1 := Lib.hid rd1
  have H3 := Lib.hid (fun W => writes_any op a b c m h0 h1 0 false hr hok W)
  have hr0 := fun W => valid_any op a b c m h0 h1 W
  rw [hv] at hr0
  have H2 := Lib.hid hr0
  clear rd1 hL hr hok hr0 hv
  go_enter Try.func11, Try.ntmps11
  go_wp2_with fail
  have XI0 := Lib.hid (IF.newAt (op) (a) (b) (c) (m) (w) (w.heap.size) (by simp))
  have BnI := Lib.hid (below_new (Below.refl w.heap.size w) (.cells #[.int .u8 (op), .int .i64 (a), .int .i64 (b), .int .i64 (c), .int .i64 (m)] 23))
  refine (awake_any _).mono ?_
  rintro e w1 ⟨rfl, hb1⟩
  have B1 := Lib.hid (below_next BnI.out hb1)
  have XI1 := Lib.hid (XI0.out.step hb1)
  clear hb1
  have XI1_lt := XI1.out.lt
  have XI1_i0 := XI1.out.i0
  have XI1_i1 := XI1.out.i1
  have XI1_i2 := XI1.out.i2
  have XI1_i3 := XI1.out.i3
  have XI1_i4 := XI1.out.i4
  go_wp2_with fail
  refine (H1.out _).mono ?_
  rintro e w2 ⟨vP, rfl, o2, hb2⟩
  have XP2 := Lib.hid o2
  clear o2
  have B2 := Lib.hid (below_next B1.out hb2)
  have XI2 := Lib.hid (XI1.out.step hb2)
  clear hb2
  have XI2_lt := XI2.out.lt
  have XI2_i0 := XI2.out.i0
  have XI2_i1 := XI2.out.i1
  have XI2_i2 := XI2.out.i2
  have XI2_i3 := XI2.out.i3
  have XI2_i4 := XI2.out.i4
  obtain ⟨gP, cP, rfl, _, hP⟩ := own_some XP2.out (by simp)
  have F2 := Lib.hid hP
  clear hP XP2
  go_wp2_with fail
  refine (H2.out _).mono ?_
  rintro e w3 ⟨rfl, hb3⟩
  have B3 := Lib.hid (below_next B2.out hb3)
  have XI3 := Lib.hid (XI2.out.step hb3)
  have XP3 := Lib.hid (F2.out.step hb3)
  clear hb3
  have XI3_lt := XI3.out.lt
  have XI3_i0 := XI3.out.i0
  have XI3_i1 := XI3.out.i1
  have XI3_i2 := XI3.out.i2
  have XI3_i3 := XI3.out.i3
  have XI3_i4 := XI3.out.i4
  have XP3_lt := XP3.out.lt
  have cx : w3.cell? ⟨gP, 0, none⟩ = some (.int .i64 x) := XP3.out.at_ 0 (by simp)
  have cy : w3.cell? ⟨gP, 1, none⟩ = some (.int .i64 y) := XP3.out.at_ 1 (by simp)
  go_wp2_with fail
  refine wp_loop_rounds 3 ?_
  rw [rounds_succ]
  go_wp2_with fail
  rw [rounds_succ]
  go_wp2_with fail
  rw [rounds_succ]
  go_wp2_with fail
  refine (H3.out _).mono ?_
  rintro e w4 ⟨rfl, hb4⟩
  have B4 := Lib.hid (below_next B3.out hb4)
  have XI4 := Lib.hid (XI3.out.step hb4)
  clear hb4
  have XI4_lt := XI4.out.lt
  have XI4_i0 := XI4.out.i0
  have XI4_i1 := XI4.out.i1
  have XI4_i2 := XI4.out.i2
  have XI4_i3 := XI4.out.i3
  have XI4_i4 := XI4.out.i4
  go_wp2_with fail
  go_ret
  exact ⟨rfl, B4.out⟩
set_option maxRecDepth 100000 in
set_option maxHeartbeats 4000000 in
theorem reg_xbya_11 (op a b c m : Int) (h0 : 0 ≤ op) (h1 : op ≤ 255) (x y : Int) (hL : readsV op a b c m = [x, y]) (hr : wrV op a b c m = a) (hok : wrOK op a b c m = true) (hv : validB op a b c m = true) (lx : decide (x < 1) = false) (gx : decide (16 ≤ x) = false) (nxa : (x != a) = true) (nxb : (x != b) = false) (ly : decide (y < 1) = false) (gy : decide (16 ≤ y) = false) (nya : (y != a) = false) (asc : decide (y ≤ x) = false) (pos : decide (0 < a) = true) (w : World) :
    Calls Try.prog 11 #[.agg #[.int .u8 op, .int .i64 a, .int .i64 b, .int .i64 c, .int .i64 m]] w fun e w' => e = .returned (.bool true) ∧ Below w.heap.size w w' := by
  have rd1 := fun W => reads_any op a b c m h0 h1 W
  rw [hL] at rd1
  have H1 := Lib.hid rd1
  have H3 := Lib.hid (fun W => writes_any op a b c m h0 h1 a true hr hok W)
  have hr0 := fun W => valid_any op a b c m h0 h1 W
  rw [hv] at hr0
  have H2 := Lib.hid hr0
  clear rd1 hL hr hok hr0 hv
  go_enter Try.func11, Try.ntmps11
  go_wp2_with fail
  have XI0 := Lib.hid (IF.newAt (op) (a) (b) (c) (m) (w) (w.heap.size) (by simp))
  have BnI := Lib.hid (below_new (Below.refl w.heap.size w) (.cells #[.int .u8 (op), .int .i64 (a), .int .i64 (b), .int .i64 (c), .int .i64 (m)] 23))
  refine (awake_any _).mono ?_
  rintro e w1 ⟨rfl, hb1⟩
  have B1 := Lib.hid (below_next BnI.out hb1)
  have XI1 := Lib.hid (XI0.out.step hb1)
  clear hb1
  have XI1_lt := XI1.out.lt
  have XI1_i0 := XI1.out.i0
  have XI1_i1 := XI1.out.i1
  have XI1_i2 := XI1.out.i2
  have XI1_i3 := XI1.out.i3
  have XI1_i4 := XI1.out.i4
  go_wp2_with fail
  refine (H1.out _).mono ?_
  rintro e w2 ⟨vP, rfl, o2, hb2⟩
  have XP2 := Lib.hid o2
  clear o2
  have B2 := Lib.hid (below_next B1.out hb2)
  have XI2 := Lib.hid (XI1.out.step hb2)
  clear hb2
  have XI2_lt := XI2.out.lt
  have XI2_i0 := XI2.out.i0
  have XI2_i1 := XI2.out.i1
  have XI2_i2 := XI2.out.i2
  have XI2_i3 := XI2.out.i3
  have XI2_i4 := XI2.out.i4
  obtain ⟨gP, cP, rfl, _, hP⟩ := own_some XP2.out (by simp)
  have F2 := Lib.hid hP
  clear hP XP2
  go_wp2_with fail
  refine (H2.out _).mono ?_
  rintro e w3 ⟨rfl, hb3⟩
  have B3 := Lib.hid (below_next B2.out hb3)
  have XI3 := Lib.hid (XI2.out.step hb3)
  have XP3 := Lib.hid (F2.out.step hb3)
  clear hb3
  have XI3_lt := XI3.out.lt
  have XI3_i0 := XI3.out.i0
  have XI3_i1 := XI3.out.i1
  have XI3_i2 := XI3.out.i2
  have XI3_i3 := XI3.out.i3
  have XI3_i4 := XI3.out.i4
  have XP3_lt := XP3.out.lt
  have cx : w3.cell? ⟨gP, 0, none⟩ = some (.int .i64 x) := XP3.out.at_ 0 (by simp)
  have cy : w3.cell? ⟨gP, 1, none⟩ = some (.int .i64 y) := XP3.out.at_ 1 (by simp)
  go_wp2_with fail
  refine wp_loop_rounds 3 ?_
  rw [rounds_succ]
  go_wp2_with fail
  rw [rounds_succ]
  go_wp2_with fail
  rw [rounds_succ]
  go_wp2_with fail
  refine (H3.out _).mono ?_
  rintro e w4 ⟨rfl, hb4⟩
  have B4 := Lib.hid (below_next B3.out hb4)
  have XI4 := Lib.hid (XI3.out.step hb4)
  clear hb4
  have XI4_lt := XI4.out.lt
  have XI4_i0 := XI4.out.i0
  have XI4_i1 := XI4.out.i1
  have XI4_i2 := XI4.out.i2
  have XI4_i3 := XI4.out.i3
  have XI4_i4 := XI4.out.i4
  go_wp2_with fail
  refine (H2.out _).mono ?_
  rintro e w5 ⟨rfl, hb5⟩
  have B5 := Lib.hid (below_next B4.out hb5)
  have XI5 := Lib.hid (XI4.out.step hb5)
  clear hb5
  have XI5_lt := XI5.out.lt
  have XI5_i0 := XI5.out.i0
  have XI5_i1 := XI5.out.i1
  have XI5_i2 := XI5.out.i2
  have XI5_i3 := XI5.out.i3
  have XI5_i4 := XI5.out.i4
  go_wp2_with fail
  go_ret
  exact ⟨rfl, B5.out⟩
set_option maxRecDepth 100000 in
set_option maxHeartbeats 4000000 in
theorem reg_xbyb_10 (op a b c m : Int) (h0 : 0 ≤ op) (h1 : op ≤ 255) (x y : Int) (hL : readsV op a b c m = [x, y]) (hr : wrV op a b c m = 0) (hok : wrOK op a b c m = false) (hv : validB op a b c m = true) (lx : decide (x < 1) = false) (gx : decide (16 ≤ x) = false) (nxa : (x != a) = true) (nxb : (x != b) = false) (ly : decide (y < 1) = false) (gy : decide (16 ≤ y) = false) (nya : (y != a) = true) (nyb : (y != b) = false) (asc : decide (y ≤ x) = false) (w : World) :
    Calls Try.prog 11 #[.agg #[.int .u8 op, .int .i64 a, .int .i64 b, .int .i64 c, .int .i64 m]] w fun e w' => e = .returned (.bool true) ∧ Below w.heap.size w w' := by
  have rd1 := fun W => reads_any op a b c m h0 h1 W
  rw [hL] at rd1
  have H1 := Lib.hid rd1
  have H3 := Lib.hid (fun W => writes_any op a b c m h0 h1 0 false hr hok W)
  have hr0 := fun W => valid_any op a b c m h0 h1 W
  rw [hv] at hr0
  have H2 := Lib.hid hr0
  clear rd1 hL hr hok hr0 hv
  go_enter Try.func11, Try.ntmps11
  go_wp2_with fail
  have XI0 := Lib.hid (IF.newAt (op) (a) (b) (c) (m) (w) (w.heap.size) (by simp))
  have BnI := Lib.hid (below_new (Below.refl w.heap.size w) (.cells #[.int .u8 (op), .int .i64 (a), .int .i64 (b), .int .i64 (c), .int .i64 (m)] 23))
  refine (awake_any _).mono ?_
  rintro e w1 ⟨rfl, hb1⟩
  have B1 := Lib.hid (below_next BnI.out hb1)
  have XI1 := Lib.hid (XI0.out.step hb1)
  clear hb1
  have XI1_lt := XI1.out.lt
  have XI1_i0 := XI1.out.i0
  have XI1_i1 := XI1.out.i1
  have XI1_i2 := XI1.out.i2
  have XI1_i3 := XI1.out.i3
  have XI1_i4 := XI1.out.i4
  go_wp2_with fail
  refine (H1.out _).mono ?_
  rintro e w2 ⟨vP, rfl, o2, hb2⟩
  have XP2 := Lib.hid o2
  clear o2
  have B2 := Lib.hid (below_next B1.out hb2)
  have XI2 := Lib.hid (XI1.out.step hb2)
  clear hb2
  have XI2_lt := XI2.out.lt
  have XI2_i0 := XI2.out.i0
  have XI2_i1 := XI2.out.i1
  have XI2_i2 := XI2.out.i2
  have XI2_i3 := XI2.out.i3
  have XI2_i4 := XI2.out.i4
  obtain ⟨gP, cP, rfl, _, hP⟩ := own_some XP2.out (by simp)
  have F2 := Lib.hid hP
  clear hP XP2
  go_wp2_with fail
  refine (H2.out _).mono ?_
  rintro e w3 ⟨rfl, hb3⟩
  have B3 := Lib.hid (below_next B2.out hb3)
  have XI3 := Lib.hid (XI2.out.step hb3)
  have XP3 := Lib.hid (F2.out.step hb3)
  clear hb3
  have XI3_lt := XI3.out.lt
  have XI3_i0 := XI3.out.i0
  have XI3_i1 := XI3.out.i1
  have XI3_i2 := XI3.out.i2
  have XI3_i3 := XI3.out.i3
  have XI3_i4 := XI3.out.i4
  have XP3_lt := XP3.out.lt
  have cx : w3.cell? ⟨gP, 0, none⟩ = some (.int .i64 x) := XP3.out.at_ 0 (by simp)
  have cy : w3.cell? ⟨gP, 1, none⟩ = some (.int .i64 y) := XP3.out.at_ 1 (by simp)
  go_wp2_with fail
  refine wp_loop_rounds 3 ?_
  rw [rounds_succ]
  go_wp2_with fail
  rw [rounds_succ]
  go_wp2_with fail
  rw [rounds_succ]
  go_wp2_with fail
  refine (H3.out _).mono ?_
  rintro e w4 ⟨rfl, hb4⟩
  have B4 := Lib.hid (below_next B3.out hb4)
  have XI4 := Lib.hid (XI3.out.step hb4)
  clear hb4
  have XI4_lt := XI4.out.lt
  have XI4_i0 := XI4.out.i0
  have XI4_i1 := XI4.out.i1
  have XI4_i2 := XI4.out.i2
  have XI4_i3 := XI4.out.i3
  have XI4_i4 := XI4.out.i4
  go_wp2_with fail
  go_ret
  exact ⟨rfl, B4.out⟩
set_option maxRecDepth 100000 in
set_option maxHeartbeats 4000000 in
theorem reg_xbyb_11 (op a b c m : Int) (h0 : 0 ≤ op) (h1 : op ≤ 255) (x y : Int) (hL : readsV op a b c m = [x, y]) (hr : wrV op a b c m = a) (hok : wrOK op a b c m = true) (hv : validB op a b c m = true) (lx : decide (x < 1) = false) (gx : decide (16 ≤ x) = false) (nxa : (x != a) = true) (nxb : (x != b) = false) (ly : decide (y < 1) = false) (gy : decide (16 ≤ y) = false) (nya : (y != a) = true) (nyb : (y != b) = false) (asc : decide (y ≤ x) = false) (pos : decide (0 < a) = true) (w : World) :
    Calls Try.prog 11 #[.agg #[.int .u8 op, .int .i64 a, .int .i64 b, .int .i64 c, .int .i64 m]] w fun e w' => e = .returned (.bool true) ∧ Below w.heap.size w w' := by
  have rd1 := fun W => reads_any op a b c m h0 h1 W
  rw [hL] at rd1
  have H1 := Lib.hid rd1
  have H3 := Lib.hid (fun W => writes_any op a b c m h0 h1 a true hr hok W)
  have hr0 := fun W => valid_any op a b c m h0 h1 W
  rw [hv] at hr0
  have H2 := Lib.hid hr0
  clear rd1 hL hr hok hr0 hv
  go_enter Try.func11, Try.ntmps11
  go_wp2_with fail
  have XI0 := Lib.hid (IF.newAt (op) (a) (b) (c) (m) (w) (w.heap.size) (by simp))
  have BnI := Lib.hid (below_new (Below.refl w.heap.size w) (.cells #[.int .u8 (op), .int .i64 (a), .int .i64 (b), .int .i64 (c), .int .i64 (m)] 23))
  refine (awake_any _).mono ?_
  rintro e w1 ⟨rfl, hb1⟩
  have B1 := Lib.hid (below_next BnI.out hb1)
  have XI1 := Lib.hid (XI0.out.step hb1)
  clear hb1
  have XI1_lt := XI1.out.lt
  have XI1_i0 := XI1.out.i0
  have XI1_i1 := XI1.out.i1
  have XI1_i2 := XI1.out.i2
  have XI1_i3 := XI1.out.i3
  have XI1_i4 := XI1.out.i4
  go_wp2_with fail
  refine (H1.out _).mono ?_
  rintro e w2 ⟨vP, rfl, o2, hb2⟩
  have XP2 := Lib.hid o2
  clear o2
  have B2 := Lib.hid (below_next B1.out hb2)
  have XI2 := Lib.hid (XI1.out.step hb2)
  clear hb2
  have XI2_lt := XI2.out.lt
  have XI2_i0 := XI2.out.i0
  have XI2_i1 := XI2.out.i1
  have XI2_i2 := XI2.out.i2
  have XI2_i3 := XI2.out.i3
  have XI2_i4 := XI2.out.i4
  obtain ⟨gP, cP, rfl, _, hP⟩ := own_some XP2.out (by simp)
  have F2 := Lib.hid hP
  clear hP XP2
  go_wp2_with fail
  refine (H2.out _).mono ?_
  rintro e w3 ⟨rfl, hb3⟩
  have B3 := Lib.hid (below_next B2.out hb3)
  have XI3 := Lib.hid (XI2.out.step hb3)
  have XP3 := Lib.hid (F2.out.step hb3)
  clear hb3
  have XI3_lt := XI3.out.lt
  have XI3_i0 := XI3.out.i0
  have XI3_i1 := XI3.out.i1
  have XI3_i2 := XI3.out.i2
  have XI3_i3 := XI3.out.i3
  have XI3_i4 := XI3.out.i4
  have XP3_lt := XP3.out.lt
  have cx : w3.cell? ⟨gP, 0, none⟩ = some (.int .i64 x) := XP3.out.at_ 0 (by simp)
  have cy : w3.cell? ⟨gP, 1, none⟩ = some (.int .i64 y) := XP3.out.at_ 1 (by simp)
  go_wp2_with fail
  refine wp_loop_rounds 3 ?_
  rw [rounds_succ]
  go_wp2_with fail
  rw [rounds_succ]
  go_wp2_with fail
  rw [rounds_succ]
  go_wp2_with fail
  refine (H3.out _).mono ?_
  rintro e w4 ⟨rfl, hb4⟩
  have B4 := Lib.hid (below_next B3.out hb4)
  have XI4 := Lib.hid (XI3.out.step hb4)
  clear hb4
  have XI4_lt := XI4.out.lt
  have XI4_i0 := XI4.out.i0
  have XI4_i1 := XI4.out.i1
  have XI4_i2 := XI4.out.i2
  have XI4_i3 := XI4.out.i3
  have XI4_i4 := XI4.out.i4
  go_wp2_with fail
  refine (H2.out _).mono ?_
  rintro e w5 ⟨rfl, hb5⟩
  have B5 := Lib.hid (below_next B4.out hb5)
  have XI5 := Lib.hid (XI4.out.step hb5)
  clear hb5
  have XI5_lt := XI5.out.lt
  have XI5_i0 := XI5.out.i0
  have XI5_i1 := XI5.out.i1
  have XI5_i2 := XI5.out.i2
  have XI5_i3 := XI5.out.i3
  have XI5_i4 := XI5.out.i4
  go_wp2_with fail
  go_ret
  exact ⟨rfl, B5.out⟩
set_option maxRecDepth 100000 in
set_option maxHeartbeats 4000000 in
theorem reg_xbyc_10 (op a b c m : Int) (h0 : 0 ≤ op) (h1 : op ≤ 255) (x y : Int) (hL : readsV op a b c m = [x, y]) (hr : wrV op a b c m = 0) (hok : wrOK op a b c m = false) (hv : validB op a b c m = true) (lx : decide (x < 1) = false) (gx : decide (16 ≤ x) = false) (nxa : (x != a) = true) (nxb : (x != b) = false) (ly : decide (y < 1) = false) (gy : decide (16 ≤ y) = false) (nya : (y != a) = true) (nyb : (y != b) = true) (nyc : (y != c) = false) (asc : decide (y ≤ x) = false) (w : World) :
    Calls Try.prog 11 #[.agg #[.int .u8 op, .int .i64 a, .int .i64 b, .int .i64 c, .int .i64 m]] w fun e w' => e = .returned (.bool true) ∧ Below w.heap.size w w' := by
  have rd1 := fun W => reads_any op a b c m h0 h1 W
  rw [hL] at rd1
  have H1 := Lib.hid rd1
  have H3 := Lib.hid (fun W => writes_any op a b c m h0 h1 0 false hr hok W)
  have hr0 := fun W => valid_any op a b c m h0 h1 W
  rw [hv] at hr0
  have H2 := Lib.hid hr0
  clear rd1 hL hr hok hr0 hv
  go_enter Try.func11, Try.ntmps11
  go_wp2_with fail
  have XI0 := Lib.hid (IF.newAt (op) (a) (b) (c) (m) (w) (w.heap.size) (by simp))
  have BnI := Lib.hid (below_new (Below.refl w.heap.size w) (.cells #[.int .u8 (op), .int .i64 (a), .int .i64 (b), .int .i64 (c), .int .i64 (m)] 23))
  refine (awake_any _).mono ?_
  rintro e w1 ⟨rfl, hb1⟩
  have B1 := Lib.hid (below_next BnI.out hb1)
  have XI1 := Lib.hid (XI0.out.step hb1)
  clear hb1
  have XI1_lt := XI1.out.lt
  have XI1_i0 := XI1.out.i0
  have XI1_i1 := XI1.out.i1
  have XI1_i2 := XI1.out.i2
  have XI1_i3 := XI1.out.i3
  have XI1_i4 := XI1.out.i4
  go_wp2_with fail
  refine (H1.out _).mono ?_
  rintro e w2 ⟨vP, rfl, o2, hb2⟩
  have XP2 := Lib.hid o2
  clear o2
  have B2 := Lib.hid (below_next B1.out hb2)
  have XI2 := Lib.hid (XI1.out.step hb2)
  clear hb2
  have XI2_lt := XI2.out.lt
  have XI2_i0 := XI2.out.i0
  have XI2_i1 := XI2.out.i1
  have XI2_i2 := XI2.out.i2
  have XI2_i3 := XI2.out.i3
  have XI2_i4 := XI2.out.i4
  obtain ⟨gP, cP, rfl, _, hP⟩ := own_some XP2.out (by simp)
  have F2 := Lib.hid hP
  clear hP XP2
  go_wp2_with fail
  refine (H2.out _).mono ?_
  rintro e w3 ⟨rfl, hb3⟩
  have B3 := Lib.hid (below_next B2.out hb3)
  have XI3 := Lib.hid (XI2.out.step hb3)
  have XP3 := Lib.hid (F2.out.step hb3)
  clear hb3
  have XI3_lt := XI3.out.lt
  have XI3_i0 := XI3.out.i0
  have XI3_i1 := XI3.out.i1
  have XI3_i2 := XI3.out.i2
  have XI3_i3 := XI3.out.i3
  have XI3_i4 := XI3.out.i4
  have XP3_lt := XP3.out.lt
  have cx : w3.cell? ⟨gP, 0, none⟩ = some (.int .i64 x) := XP3.out.at_ 0 (by simp)
  have cy : w3.cell? ⟨gP, 1, none⟩ = some (.int .i64 y) := XP3.out.at_ 1 (by simp)
  go_wp2_with fail
  refine wp_loop_rounds 3 ?_
  rw [rounds_succ]
  go_wp2_with fail
  rw [rounds_succ]
  go_wp2_with fail
  rw [rounds_succ]
  go_wp2_with fail
  refine (H3.out _).mono ?_
  rintro e w4 ⟨rfl, hb4⟩
  have B4 := Lib.hid (below_next B3.out hb4)
  have XI4 := Lib.hid (XI3.out.step hb4)
  clear hb4
  have XI4_lt := XI4.out.lt
  have XI4_i0 := XI4.out.i0
  have XI4_i1 := XI4.out.i1
  have XI4_i2 := XI4.out.i2
  have XI4_i3 := XI4.out.i3
  have XI4_i4 := XI4.out.i4
  go_wp2_with fail
  go_ret
  exact ⟨rfl, B4.out⟩
set_option maxRecDepth 100000 in
set_option maxHeartbeats 4000000 in
theorem reg_xbyc_11 (op a b c m : Int) (h0 : 0 ≤ op) (h1 : op ≤ 255) (x y : Int) (hL : readsV op a b c m = [x, y]) (hr : wrV op a b c m = a) (hok : wrOK op a b c m = true) (hv : validB op a b c m = true) (lx : decide (x < 1) = false) (gx : decide (16 ≤ x) = false) (nxa : (x != a) = true) (nxb : (x != b) = false) (ly : decide (y < 1) = false) (gy : decide (16 ≤ y) = false) (nya : (y != a) = true) (nyb : (y != b) = true) (nyc : (y != c) = false) (asc : decide (y ≤ x) = false) (pos : decide (0 < a) = true) (w : World) :
    Calls Try.prog 11 #[.agg #[.int .u8 op, .int .i64 a, .int .i64 b, .int .i64 c, .int .i64 m]] w fun e w' => e = .returned (.bool true) ∧ Below w.heap.size w w' := by
  have rd1 := fun W => reads_any op a b c m h0 h1 W
  rw [hL] at rd1
  have H1 := Lib.hid rd1
  have H3 := Lib.hid (fun W => writes_any op a b c m h0 h1 a true hr hok W)
  have hr0 := fun W => valid_any op a b c m h0 h1 W
  rw [hv] at hr0
  have H2 := Lib.hid hr0
  clear rd1 hL hr hok hr0 hv
  go_enter Try.func11, Try.ntmps11
  go_wp2_with fail
  have XI0 := Lib.hid (IF.newAt (op) (a) (b) (c) (m) (w) (w.heap.size) (by simp))
  have BnI := Lib.hid (below_new (Below.refl w.heap.size w) (.cells #[.int .u8 (op), .int .i64 (a), .int .i64 (b), .int .i64 (c), .int .i64 (m)] 23))
  refine (awake_any _).mono ?_
  rintro e w1 ⟨rfl, hb1⟩
  have B1 := Lib.hid (below_next BnI.out hb1)
  have XI1 := Lib.hid (XI0.out.step hb1)
  clear hb1
  have XI1_lt := XI1.out.lt
  have XI1_i0 := XI1.out.i0
  have XI1_i1 := XI1.out.i1
  have XI1_i2 := XI1.out.i2
  have XI1_i3 := XI1.out.i3
  have XI1_i4 := XI1.out.i4
  go_wp2_with fail
  refine (H1.out _).mono ?_
  rintro e w2 ⟨vP, rfl, o2, hb2⟩
  have XP2 := Lib.hid o2
  clear o2
  have B2 := Lib.hid (below_next B1.out hb2)
  have XI2 := Lib.hid (XI1.out.step hb2)
  clear hb2
  have XI2_lt := XI2.out.lt
  have XI2_i0 := XI2.out.i0
  have XI2_i1 := XI2.out.i1
  have XI2_i2 := XI2.out.i2
  have XI2_i3 := XI2.out.i3
  have XI2_i4 := XI2.out.i4
  obtain ⟨gP, cP, rfl, _, hP⟩ := own_some XP2.out (by simp)
  have F2 := Lib.hid hP
  clear hP XP2
  go_wp2_with fail
  refine (H2.out _).mono ?_
  rintro e w3 ⟨rfl, hb3⟩
  have B3 := Lib.hid (below_next B2.out hb3)
  have XI3 := Lib.hid (XI2.out.step hb3)
  have XP3 := Lib.hid (F2.out.step hb3)
  clear hb3
  have XI3_lt := XI3.out.lt
  have XI3_i0 := XI3.out.i0
  have XI3_i1 := XI3.out.i1
  have XI3_i2 := XI3.out.i2
  have XI3_i3 := XI3.out.i3
  have XI3_i4 := XI3.out.i4
  have XP3_lt := XP3.out.lt
  have cx : w3.cell? ⟨gP, 0, none⟩ = some (.int .i64 x) := XP3.out.at_ 0 (by simp)
  have cy : w3.cell? ⟨gP, 1, none⟩ = some (.int .i64 y) := XP3.out.at_ 1 (by simp)
  go_wp2_with fail
  refine wp_loop_rounds 3 ?_
  rw [rounds_succ]
  go_wp2_with fail
  rw [rounds_succ]
  go_wp2_with fail
  rw [rounds_succ]
  go_wp2_with fail
  refine (H3.out _).mono ?_
  rintro e w4 ⟨rfl, hb4⟩
  have B4 := Lib.hid (below_next B3.out hb4)
  have XI4 := Lib.hid (XI3.out.step hb4)
  clear hb4
  have XI4_lt := XI4.out.lt
  have XI4_i0 := XI4.out.i0
  have XI4_i1 := XI4.out.i1
  have XI4_i2 := XI4.out.i2
  have XI4_i3 := XI4.out.i3
  have XI4_i4 := XI4.out.i4
  go_wp2_with fail
  refine (H2.out _).mono ?_
  rintro e w5 ⟨rfl, hb5⟩
  have B5 := Lib.hid (below_next B4.out hb5)
  have XI5 := Lib.hid (XI4.out.step hb5)
  clear hb5
  have XI5_lt := XI5.out.lt
  have XI5_i0 := XI5.out.i0
  have XI5_i1 := XI5.out.i1
  have XI5_i2 := XI5.out.i2
  have XI5_i3 := XI5.out.i3
  have XI5_i4 := XI5.out.i4
  go_wp2_with fail
  go_ret
  exact ⟨rfl, B5.out⟩
set_option maxRecDepth 100000 in
set_option maxHeartbeats 4000000 in
theorem reg_xcya_10 (op a b c m : Int) (h0 : 0 ≤ op) (h1 : op ≤ 255) (x y : Int) (hL : readsV op a b c m = [x, y]) (hr : wrV op a b c m = 0) (hok : wrOK op a b c m = false) (hv : validB op a b c m = true) (lx : decide (x < 1) = false) (gx : decide (16 ≤ x) = false) (nxa : (x != a) = true) (nxb : (x != b) = true) (nxc : (x != c) = false) (ly : decide (y < 1) = false) (gy : decide (16 ≤ y) = false) (nya : (y != a) = false) (asc : decide (y ≤ x) = false) (w : World) :
    Calls Try.prog 11 #[.agg #[.int .u8 op, .int .i64 a, .int .i64 b, .int .i64 c, .int .i64 m]] w fun e w' => e = .returned (.bool true) ∧ Below w.heap.size w w' := by
  have rd1 := fun W => reads_any op a b c m h0 h1 W
  rw [hL] at rd1
  have H1 := Lib.hid rd1
  have H3 := Lib.hid (fun W => writes_any op a b c m h0 h1 0 false hr hok W)
  have hr0 := fun W => valid_any op a b c m h0 h1 W
  rw [hv] at hr0
  have H2 := Lib.hid hr0
  clear rd1 hL hr hok hr0 hv
  go_enter Try.func11, Try.ntmps11
  go_wp2_with fail
  have XI0 := Lib.hid (IF.newAt (op) (a) (b) (c) (m) (w) (w.heap.size) (by simp))
  have BnI := Lib.hid (below_new (Below.refl w.heap.size w) (.cells #[.int .u8 (op), .int .i64 (a), .int .i64 (b), .int .i64 (c), .int .i64 (m)] 23))
  refine (awake_any _).mono ?_
  rintro e w1 ⟨rfl, hb1⟩
  have B1 := Lib.hid (below_next BnI.out hb1)
  have XI1 := Lib.hid (XI0.out.step hb1)
  clear hb1
  have XI1_lt := XI1.out.lt
  have XI1_i0 := XI1.out.i0
  have XI1_i1 := XI1.out.i1
  have XI1_i2 := XI1.out.i2
  have XI1_i3 := XI1.out.i3
  have XI1_i4 := XI1.out.i4
  go_wp2_with fail
  refine (H1.out _).mono ?_
  rintro e w2 ⟨vP, rfl, o2, hb2⟩
  have XP2 := Lib.hid o2
  clear o2
  have B2 := Lib.hid (below_next B1.out hb2)
  have XI2 := Lib.hid (XI1.out.step hb2)
  clear hb2
  have XI2_lt := XI2.out.lt
  have XI2_i0 := XI2.out.i0
  have XI2_i1 := XI2.out.i1
  have XI2_i2 := XI2.out.i2
  have XI2_i3 := XI2.out.i3
  have XI2_i4 := XI2.out.i4
  obtain ⟨gP, cP, rfl, _, hP⟩ := own_some XP2.out (by simp)
  have F2 := Lib.hid hP
  clear hP XP2
  go_wp2_with fail
  refine (H2.out _).mono ?_
  rintro e w3 ⟨rfl, hb3⟩
  have B3 := Lib.hid (below_next B2.out hb3)
  have XI3 := Lib.hid (XI2.out.step hb3)
  have XP3 := Lib.hid (F2.out.step hb3)
  clear hb3
  have XI3_lt := XI3.out.lt
  have XI3_i0 := XI3.out.i0
  have XI3_i1 := XI3.out.i1
  have XI3_i2 := XI3.out.i2
  have XI3_i3 := XI3.out.i3
  have XI3_i4 := XI3.out.i4
  have XP3_lt := XP3.out.lt
  have cx : w3.cell? ⟨gP, 0, none⟩ = some (.int .i64 x) := XP3.out.at_ 0 (by simp)
  have cy : w3.cell? ⟨gP, 1, none⟩ = some (.int .i64 y) := XP3.out.at_ 1 (by simp)
  go_wp2_with fail
  refine wp_loop_rounds 3 ?_
  rw [rounds_succ]
  go_wp2_with fail
  rw [rounds_succ]
  go_wp2_with fail
  rw [rounds_succ]
  go_wp2_with fail
  refine (H3.out _).mono ?_
  rintro e w4 ⟨rfl, hb4⟩
  have B4 := Lib.hid (below_next B3.out hb4)
  have XI4 := Lib.hid (XI3.out.step hb4)
  clear hb4
  have XI4_lt := XI4.out.lt
  have XI4_i0 := XI4.out.i0
  have XI4_i1 := XI4.out.i1
  have XI4_i2 := XI4.out.i2
  have XI4_i3 := XI4.out.i3
  have XI4_i4 := XI4.out.i4
  go_wp2_with fail
  go_ret
  exact ⟨rfl, B4.out⟩
set_option maxRecDepth 100000 in
set_option maxHeartbeats 4000000 in
theorem reg_xcya_11 (op a b c m : Int) (h0 : 0 ≤ op) (h1 : op ≤ 255) (x y : Int) (hL : readsV op a b c m = [x, y]) (hr : wrV op a b c m = a) (hok : wrOK op a b c m = true) (hv : validB op a b c m = true) (lx : decide (x < 1) = false) (gx : decide (16 ≤ x) = false) (nxa : (x != a) = true) (nxb : (x != b) = true) (nxc : (x != c) = false) (ly : decide (y < 1) = false) (gy : decide (16 ≤ y) = false) (nya : (y != a) = false) (asc : decide (y ≤ x) = false) (pos : decide (0 < a) = true) (w : World) :
    Calls Try.prog 11 #[.agg #[.int .u8 op, .int .i64 a, .int .i64 b, .int .i64 c, .int .i64 m]] w fun e w' => e = .returned (.bool true) ∧ Below w.heap.size w w' := by
  have rd1 := fun W => reads_any op a b c m h0 h1 W
  rw [hL] at rd1
  have H1 := Lib.hid rd1
  have H3 := Lib.hid (fun W => writes_any op a b c m h0 h1 a true hr hok W)
  have hr0 := fun W => valid_any op a b c m h0 h1 W
  rw [hv] at hr0
  have H2 := Lib.hid hr0
  clear rd1 hL hr hok hr0 hv
  go_enter Try.func11, Try.ntmps11
  go_wp2_with fail
  have XI0 := Lib.hid (IF.newAt (op) (a) (b) (c) (m) (w) (w.heap.size) (by simp))
  have BnI := Lib.hid (below_new (Below.refl w.heap.size w) (.cells #[.int .u8 (op), .int .i64 (a), .int .i64 (b), .int .i64 (c), .int .i64 (m)] 23))
  refine (awake_any _).mono ?_
  rintro e w1 ⟨rfl, hb1⟩
  have B1 := Lib.hid (below_next BnI.out hb1)
  have XI1 := Lib.hid (XI0.out.step hb1)
  clear hb1
  have XI1_lt := XI1.out.lt
  have XI1_i0 := XI1.out.i0
  have XI1_i1 := XI1.out.i1
  have XI1_i2 := XI1.out.i2
  have XI1_i3 := XI1.out.i3
  have XI1_i4 := XI1.out.i4
  go_wp2_with fail
  refine (H1.out _).mono ?_
  rintro e w2 ⟨vP, rfl, o2, hb2⟩
  have XP2 := Lib.hid o2
  clear o2
  have B2 := Lib.hid (below_next B1.out hb2)
  have XI2 := Lib.hid (XI1.out.step hb2)
  clear hb2
  have XI2_lt := XI2.out.lt
  have XI2_i0 := XI2.out.i0
  have XI2_i1 := XI2.out.i1
  have XI2_i2 := XI2.out.i2
  have XI2_i3 := XI2.out.i3
  have XI2_i4 := XI2.out.i4
  obtain ⟨gP, cP, rfl, _, hP⟩ := own_some XP2.out (by simp)
  have F2 := Lib.hid hP
  clear hP XP2
  go_wp2_with fail
  refine (H2.out _).mono ?_
  rintro e w3 ⟨rfl, hb3⟩
  have B3 := Lib.hid (below_next B2.out hb3)
  have XI3 := Lib.hid (XI2.out.step hb3)
  have XP3 := Lib.hid (F2.out.step hb3)
  clear hb3
  have XI3_lt := XI3.out.lt
  have XI3_i0 := XI3.out.i0
  have XI3_i1 := XI3.out.i1
  have XI3_i2 := XI3.out.i2
  have XI3_i3 := XI3.out.i3
  have XI3_i4 := XI3.out.i4
  have XP3_lt := XP3.out.lt
  have cx : w3.cell? ⟨gP, 0, none⟩ = some (.int .i64 x) := XP3.out.at_ 0 (by simp)
  have cy : w3.cell? ⟨gP, 1, none⟩ = some (.int .i64 y) := XP3.out.at_ 1 (by simp)
  go_wp2_with fail
  refine wp_loop_rounds 3 ?_
  rw [rounds_succ]
  go_wp2_with fail
  rw [rounds_succ]
  go_wp2_with fail
  rw [rounds_succ]
  go_wp2_with fail
  refine (H3.out _).mono ?_
  rintro e w4 ⟨rfl, hb4⟩
  have B4 := Lib.hid (below_next B3.out hb4)
  have XI4 := Lib.hid (XI3.out.step hb4)
  clear hb4
  have XI4_lt := XI4.out.lt
  have XI4_i0 := XI4.out.i0
  have XI4_i1 := XI4.out.i1
  have XI4_i2 := XI4.out.i2
  have XI4_i3 := XI4.out.i3
  have XI4_i4 := XI4.out.i4
  go_wp2_with fail
  refine (H2.out _).mono ?_
  rintro e w5 ⟨rfl, hb5⟩
  have B5 := Lib.hid (below_next B4.out hb5)
  have XI5 := Lib.hid (XI4.out.step hb5)
  clear hb5
  have XI5_lt := XI5.out.lt
  have XI5_i0 := XI5.out.i0
  have XI5_i1 := XI5.out.i1
  have XI5_i2 := XI5.out.i2
  have XI5_i3 := XI5.out.i3
  have XI5_i4 := XI5.out.i4
  go_wp2_with fail
  go_ret
  exact ⟨rfl, B5.out⟩
set_option maxRecDepth 100000 in
set_option maxHeartbeats 4000000 in
theorem reg_xcyb_10 (op a b c m : Int) (h0 : 0 ≤ op) (h1 : op ≤ 255) (x y : Int) (hL : readsV op a b c m = [x, y]) (hr : wrV op a b c m = 0) (hok : wrOK op a b c m = false) (hv : validB op a b c m = true) (lx : decide (x < 1) = false) (gx : decide (16 ≤ x) = false) (nxa : (x != a) = true) (nxb : (x != b) = true) (nxc : (x != c) = false) (ly : decide (y < 1) = false) (gy : decide (16 ≤ y) = false) (nya : (y != a) = true) (nyb : (y != b) = false) (asc : decide (y ≤ x) = false) (w : World) :
    Calls Try.prog 11 #[.agg #[.int .u8 op, .int .i64 a, .int .i64 b, .int .i64 c, .int .i64 m]] w fun e w' => e = .returned (.bool true) ∧ Below w.heap.size w w' := by
  have rd1 := fun W => reads_any op a b c m h0 h1 W
  rw [hL] at rd1
  have H1 := Lib.hid rd1
  have H3 := Lib.hid (fun W => writes_any op a b c m h0 h1 0 false hr hok W)
  have hr0 := fun W => valid_any op a b c m h0 h1 W
  rw [hv] at hr0
  have H2 := Lib.hid hr0
  clear rd1 hL hr hok hr0 hv
  go_enter Try.func11, Try.ntmps11
  go_wp2_with fail
  have XI0 := Lib.hid (IF.newAt (op) (a) (b) (c) (m) (w) (w.heap.size) (by simp))
  have BnI := Lib.hid (below_new (Below.refl w.heap.size w) (.cells #[.int .u8 (op), .int .i64 (a), .int .i64 (b), .int .i64 (c), .int .i64 (m)] 23))
  refine (awake_any _).mono ?_
  rintro e w1 ⟨rfl, hb1⟩
  have B1 := Lib.hid (below_next BnI.out hb1)
  have XI1 := Lib.hid (XI0.out.step hb1)
  clear hb1
  have XI1_lt := XI1.out.lt
  have XI1_i0 := XI1.out.i0
  have XI1_i1 := XI1.out.i1
  have XI1_i2 := XI1.out.i2
  have XI1_i3 := XI1.out.i3
  have XI1_i4 := XI1.out.i4
  go_wp2_with fail
  refine (H1.out _).mono ?_
  rintro e w2 ⟨vP, rfl, o2, hb2⟩
  have XP2 := Lib.hid o2
  clear o2
  have B2 := Lib.hid (below_next B1.out hb2)
  have XI2 := Lib.hid (XI1.out.step hb2)
  clear hb2
  have XI2_lt := XI2.out.lt
  have XI2_i0 := XI2.out.i0
  have XI2_i1 := XI2.out.i1
  have XI2_i2 := XI2.out.i2
  have XI2_i3 := XI2.out.i3
  have XI2_i4 := XI2.out.i4
  obtain ⟨gP, cP, rfl, _, hP⟩ := own_some XP2.out (by simp)
  have F2 := Lib.hid hP
  clear hP XP2
  go_wp2_with fail
  refine (H2.out _).mono ?_
  rintro e w3 ⟨rfl, hb3⟩
  have B3 := Lib.hid (below_next B2.out hb3)
  have XI3 := Lib.hid (XI2.out.step hb3)
  have XP3 := Lib.hid (F2.out.step hb3)
  clear hb3
  have XI3_lt := XI3.out.lt
  have XI3_i0 := XI3.out.i0
  have XI3_i1 := XI3.out.i1
  have XI3_i2 := XI3.out.i2
  have XI3_i3 := XI3.out.i3
  have XI3_i4 := XI3.out.i4
  have XP3_lt := XP3.out.lt
  have cx : w3.cell? ⟨gP, 0, none⟩ = some (.int .i64 x) := XP3.out.at_ 0 (by simp)
  have cy : w3.cell? ⟨gP, 1, none⟩ = some (.int .i64 y) := XP3.out.at_ 1 (by simp)
  go_wp2_with fail
  refine wp_loop_rounds 3 ?_
  rw [rounds_succ]
  go_wp2_with fail
  rw [rounds_succ]
  go_wp2_with fail
  rw [rounds_succ]
  go_wp2_with fail
  refine (H3.out _).mono ?_
  rintro e w4 ⟨rfl, hb4⟩
  have B4 := Lib.hid (below_next B3.out hb4)
  have XI4 := Lib.hid (XI3.out.step hb4)
  clear hb4
  have XI4_lt := XI4.out.lt
  have XI4_i0 := XI4.out.i0
  have XI4_i1 := XI4.out.i1
  have XI4_i2 := XI4.out.i2
  have XI4_i3 := XI4.out.i3
  have XI4_i4 := XI4.out.i4
  go_wp2_with fail
  go_ret
  exact ⟨rfl, B4.out⟩
set_option maxRecDepth 100000 in
set_option maxHeartbeats 4000000 in
theorem reg_xcyb_11 (op a b c m : Int) (h0 : 0 ≤ op) (h1 : op ≤ 255) (x y : Int) (hL : readsV op a b c m = [x, y]) (hr : wrV op a b c m = a) (hok : wrOK op a b c m = true) (hv : validB op a b c m = true) (lx : decide (x < 1) = false) (gx : decide (16 ≤ x) = false) (nxa : (x != a) = true) (nxb : (x != b) = true) (nxc : (x != c) = false) (ly : decide (y < 1) = false) (gy : decide (16 ≤ y) = false) (nya : (y != a) = true) (nyb : (y != b) = false) (asc : decide (y ≤ x) = false) (pos : decide (0 < a) = true) (w : World) :
    Calls Try.prog 11 #[.agg #[.int .u8 op, .int .i64 a, .int .i64 b, .int .i64 c, .int .i64 m]] w fun e w' => e = .returned (.bool true) ∧ Below w.heap.size w w' := by
  have rd1 := fun W => reads_any op a b c m h0 h1 W
  rw [hL] at rd1
  have H1 := Lib.hid rd1
  have H3 := Lib.hid (fun W => writes_any op a b c m h0 h1 a true hr hok W)
  have hr0 := fun W => valid_any op a b c m h0 h1 W
  rw [hv] at hr0
  have H2 := Lib.hid hr0
  clear rd1 hL hr hok hr0 hv
  go_enter Try.func11, Try.ntmps11
  go_wp2_with fail
  have XI0 := Lib.hid (IF.newAt (op) (a) (b) (c) (m) (w) (w.heap.size) (by simp))
  have BnI := Lib.hid (below_new (Below.refl w.heap.size w) (.cells #[.int .u8 (op), .int .i64 (a), .int .i64 (b), .int .i64 (c), .int .i64 (m)] 23))
  refine (awake_any _).mono ?_
  rintro e w1 ⟨rfl, hb1⟩
  have B1 := Lib.hid (below_next BnI.out hb1)
  have XI1 := Lib.hid (XI0.out.step hb1)
  clear hb1
  have XI1_lt := XI1.out.lt
  have XI1_i0 := XI1.out.i0
  have XI1_i1 := XI1.out.i1
  have XI1_i2 := XI1.out.i2
  have XI1_i3 := XI1.out.i3
  have XI1_i4 := XI1.out.i4
  go_wp2_with fail
  refine (H1.out _).mono ?_
  rintro e w2 ⟨vP, rfl, o2, hb2⟩
  have XP2 := Lib.hid o2
  clear o2
  have B2 := Lib.hid (below_next B1.out hb2)
  have XI2 := Lib.hid (XI1.out.step hb2)
  clear hb2
  have XI2_lt := XI2.out.lt
  have XI2_i0 := XI2.out.i0
  have XI2_i1 := XI2.out.i1
  have XI2_i2 := XI2.out.i2
  have XI2_i3 := XI2.out.i3
  have XI2_i4 := XI2.out.i4
  obtain ⟨gP, cP, rfl, _, hP⟩ := own_some XP2.out (by simp)
  have F2 := Lib.hid hP
  clear hP XP2
  go_wp2_with fail
  refine (H2.out _).mono ?_
  rintro e w3 ⟨rfl, hb3⟩
  have B3 := Lib.hid (below_next B2.out hb3)
  have XI3 := Lib.hid (XI2.out.step hb3)
  have XP3 := Lib.hid (F2.out.step hb3)
  clear hb3
  have XI3_lt := XI3.out.lt
  have XI3_i0 := XI3.out.i0
  have XI3_i1 := XI3.out.i1
  have XI3_i2 := XI3.out.i2
  have XI3_i3 := XI3.out.i3
  have XI3_i4 := XI3.out.i4
  have XP3_lt := XP3.out.lt
  have cx : w3.cell? ⟨gP, 0, none⟩ = some (.int .i64 x) := XP3.out.at_ 0 (by simp)
  have cy : w3.cell? ⟨gP, 1, none⟩ = some (.int .i64 y) := XP3.out.at_ 1 (by simp)
  go_wp2_with fail
  refine wp_loop_rounds 3 ?_
  rw [rounds_succ]
  go_wp2_with fail
  rw [rounds_succ]
  go_wp2_with fail
  rw [rounds_succ]
  go_wp2_with fail
  refine (H3.out _).mono ?_
  rintro e w4 ⟨rfl, hb4⟩
  have B4 := Lib.hid (below_next B3.out hb4)
  have XI4 := Lib.hid (XI3.out.step hb4)
  clear hb4
  have XI4_lt := XI4.out.lt
  have XI4_i0 := XI4.out.i0
  have XI4_i1 := XI4.out.i1
  have XI4_i2 := XI4.out.i2
  have XI4_i3 := XI4.out.i3
  have XI4_i4 := XI4.out.i4
  go_wp2_with fail
  refine (H2.out _).mono ?_
  rintro e w5 ⟨rfl, hb5⟩
  have B5 := Lib.hid (below_next B4.out hb5)
  have XI5 := Lib.hid (XI4.out.step hb5)
  clear hb5
  have XI5_lt := XI5.out.lt
  have XI5_i0 := XI5.out.i0
  have XI5_i1 := XI5.out.i1
  have XI5_i2 := XI5.out.i2
  have XI5_i3 := XI5.out.i3
  have XI5_i4 := XI5.out.i4
  go_wp2_with fail
  go_ret
  exact ⟨rfl, B5.out⟩
set_option maxRecDepth 100000 in
set_option maxHeartbeats 4000000 in
theorem reg_xcyc_10 (op a b c m : Int) (h0 : 0 ≤ op) (h1 : op ≤ 255) (x y : Int) (hL : readsV op a b c m = [x, y]) (hr : wrV op a b c m = 0) (hok : wrOK op a b c m = false) (hv : validB op a b c m = true) (lx : decide (x < 1) = false) (gx : decide (16 ≤ x) = false) (nxa : (x != a) = true) (nxb : (x != b) = true) (nxc : (x != c) = false) (ly : decide (y < 1) = false) (gy : decide (16 ≤ y) = false) (nya : (y != a) = true) (nyb : (y != b) = true) (nyc : (y != c) = false) (asc : decide (y ≤ x) = false) (w : World) :
    Calls Try.prog 11 #[.agg #[.int .u8 op, .int .i64 a, .int .i64 b, .int .i64 c, .int .i64 m]] w fun e w' => e = .returned (.bool true) ∧ Below w.heap.size w w' := by
  have rd1 := fun W => reads_any op a b c m h0 h1 W
  rw [hL] at rd1
  have H1 := Lib.hid rd1
  have H3 := Lib.hid (fun W => writes_any op a b c m h0 h1 0 false hr hok W)
  have hr0 := fun W => valid_any op a b c m h0 h1 W
  rw [hv] at hr0
  have H2 := Lib.hid hr0
  clear rd1 hL hr hok hr0 hv
  go_enter Try.func11, Try.ntmps11
  go_wp2_with fail
  have XI0 := Lib.hid (IF.newAt (op) (a) (b) (c) (m) (w) (w.heap.size) (by simp))
  have BnI := Lib.hid (below_new (Below.refl w.heap.size w) (.cells #[.int .u8 (op), .int .i64 (a), .int .i64 (b), .int .i64 (c), .int .i64 (m)] 23))
  refine (awake_any _).mono ?_
  rintro e w1 ⟨rfl, hb1⟩
  have B1 := Lib.hid (below_next BnI.out hb1)
  have XI1 := Lib.hid (XI0.out.step hb1)
  clear hb1
  have XI1_lt := XI1.out.lt
  have XI1_i0 := XI1.out.i0
  have XI1_i1 := XI1.out.i1
  have XI1_i2 := XI1.out.i2
  have XI1_i3 := XI1.out.i3
  have XI1_i4 := XI1.out.i4
  go_wp2_with fail
  refine (H1.out _).mono ?_
  rintro e w2 ⟨vP, rfl, o2, hb2⟩
  have XP2 := Lib.hid o2
  clear o2
  have B2 := Lib.hid (below_next B1.out hb2)
  have XI2 := Lib.hid (XI1.out.step hb2)
  clear hb2
  have XI2_lt := XI2.out.lt
  have XI2_i0 := XI2.out.i0
  have XI2_i1 := XI2.out.i1
  have XI2_i2 := XI2.out.i2
  have XI2_i3 := XI2.out.i3
  have XI2_i4 := XI2.out.i4
  obtain ⟨gP, cP, rfl, _, hP⟩ := own_some XP2.out (by simp)
  have F2 := Lib.hid hP
  clear hP XP2
  go_wp2_with fail
  refine (H2.out _).mono ?_
  rintro e w3 ⟨rfl, hb3⟩
  have B3 := Lib.hid (below_next B2.out hb3)
  have XI3 := Lib.hid (XI2.out.step hb3)
  have XP3 := Lib.hid (F2.out.step hb3)
  clear hb3
  have XI3_lt := XI3.out.lt
  have XI3_i0 := XI3.out.i0
  have XI3_i1 := XI3.out.i1
  have XI3_i2 := XI3.out.i2
  have XI3_i3 := XI3.out.i3
  have XI3_i4 := XI3.out.i4
  have XP3_lt := XP3.out.lt
  have cx : w3.cell? ⟨gP, 0, none⟩ = some (.int .i64 x) := XP3.out.at_ 0 (by simp)
  have cy : w3.cell? ⟨gP, 1, none⟩ = some (.int .i64 y) := XP3.out.at_ 1 (by simp)
  go_wp2_with fail
  refine wp_loop_rounds 3 ?_
  rw [rounds_succ]
  go_wp2_with fail
  rw [rounds_succ]
  go_wp2_with fail
  rw [rounds_succ]
  go_wp2_with fail
  refine (H3.out _).mono ?_
  rintro e w4 ⟨rfl, hb4⟩
  have B4 := Lib.hid (below_next B3.out hb4)
  have XI4 := Lib.hid (XI3.out.step hb4)
  clear hb4
  have XI4_lt := XI4.out.lt
  have XI4_i0 := XI4.out.i0
  have XI4_i1 := XI4.out.i1
  have XI4_i2 := XI4.out.i2
  have XI4_i3 := XI4.out.i3
  have XI4_i4 := XI4.out.i4
  go_wp2_with fail
  go_ret
  exact ⟨rfl, B4.out⟩
set_option maxRecDepth 100000 in
set_option maxHeartbeats 4000000 in
theorem reg_xcyc_11 (op a b c m : Int) (h0 : 0 ≤ op) (h1 : op ≤ 255) (x y : Int) (hL : readsV op a b c m = [x, y]) (hr : wrV op a b c m = a) (hok : wrOK op a b c m = true) (hv : validB op a b c m = true) (lx : decide (x < 1) = false) (gx : decide (16 ≤ x) = false) (nxa : (x != a) = true) (nxb : (x != b) = true) (nxc : (x != c) = false) (ly : decide (y < 1) = false) (gy : decide (16 ≤ y) = false) (nya : (y != a) = true) (nyb : (y != b) = true) (nyc : (y != c) = false) (asc : decide (y ≤ x) = false) (pos : decide (0 < a) = true) (w : World) :
    Calls Try.prog 11 #[.agg #[.int .u8 op, .int .i64 a, .int .i64 b, .int .i64 c, .int .i64 m]] w fun e w' => e = .returned (.bool true) ∧ Below w.heap.size w w' := by
  have rd1 := fun W => reads_any op a b c m h0 h1 W
  rw [hL] at rd1
  have H1 := Lib.hid rd1
  have H3 := Lib.hid (fun W => writes_any op a b c m h0 h1 a true hr hok W)
  have hr0 := fun W => valid_any op a b c m h0 h1 W
  rw [hv] at hr0
  have H2 := Lib.hid hr0
  clear rd1 hL hr hok hr0 hv
  go_enter Try.func11, Try.ntmps11
  go_wp2_with fail
  have XI0 := Lib.hid (IF.newAt (op) (a) (b) (c) (m) (w) (w.heap.size) (by simp))
  have BnI := Lib.hid (below_new (Below.refl w.heap.size w) (.cells #[.int .u8 (op), .int .i64 (a), .int .i64 (b), .int .i64 (c), .int .i64 (m)] 23))
  refine (awake_any _).mono ?_
  rintro e w1 ⟨rfl, hb1⟩
  have B1 := Lib.hid (below_next BnI.out hb1)
  have XI1 := Lib.hid (XI0.out.step hb1)
  clear hb1
  have XI1_lt := XI1.out.lt
  have XI1_i0 := XI1.out.i0
  have XI1_i1 := XI1.out.i1
  have XI1_i2 := XI1.out.i2
  have XI1_i3 := XI1.out.i3
  have XI1_i4 := XI1.out.i4
  go_wp2_with fail
  refine (H1.out _).mono ?_
  rintro e w2 ⟨vP, rfl, o2, hb2⟩
  have XP2 := Lib.hid o2
  clear o2
  have B2 := Lib.hid (below_next B1.out hb2)
  have XI2 := Lib.hid (XI1.out.step hb2)
  clear hb2
  have XI2_lt := XI2.out.lt
  have XI2_i0 := XI2.out.i0
  have XI2_i1 := XI2.out.i1
  have XI2_i2 := XI2.out.i2
  have XI2_i3 := XI2.out.i3
  have XI2_i4 := XI2.out.i4
  obtain ⟨gP, cP, rfl, _, hP⟩ := own_some XP2.out (by simp)
  have F2 := Lib.hid hP
  clear hP XP2
  go_wp2_with fail
  refine (H2.out _).mono ?_
  rintro e w3 ⟨rfl, hb3⟩
  have B3 := Lib.hid (below_next B2.out hb3)
  have XI3 := Lib.hid (XI2.out.step hb3)
  have XP3 := Lib.hid (F2.out.step hb3)
  clear hb3
  have XI3_lt := XI3.out.lt
  have XI3_i0 := XI3.out.i0
  have XI3_i1 := XI3.out.i1
  have XI3_i2 := XI3.out.i2
  have XI3_i3 := XI3.out.i3
  have XI3_i4 := XI3.out.i4
  have XP3_lt := XP3.out.lt
  have cx : w3.cell? ⟨gP, 0, none⟩ = some (.int .i64 x) := XP3.out.at_ 0 (by simp)
  have cy : w3.cell? ⟨gP, 1, none⟩ = some (.int .i64 y) := XP3.out.at_ 1 (by simp)
  go_wp2_with fail
  refine wp_loop_rounds 3 ?_
  rw [rounds_succ]
  go_wp2_with fail
  rw [rounds_succ]
  go_wp2_with fail
  rw [rounds_succ]
  go_wp2_with fail
  refine (H3.out _).mono ?_
  rintro e w4 ⟨rfl, hb4⟩
  have B4 := Lib.hid (below_next B3.out hb4)
  have XI4 := Lib.hid (XI3.out.step hb4)
  clear hb4
  have XI4_lt := XI4.out.lt
  have XI4_i0 := XI4.out.i0
  have XI4_i1 := XI4.out.i1
  have XI4_i2 := XI4.out.i2
  have XI4_i3 := XI4.out.i3
  have XI4_i4 := XI4.out.i4
  go_wp2_with fail
  refine (H2.out _).mono ?_
  rintro e w5 ⟨rfl, hb5⟩
  have B5 := Lib.hid (below_next B4.out hb5)
  have XI5 := Lib.hid (XI4.out.step hb5)
  clear hb5
  have XI5_lt := XI5.out.lt
  have XI5_i0 := XI5.out.i0
  have XI5_i1 := XI5.out.i1
  have XI5_i2 := XI5.out.i2
  have XI5_i3 := XI5.out.i3
  have XI5_i4 := XI5.out.i4
  go_wp2_with fail
  go_ret
  exact ⟨rfl, B5.out⟩
theorem up_facts (p : Int → Bool) : ∀ x ∈ up p, 1 ≤ x ∧ x ≤ 15 ∧ p x = true := by
  intro x hx
  unfold up at hx
  rw [List.mem_filter] at hx
  obtain ⟨h, hp⟩ := hx
  obtain ⟨j, hj, rfl⟩ := List.mem_map.1 h
  have := List.mem_range.1 hj
  exact ⟨by omega, by omega, hp⟩
theorem up_asc (p : Int → Bool) : (up p).Pairwise (· < ·) := by
  unfold up
  refine List.Pairwise.filter _ ?_
  rw [List.pairwise_map]
  exact List.Pairwise.imp (fun h => by omega) List.pairwise_lt_range
theorem fin_len (zs : List Int) : (fin zs).length ≤ zs.length := by
  unfold fin
  have h1 := List.length_filter_le (fun x : Int => !(x == 0)) (Lib.compact (zs.mergeSort fun x y => decide (x ≤ y)))
  have h2 := compact_len (zs.mergeSort fun x y => decide (x ≤ y))
  rw [List.length_mergeSort] at h2
  omega
theorem hits_up (ua u1 u2 : Bool) (a b c : Int) : hits ua u1 u2 a b c 15 = up (hit ua u1 u2 a b c) := rfl
theorem hit_some {ua u1 u2 : Bool} {a b c x : Int} (h : hit ua u1 u2 a b c x = true) : x = a ∨ x = b ∨ x = c := by
  unfold hit at h
  simp only [Bool.or_eq_true, Bool.and_eq_true, beq_iff_eq] at h
  rcases h with ⟨_, h⟩ | ⟨_, h⟩ | ⟨_, h⟩
  · exact .inl h.symm
  · exact .inr (.inl h.symm)
  · exact .inr (.inr h.symm)
theorem bne_no {x y : Int} (h : x = y) : (x != y) = false := by subst h; simp
theorem bne_yes {x y : Int} (h : ¬ x = y) : (x != y) = true := by simpa using h
theorem readsV_len (op a b c m : Int) (h0 : 0 ≤ op) (h1 : op ≤ 255) : (readsV op a b c m).length ≤ 2 := by
  unfold readsV
  split
  · exact Nat.le_trans (fin_len _) (by rw [ltrs_len]; exact reads_small op h0 h1)
  · simp
theorem readsV_up {op a b c m : Int} (h0 : 0 ≤ op) (hv : validB op a b c m = true) : readsV op a b c m = up (hit (six op) (u1B op) (u2B op) a b c) := by
  unfold readsV; rw [if_pos hv, reads_same h0 hv, hits_up]
theorem wr_facts (op a b c m : Int) (h0 : 0 ≤ op) : (wrOK op a b c m = false ∧ wrV op a b c m = 0) ∨ (wrOK op a b c m = true ∧ wrV op a b c m = a ∧ validB op a b c m = true ∧ 0 < a) := by
  cases h : wrOK op a b c m
  · exact .inl ⟨rfl, by unfold wrV; rw [h]; simp⟩
  · have h' := h
    unfold wrOK at h'
    simp only [Bool.and_eq_true] at h'
    have hv := h'.1
    have hz : ¬ a = 0 := by have := h'.2.2; simpa using this
    have hv' := hv
    unfold validB at hv'
    simp only [Bool.and_eq_true] at hv'
    have ra := chk_reg (by decide) hv'.2.1.1.1
    exact .inr ⟨rfl, by unfold wrV; rw [h]; simp, hv, by omega⟩
theorem three {x a b c : Int} (h : x = a ∨ x = b ∨ x = c) : x = a ∨ (¬ x = a ∧ x = b) ∨ (¬ x = a ∧ ¬ x = b ∧ x = c) := by omega
theorem walk_IsaRegisters (op a b c m : Int) (w0 : (Lit.int .u8 op).wf = true) (w1 : (Lit.int .i64 a).wf = true) (w2 : (Lit.int .i64 b).wf = true) (w3 : (Lit.int .i64 c).wf = true) (w4 : (Lit.int .i64 m).wf = true) (w : World) :
    Calls Try.prog 11 #[.agg #[.int .u8 op, .int .i64 a, .int .i64 b, .int .i64 c, .int .i64 m]] w fun e w' => e = .returned (.bool true) ∧ Below w.heap.size w w' := by
  obtain ⟨h0, h1⟩ := u8_bounds w0
  have hW := wr_facts op a b c m h0
  have hlen := readsV_len op a b c m h0 h1
  cases hv : validB op a b c m
  · have hL : readsV op a b c m = [] := by unfold readsV; rw [hv]; simp
    rcases hW with ⟨k1, k2⟩ | ⟨k1, k2, k3, k4⟩
    · exact reg_n_00 op a b c m h0 h1 hL k2 k1 hv w
    · rw [hv] at k3; simp at k3
  · have hu := readsV_up h0 hv
    have hf := up_facts (hit (six op) (u1B op) (u2B op) a b c)
    have ha := up_asc (hit (six op) (u1B op) (u2B op) a b c)
    rw [← hu] at hf ha
    match hL : readsV op a b c m with
    | [] =>
      rcases hW with ⟨k1, k2⟩ | ⟨k1, k2, k3, k4⟩
      · exact reg_n_10 op a b c m h0 h1 hL k2 k1 hv w
      · exact reg_n_11 op a b c m h0 h1 hL k2 k1 hv (decide_eq_true k4) w
    | [x] =>
      rw [hL] at hf
      obtain ⟨x1, x2, x3⟩ := hf x (by simp)
      have l1 : decide (x < 1) = false := decide_eq_false (by omega)
      have l2 : decide (16 ≤ x) = false := decide_eq_false (by omega)
      rcases three (hit_some x3) with p | ⟨p1, p⟩ | ⟨p1, p2, p⟩
      · rcases hW with ⟨k1, k2⟩ | ⟨k1, k2, k3, k4⟩
        · exact reg_xa_10 op a b c m h0 h1 x hL k2 k1 hv l1 l2 (bne_no p) w
        · exact reg_xa_11 op a b c m h0 h1 x hL k2 k1 hv l1 l2 (bne_no p) (decide_eq_true k4) w
      · rcases hW with ⟨k1, k2⟩ | ⟨k1, k2, k3, k4⟩
        · exact reg_xb_10 op a b c m h0 h1 x hL k2 k1 hv l1 l2 (bne_yes p1) (bne_no p) w
        · exact reg_xb_11 op a b c m h0 h1 x hL k2 k1 hv l1 l2 (bne_yes p1) (bne_no p) (decide_eq_true k4) w
      · rcases hW with ⟨k1, k2⟩ | ⟨k1, k2, k3, k4⟩
        · exact reg_xc_10 op a b c m h0 h1 x hL k2 k1 hv l1 l2 (bne_yes p1) (bne_yes p2) (bne_no p) w
        · exact reg_xc_11 op a b c m h0 h1 x hL k2 k1 hv l1 l2 (bne_yes p1) (bne_yes p2) (bne_no p) (decide_eq_true k4) w
    | [x, y] =>
      rw [hL] at hf ha
      obtain ⟨x1, x2, x3⟩ := hf x (by simp)
      obtain ⟨y1, y2, y3⟩ := hf y (by simp)
      have hxy : x < y := by simpa using ha
      have u1 : decide (x < 1) = false := decide_eq_false (by omega)
      have u2 : decide (16 ≤ x) = false := decide_eq_false (by omega)
      have v1 : decide (y < 1) = false := decide_eq_false (by omega)
      have v2 : decide (16 ≤ y) = false := decide_eq_false (by omega)
      have asc : decide (y ≤ x) = false := decide_eq_false (by omega)
      rcases three (hit_some x3) with up | ⟨up1, up⟩ | ⟨up1, up2, up⟩
      · rcases three (hit_some y3) with vp | ⟨vp1, vp⟩ | ⟨vp1, vp2, vp⟩
        · rcases hW with ⟨k1, k2⟩ | ⟨k1, k2, k3, k4⟩
          · exact reg_xaya_10 op a b c m h0 h1 x y hL k2 k1 hv u1 u2 (bne_no up) v1 v2 (bne_no vp) asc w
          · exact reg_xaya_11 op a b c m h0 h1 x y hL k2 k1 hv u1 u2 (bne_no up) v1 v2 (bne_no vp) asc (decide_eq_true k4) w
        · rcases hW with ⟨k1, k2⟩ | ⟨k1, k2, k3, k4⟩
          · exact reg_xayb_10 op a b c m h0 h1 x y hL k2 k1 hv u1 u2 (bne_no up) v1 v2 (bne_yes vp1) (bne_no vp) asc w
          · exact reg_xayb_11 op a b c m h0 h1 x y hL k2 k1 hv u1 u2 (bne_no up) v1 v2 (bne_yes vp1) (bne_no vp) asc (decide_eq_true k4) w
        · rcases hW with ⟨k1, k2⟩ | ⟨k1, k2, k3, k4⟩
          · exact reg_xayc_10 op a b c m h0 h1 x y hL k2 k1 hv u1 u2 (bne_no up) v1 v2 (bne_yes vp1) (bne_yes vp2) (bne_no vp) asc w
          · exact reg_xayc_11 op a b c m h0 h1 x y hL k2 k1 hv u1 u2 (bne_no up) v1 v2 (bne_yes vp1) (bne_yes vp2) (bne_no vp) asc (decide_eq_true k4) w
      · rcases three (hit_some y3) with vp | ⟨vp1, vp⟩ | ⟨vp1, vp2, vp⟩
        · rcases hW with ⟨k1, k2⟩ | ⟨k1, k2, k3, k4⟩
          · exact reg_xbya_10 op a b c m h0 h1 x y hL k2 k1 hv u1 u2 (bne_yes up1) (bne_no up) v1 v2 (bne_no vp) asc w
          · exact reg_xbya_11 op a b c m h0 h1 x y hL k2 k1 hv u1 u2 (bne_yes up1) (bne_no up) v1 v2 (bne_no vp) asc (decide_eq_true k4) w
        · rcases hW with ⟨k1, k2⟩ | ⟨k1, k2, k3, k4⟩
          · exact reg_xbyb_10 op a b c m h0 h1 x y hL k2 k1 hv u1 u2 (bne_yes up1) (bne_no up) v1 v2 (bne_yes vp1) (bne_no vp) asc w
          · exact reg_xbyb_11 op a b c m h0 h1 x y hL k2 k1 hv u1 u2 (bne_yes up1) (bne_no up) v1 v2 (bne_yes vp1) (bne_no vp) asc (decide_eq_true k4) w
        · rcases hW with ⟨k1, k2⟩ | ⟨k1, k2, k3, k4⟩
          · exact reg_xbyc_10 op a b c m h0 h1 x y hL k2 k1 hv u1 u2 (bne_yes up1) (bne_no up) v1 v2 (bne_yes vp1) (bne_yes vp2) (bne_no vp) asc w
          · exact reg_xbyc_11 op a b c m h0 h1 x y hL k2 k1 hv u1 u2 (bne_yes up1) (bne_no up) v1 v2 (bne_yes vp1) (bne_yes vp2) (bne_no vp) asc (decide_eq_true k4) w
      · rcases three (hit_some y3) with vp | ⟨vp1, vp⟩ | ⟨vp1, vp2, vp⟩
        · rcases hW with ⟨k1, k2⟩ | ⟨k1, k2, k3, k4⟩
          · exact reg_xcya_10 op a b c m h0 h1 x y hL k2 k1 hv u1 u2 (bne_yes up1) (bne_yes up2) (bne_no up) v1 v2 (bne_no vp) asc w
          · exact reg_xcya_11 op a b c m h0 h1 x y hL k2 k1 hv u1 u2 (bne_yes up1) (bne_yes up2) (bne_no up) v1 v2 (bne_no vp) asc (decide_eq_true k4) w
        · rcases hW with ⟨k1, k2⟩ | ⟨k1, k2, k3, k4⟩
          · exact reg_xcyb_10 op a b c m h0 h1 x y hL k2 k1 hv u1 u2 (bne_yes up1) (bne_yes up2) (bne_no up) v1 v2 (bne_yes vp1) (bne_no vp) asc w
          · exact reg_xcyb_11 op a b c m h0 h1 x y hL k2 k1 hv u1 u2 (bne_yes up1) (bne_yes up2) (bne_no up) v1 v2 (bne_yes vp1) (bne_no vp) asc (decide_eq_true k4) w
        · rcases hW with ⟨k1, k2⟩ | ⟨k1, k2, k3, k4⟩
          · exact reg_xcyc_10 op a b c m h0 h1 x y hL k2 k1 hv u1 u2 (bne_yes up1) (bne_yes up2) (bne_no up) v1 v2 (bne_yes vp1) (bne_yes vp2) (bne_no vp) asc w
          · exact reg_xcyc_11 op a b c m h0 h1 x y hL k2 k1 hv u1 u2 (bne_yes up1) (bne_yes up2) (bne_no up) v1 v2 (bne_yes vp1) (bne_yes vp2) (bne_no vp) asc (decide_eq_true k4) w
    | x :: y :: z :: r => rw [hL] at hlen; simp at hlen
end Go.Proofs.Ytgjpenhfechhcaa
