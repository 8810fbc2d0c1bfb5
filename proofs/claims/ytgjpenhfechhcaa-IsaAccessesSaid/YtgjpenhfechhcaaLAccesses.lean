/- The walk of IsaAccesses: it returns true whatever the input. -/
import Derived.Test.YtgjpenhfechhcaaA18
import Derived.BigQuiet
namespace Go.Proofs.Ytgjpenhfechhcaa
set_option linter.unusedVariables false
set_option linter.unusedSimpArgs false
open Go.RowKit Go.Proofs.YtgjpenhfechhcaaW.PrintWords Go.Proofs.YtgjpenhfechhcaaW.PrintLast Go.Proofs.YtgjpenhfechhcaaW.PrintMore
open PIsaDecodes
set_option maxRecDepth 100000 in
set_option maxHeartbeats 4000000 in
theorem acc_none_true (op a b c m : Int) (h0 : 0 ≤ op) (h1 : op ≤ 255) (L : List Int) (hL : readsV op a b c m = L) (hlen : L.length = 0) (hsm : L.length ≤ 100) (r : Int) (hr : wrV op a b c m = r) (hok : wrOK op a b c m = true) (hz : (r == 0) = false) (w : World) :
    Calls Try.prog 10 #[.agg #[.int .u8 op, .int .i64 a, .int .i64 b, .int .i64 c, .int .i64 m]] w fun e w' => e = .returned (.bool true) ∧ Below w.heap.size w w' := by
  have rd1 := fun W => reads_any op a b c m h0 h1 W
  have rd2 := fun W => ref_reads_any op a b c m h0 h1 W
  rw [hL] at rd1 rd2
  have H1 := Lib.hid rd1
  have H2 := Lib.hid rd2
  have H3 := Lib.hid (fun W => writes_any op a b c m h0 h1 r true hr hok W)
  have H4 := Lib.hid (fun W => ref_writes_any op a b c m h0 h1 r hr W)
  clear rd1 rd2 hL hr hok
  go_enter Try.func10, Try.ntmps10
  go_wp2_with fail
  have XI0 := Lib.hid (IF.newAt (op) (a) (b) (c) (m) (w) (w.heap.size) (by simp))
  have BnI := Lib.hid (below_new (Below.refl w.heap.size w) (.cells #[.int .u8 (op), .int .i64 (a), .int .i64 (b), .int .i64 (c), .int .i64 (m)] 23))
  refine (awake_any _).mono ?_
  rintro e w1 ⟨rfl, hb1⟩
  have B1 := Lib.hid (below_next BnI.out hb1)
  have XI1 := Lib.hid (XI0.out.step hb1)
  clear hb1
  have XI1_lt := XI1.out.lt
  have XI1_i0 := XI1.out.i0
  have XI1_i1 := XI1.out.i1
  have XI1_i2 := XI1.out.i2
  have XI1_i3 := XI1.out.i3
  have XI1_i4 := XI1.out.i4
  go_wp2_with fail
  refine (H1.out _).mono ?_
  rintro e w2 ⟨vP, rfl, o2, hb2⟩
  have XP2 := Lib.hid o2
  clear o2
  have B2 := Lib.hid (below_next B1.out hb2)
  have XI2 := Lib.hid (XI1.out.step hb2)
  clear hb2
  have XI2_lt := XI2.out.lt
  have XI2_i0 := XI2.out.i0
  have XI2_i1 := XI2.out.i1
  have XI2_i2 := XI2.out.i2
  have XI2_i3 := XI2.out.i3
  have XI2_i4 := XI2.out.i4
  go_wp2_with fail
  refine (H2.out _).mono ?_
  rintro e w3 ⟨vQ, rfl, o3, hb3⟩
  have XQ3 := Lib.hid o3
  clear o3
  have B3 := Lib.hid (below_next B2.out hb3)
  have XI3 := Lib.hid (XI2.out.step hb3)
  have XP3 := Lib.hid (own_far XP2.out hb3)
  clear hb3
  have XI3_lt := XI3.out.lt
  have XI3_i0 := XI3.out.i0
  have XI3_i1 := XI3.out.i1
  have XI3_i2 := XI3.out.i2
  have XI3_i3 := XI3.out.i3
  have XI3_i4 := XI3.out.i4
  obtain ⟨AP, cP, rfl⟩ := own_none XP3.out hlen
  obtain ⟨AQ, cQ, rfl⟩ := own_none XQ3.out hlen
  clear XP3 XQ3
  go_wp2_with fail
  go_loopw [5, 21] (fun _ i wr => i = .int .i64 0 ∧ IF w.heap.size op a b c m wr ∧ Below w.heap.size w wr) (fun _ _ _ => 0)
  case atStart => exact ⟨rfl, XI3.out, B3.out⟩
  case round =>
    obtain ⟨rfl, hI, hB⟩ := hrel
    have hI0 := Lib.hid hI
    clear hI
    have hI0_lt := hI0.out.lt
    have hI0_i0 := hI0.out.i0
    have hI0_i1 := hI0.out.i1
    have hI0_i2 := hI0.out.i2
    have hI0_i3 := hI0.out.i3
    have hI0_i4 := hI0.out.i4
    go_wp2_with fail
    refine (H3.out _).mono ?_
    rintro e w4 ⟨rfl, hb4⟩
    have B4 := Lib.hid (below_next hB hb4)
    have XI4 := Lib.hid (hI0.out.step hb4)
    clear hb4
    have XI4_lt := XI4.out.lt
    have XI4_i0 := XI4.out.i0
    have XI4_i1 := XI4.out.i1
    have XI4_i2 := XI4.out.i2
    have XI4_i3 := XI4.out.i3
    have XI4_i4 := XI4.out.i4
    go_wp2_with fail
    refine (H4.out _).mono ?_
    rintro e w5 ⟨rfl, hb5⟩
    have B5 := Lib.hid (below_next B4.out hb5)
    have XI5 := Lib.hid (XI4.out.step hb5)
    clear hb5
    have XI5_lt := XI5.out.lt
    have XI5_i0 := XI5.out.i0
    have XI5_i1 := XI5.out.i1
    have XI5_i2 := XI5.out.i2
    have XI5_i3 := XI5.out.i3
    have XI5_i4 := XI5.out.i4
    go_wp2_with fail
    go_ret
    exact ⟨ret_bool (by simp [bne, hz]), B5.out⟩
set_option maxRecDepth 100000 in
set_option maxHeartbeats 4000000 in
theorem acc_none_false (op a b c m : Int) (h0 : 0 ≤ op) (h1 : op ≤ 255) (L : List Int) (hL : readsV op a b c m = L) (hlen : L.length = 0) (hsm : L.length ≤ 100) (r : Int) (hr : wrV op a b c m = r) (hok : wrOK op a b c m = false) (hz : (r == 0) = true) (w : World) :
    Calls Try.prog 10 #[.agg #[.int .u8 op, .int .i64 a, .int .i64 b, .int .i64 c, .int .i64 m]] w fun e w' => e = .returned (.bool true) ∧ Below w.heap.size w w' := by
  have rd1 := fun W => reads_any op a b c m h0 h1 W
  have rd2 := fun W => ref_reads_any op a b c m h0 h1 W
  rw [hL] at rd1 rd2
  have H1 := Lib.hid rd1
  have H2 := Lib.hid rd2
  have H3 := Lib.hid (fun W => writes_any op a b c m h0 h1 r false hr hok W)
  have H4 := Lib.hid (fun W => ref_writes_any op a b c m h0 h1 r hr W)
  clear rd1 rd2 hL hr hok
  go_enter Try.func10, Try.ntmps10
  go_wp2_with fail
  have XI0 := Lib.hid (IF.newAt (op) (a) (b) (c) (m) (w) (w.heap.size) (by simp))
  have BnI := Lib.hid (below_new (Below.refl w.heap.size w) (.cells #[.int .u8 (op), .int .i64 (a), .int .i64 (b), .int .i64 (c), .int .i64 (m)] 23))
  refine (awake_any _).mono ?_
  rintro e w1 ⟨rfl, hb1⟩
  have B1 := Lib.hid (below_next BnI.out hb1)
  have XI1 := Lib.hid (XI0.out.step hb1)
  clear hb1
  have XI1_lt := XI1.out.lt
  have XI1_i0 := XI1.out.i0
  have XI1_i1 := XI1.out.i1
  have XI1_i2 := XI1.out.i2
  have XI1_i3 := XI1.out.i3
  have XI1_i4 := XI1.out.i4
  go_wp2_with fail
  refine (H1.out _).mono ?_
  rintro e w2 ⟨vP, rfl, o2, hb2⟩
  have XP2 := Lib.hid o2
  clear o2
  have B2 := Lib.hid (below_next B1.out hb2)
  have XI2 := Lib.hid (XI1.out.step hb2)
  clear hb2
  have XI2_lt := XI2.out.lt
  have XI2_i0 := XI2.out.i0
  have XI2_i1 := XI2.out.i1
  have XI2_i2 := XI2.out.i2
  have XI2_i3 := XI2.out.i3
  have XI2_i4 := XI2.out.i4
  go_wp2_with fail
  refine (H2.out _).mono ?_
  rintro e w3 ⟨vQ, rfl, o3, hb3⟩
  have XQ3 := Lib.hid o3
  clear o3
  have B3 := Lib.hid (below_next B2.out hb3)
  have XI3 := Lib.hid (XI2.out.step hb3)
  have XP3 := Lib.hid (own_far XP2.out hb3)
  clear hb3
  have XI3_lt := XI3.out.lt
  have XI3_i0 := XI3.out.i0
  have XI3_i1 := XI3.out.i1
  have XI3_i2 := XI3.out.i2
  have XI3_i3 := XI3.out.i3
  have XI3_i4 := XI3.out.i4
  obtain ⟨AP, cP, rfl⟩ := own_none XP3.out hlen
  obtain ⟨AQ, cQ, rfl⟩ := own_none XQ3.out hlen
  clear XP3 XQ3
  go_wp2_with fail
  go_loopw [5, 21] (fun _ i wr => i = .int .i64 0 ∧ IF w.heap.size op a b c m wr ∧ Below w.heap.size w wr) (fun _ _ _ => 0)
  case atStart => exact ⟨rfl, XI3.out, B3.out⟩
  case round =>
    obtain ⟨rfl, hI, hB⟩ := hrel
    have hI0 := Lib.hid hI
    clear hI
    have hI0_lt := hI0.out.lt
    have hI0_i0 := hI0.out.i0
    have hI0_i1 := hI0.out.i1
    have hI0_i2 := hI0.out.i2
    have hI0_i3 := hI0.out.i3
    have hI0_i4 := hI0.out.i4
    go_wp2_with fail
    refine (H3.out _).mono ?_
    rintro e w4 ⟨rfl, hb4⟩
    have B4 := Lib.hid (below_next hB hb4)
    have XI4 := Lib.hid (hI0.out.step hb4)
    clear hb4
    have XI4_lt := XI4.out.lt
    have XI4_i0 := XI4.out.i0
    have XI4_i1 := XI4.out.i1
    have XI4_i2 := XI4.out.i2
    have XI4_i3 := XI4.out.i3
    have XI4_i4 := XI4.out.i4
    go_wp2_with fail
    refine (H4.out _).mono ?_
    rintro e w5 ⟨rfl, hb5⟩
    have B5 := Lib.hid (below_next B4.out hb5)
    have XI5 := Lib.hid (XI4.out.step hb5)
    clear hb5
    have XI5_lt := XI5.out.lt
    have XI5_i0 := XI5.out.i0
    have XI5_i1 := XI5.out.i1
    have XI5_i2 := XI5.out.i2
    have XI5_i3 := XI5.out.i3
    have XI5_i4 := XI5.out.i4
    go_wp2_with fail
    go_ret
    exact ⟨ret_bool (by simp [bne, hz]), B5.out⟩
set_option maxRecDepth 100000 in
set_option maxHeartbeats 4000000 in
theorem acc_some_true (op a b c m : Int) (h0 : 0 ≤ op) (h1 : op ≤ 255) (L : List Int) (hL : readsV op a b c m = L) (hlen : L.length ≠ 0) (hsm : L.length ≤ 100) (r : Int) (hr : wrV op a b c m = r) (hok : wrOK op a b c m = true) (hz : (r == 0) = false) (w : World) :
    Calls Try.prog 10 #[.agg #[.int .u8 op, .int .i64 a, .int .i64 b, .int .i64 c, .int .i64 m]] w fun e w' => e = .returned (.bool true) ∧ Below w.heap.size w w' := by
  have rd1 := fun W => reads_any op a b c m h0 h1 W
  have rd2 := fun W => ref_reads_any op a b c m h0 h1 W
  rw [hL] at rd1 rd2
  have H1 := Lib.hid rd1
  have H2 := Lib.hid rd2
  have H3 := Lib.hid (fun W => writes_any op a b c m h0 h1 r true hr hok W)
  have H4 := Lib.hid (fun W => ref_writes_any op a b c m h0 h1 r hr W)
  clear rd1 rd2 hL hr hok
  go_enter Try.func10, Try.ntmps10
  go_wp2_with fail
  have XI0 := Lib.hid (IF.newAt (op) (a) (b) (c) (m) (w) (w.heap.size) (by simp))
  have BnI := Lib.hid (below_new (Below.refl w.heap.size w) (.cells #[.int .u8 (op), .int .i64 (a), .int .i64 (b), .int .i64 (c), .int .i64 (m)] 23))
  refine (awake_any _).mono ?_
  rintro e w1 ⟨rfl, hb1⟩
  have B1 := Lib.hid (below_next BnI.out hb1)
  have XI1 := Lib.hid (XI0.out.step hb1)
  clear hb1
  have XI1_lt := XI1.out.lt
  have XI1_i0 := XI1.out.i0
  have XI1_i1 := XI1.out.i1
  have XI1_i2 := XI1.out.i2
  have XI1_i3 := XI1.out.i3
  have XI1_i4 := XI1.out.i4
  go_wp2_with fail
  refine (H1.out _).mono ?_
  rintro e w2 ⟨vP, rfl, o2, hb2⟩
  have XP2 := Lib.hid o2
  clear o2
  have B2 := Lib.hid (below_next B1.out hb2)
  have XI2 := Lib.hid (XI1.out.step hb2)
  clear hb2
  have XI2_lt := XI2.out.lt
  have XI2_i0 := XI2.out.i0
  have XI2_i1 := XI2.out.i1
  have XI2_i2 := XI2.out.i2
  have XI2_i3 := XI2.out.i3
  have XI2_i4 := XI2.out.i4
  go_wp2_with fail
  refine (H2.out _).mono ?_
  rintro e w3 ⟨vQ, rfl, o3, hb3⟩
  have XQ3 := Lib.hid o3
  clear o3
  have B3 := Lib.hid (below_next B2.out hb3)
  have XI3 := Lib.hid (XI2.out.step hb3)
  have XP3 := Lib.hid (own_far XP2.out hb3)
  clear hb3
  have XI3_lt := XI3.out.lt
  have XI3_i0 := XI3.out.i0
  have XI3_i1 := XI3.out.i1
  have XI3_i2 := XI3.out.i2
  have XI3_i3 := XI3.out.i3
  have XI3_i4 := XI3.out.i4
  obtain ⟨gP, cP, rfl, _, hP⟩ := own_some XP3.out hlen
  obtain ⟨gQ, cQ, rfl, _, hQ⟩ := own_some XQ3.out hlen
  have FP := Lib.hid hP
  have FQ := Lib.hid hQ
  clear hP hQ
  clear XP3 XQ3
  go_wp2_with fail
  go_loopw [5, 21] (fun _ i wr => ∃ k : Nat, k ≤ L.length ∧ i = .int .i64 k ∧ RF gP L wr ∧ RF gQ L wr ∧ IF w.heap.size op a b c m wr ∧ Below w.heap.size w wr) (fun _ i _ => L.length - (intOf i).toNat)
  case atStart => exact ⟨0, by omega, rfl, FP.out, FQ.out, XI3.out, B3.out⟩
  case round =>
    obtain ⟨k, hk, rfl, hP, hQ, hI, hB⟩ := hrel
    by_cases hlt : k < L.length
    · have c1 := hP.at_ k hlt
      have c2 := hQ.at_ k hlt
      have GP := Lib.hid hP
      have GQ := Lib.hid hQ
      have GI := Lib.hid hI
      have GB := Lib.hid hB
      clear hP hQ hI hB FP FQ
      have hlt' : (k : Int) < (L.length : Int) := by omega
      go_wp2
      go_quiet (fail)
      go_wp2
      go_roundw
      case rel =>
        have hd := below_dn wr
        exact ⟨k + 1, by omega, by go_num, GP.out.step (hd _), GQ.out.step (hd _), GI.out.step (hd _), below_next GB.out (hd _)⟩
      case measure => simp [intOf]; omega
    · have hkk : k = L.length := by omega
      subst hkk
      have hI0 := Lib.hid hI
      clear hI
      have hI0_lt := hI0.out.lt
      have hI0_i0 := hI0.out.i0
      have hI0_i1 := hI0.out.i1
      have hI0_i2 := hI0.out.i2
      have hI0_i3 := hI0.out.i3
      have hI0_i4 := hI0.out.i4
      go_wp2_with fail
      refine (H3.out _).mono ?_
      rintro e w4 ⟨rfl, hb4⟩
      have B4 := Lib.hid (below_next hB hb4)
      have XI4 := Lib.hid (hI0.out.step hb4)
      clear hb4
      have XI4_lt := XI4.out.lt
      have XI4_i0 := XI4.out.i0
      have XI4_i1 := XI4.out.i1
      have XI4_i2 := XI4.out.i2
      have XI4_i3 := XI4.out.i3
      have XI4_i4 := XI4.out.i4
      go_wp2_with fail
      refine (H4.out _).mono ?_
      rintro e w5 ⟨rfl, hb5⟩
      have B5 := Lib.hid (below_next B4.out hb5)
      have XI5 := Lib.hid (XI4.out.step hb5)
      clear hb5
      have XI5_lt := XI5.out.lt
      have XI5_i0 := XI5.out.i0
      have XI5_i1 := XI5.out.i1
      have XI5_i2 := XI5.out.i2
      have XI5_i3 := XI5.out.i3
      have XI5_i4 := XI5.out.i4
      go_wp2_with fail
      go_ret
      exact ⟨ret_bool (by simp [bne, hz]), B5.out⟩
set_option maxRecDepth 100000 in
set_option maxHeartbeats 4000000 in
theorem acc_some_false (op a b c m : Int) (h0 : 0 ≤ op) (h1 : op ≤ 255) (L : List Int) (hL : readsV op a b c m = L) (hlen : L.length ≠ 0) (hsm : L.length ≤ 100) (r : Int) (hr : wrV op a b c m = r) (hok : wrOK op a b c m = false) (hz : (r == 0) = true) (w : World) :
    Calls Try.prog 10 #[.agg #[.int .u8 op, .int .i64 a, .int .i64 b, .int .i64 c, .int .i64 m]] w fun e w' => e = .returned (.bool true) ∧ Below w.heap.size w w' := by
  have rd1 := fun W => reads_any op a b c m h0 h1 W
  have rd2 := fun W => ref_reads_any op a b c m h0 h1 W
  rw [hL] at rd1 rd2
  have H1 := Lib.hid rd1
  have H2 := Lib.hid rd2
  have H3 := Lib.hid (fun W => writes_any op a b c m h0 h1 r false hr hok W)
  have H4 := Lib.hid (fun W => ref_writes_any op a b c m h0 h1 r hr W)
  clear rd1 rd2 hL hr hok
  go_enter Try.func10, Try.ntmps10
  go_wp2_with fail
  have XI0 := Lib.hid (IF.newAt (op) (a) (b) (c) (m) (w) (w.heap.size) (by simp))
  have BnI := Lib.hid (below_new (Below.refl w.heap.size w) (.cells #[.int .u8 (op), .int .i64 (a), .int .i64 (b), .int .i64 (c), .int .i64 (m)] 23))
  refine (awake_any _).mono ?_
  rintro e w1 ⟨rfl, hb1⟩
  have B1 := Lib.hid (below_next BnI.out hb1)
  have XI1 := Lib.hid (XI0.out.step hb1)
  clear hb1
  have XI1_lt := XI1.out.lt
  have XI1_i0 := XI1.out.i0
  have XI1_i1 := XI1.out.i1
  have XI1_i2 := XI1.out.i2
  have XI1_i3 := XI1.out.i3
  have XI1_i4 := XI1.out.i4
  go_wp2_with fail
  refine (H1.out _).mono ?_
  rintro e w2 ⟨vP, rfl, o2, hb2⟩
  have XP2 := Lib.hid o2
  clear o2
  have B2 := Lib.hid (below_next B1.out hb2)
  have XI2 := Lib.hid (XI1.out.step hb2)
  clear hb2
  have XI2_lt := XI2.out.lt
  have XI2_i0 := XI2.out.i0
  have XI2_i1 := XI2.out.i1
  have XI2_i2 := XI2.out.i2
  have XI2_i3 := XI2.out.i3
  have XI2_i4 := XI2.out.i4
  go_wp2_with fail
  refine (H2.out _).mono ?_
  rintro e w3 ⟨vQ, rfl, o3, hb3⟩
  have XQ3 := Lib.hid o3
  clear o3
  have B3 := Lib.hid (below_next B2.out hb3)
  have XI3 := Lib.hid (XI2.out.step hb3)
  have XP3 := Lib.hid (own_far XP2.out hb3)
  clear hb3
  have XI3_lt := XI3.out.lt
  have XI3_i0 := XI3.out.i0
  have XI3_i1 := XI3.out.i1
  have XI3_i2 := XI3.out.i2
  have XI3_i3 := XI3.out.i3
  have XI3_i4 := XI3.out.i4
  obtain ⟨gP, cP, rfl, _, hP⟩ := own_some XP3.out hlen
  obtain ⟨gQ, cQ, rfl, _, hQ⟩ := own_some XQ3.out hlen
  have FP := Lib.hid hP
  have FQ := Lib.hid hQ
  clear hP hQ
  clear XP3 XQ3
  go_wp2_with fail
  go_loopw [5, 21] (fun _ i wr => ∃ k : Nat, k ≤ L.length ∧ i = .int .i64 k ∧ RF gP L wr ∧ RF gQ L wr ∧ IF w.heap.size op a b c m wr ∧ Below w.heap.size w wr) (fun _ i _ => L.length - (intOf i).toNat)
  case atStart => exact ⟨0, by omega, rfl, FP.out, FQ.out, XI3.out, B3.out⟩
  case round =>
    obtain ⟨k, hk, rfl, hP, hQ, hI, hB⟩ := hrel
    by_cases hlt : k < L.length
    · have c1 := hP.at_ k hlt
      have c2 := hQ.at_ k hlt
      have GP := Lib.hid hP
      have GQ := Lib.hid hQ
      have GI := Lib.hid hI
      have GB := Lib.hid hB
      clear hP hQ hI hB FP FQ
      have hlt' : (k : Int) < (L.length : Int) := by omega
      go_wp2
      go_quiet (fail)
      go_wp2
      go_roundw
      case rel =>
        have hd := below_dn wr
        exact ⟨k + 1, by omega, by go_num, GP.out.step (hd _), GQ.out.step (hd _), GI.out.step (hd _), below_next GB.out (hd _)⟩
      case measure => simp [intOf]; omega
    · have hkk : k = L.length := by omega
      subst hkk
      have hI0 := Lib.hid hI
      clear hI
      have hI0_lt := hI0.out.lt
      have hI0_i0 := hI0.out.i0
      have hI0_i1 := hI0.out.i1
      have hI0_i2 := hI0.out.i2
      have hI0_i3 := hI0.out.i3
      have hI0_i4 := hI0.out.i4
      go_wp2_with fail
      refine (H3.out _).mono ?_
      rintro e w4 ⟨rfl, hb4⟩
      have B4 := Lib.hid (below_next hB hb4)
      have XI4 := Lib.hid (hI0.out.step hb4)
      clear hb4
      have XI4_lt := XI4.out.lt
      have XI4_i0 := XI4.out.i0
      have XI4_i1 := XI4.out.i1
      have XI4_i2 := XI4.out.i2
      have XI4_i3 := XI4.out.i3
      have XI4_i4 := XI4.out.i4
      go_wp2_with fail
      refine (H4.out _).mono ?_
      rintro e w5 ⟨rfl, hb5⟩
      have B5 := Lib.hid (below_next B4.out hb5)
      have XI5 := Lib.hid (XI4.out.step hb5)
      clear hb5
      have XI5_lt := XI5.out.lt
      have XI5_i0 := XI5.out.i0
      have XI5_i1 := XI5.out.i1
      have XI5_i2 := XI5.out.i2
      have XI5_i3 := XI5.out.i3
      have XI5_i4 := XI5.out.i4
      go_wp2_with fail
      go_ret
      exact ⟨ret_bool (by simp [bne, hz]), B5.out⟩
theorem fin_small (zs : List Int) (h : zs.length ≤ 2) : (fin zs).length ≤ 100 := by
  unfold fin
  have h1 := List.length_filter_le (fun x : Int => !(x == 0)) (Lib.compact (zs.mergeSort fun x y => decide (x ≤ y)))
  have h2 := compact_len (zs.mergeSort fun x y => decide (x ≤ y))
  rw [List.length_mergeSort] at h2
  omega
theorem readsV_small (op a b c m : Int) (h0 : 0 ≤ op) (h1 : op ≤ 255) : (readsV op a b c m).length ≤ 100 := by
  unfold readsV
  split
  · exact fin_small _ (by rw [ltrs_len]; exact reads_small op h0 h1)
  · simp
theorem walk_IsaAccesses (op a b c m : Int) (w0 : (Lit.int .u8 op).wf = true) (w1 : (Lit.int .i64 a).wf = true) (w2 : (Lit.int .i64 b).wf = true) (w3 : (Lit.int .i64 c).wf = true) (w4 : (Lit.int .i64 m).wf = true) (w : World) :
    Calls Try.prog 10 #[.agg #[.int .u8 op, .int .i64 a, .int .i64 b, .int .i64 c, .int .i64 m]] w fun e w' => e = .returned (.bool true) ∧ Below w.heap.size w w' := by
  obtain ⟨h0, h1⟩ := u8_bounds w0
  have hs := readsV_small op a b c m h0 h1
  cases hok : wrOK op a b c m
  · have hz : (wrV op a b c m == 0) = true := by unfold wrV; rw [hok]; simp
    by_cases hl : (readsV op a b c m).length = 0
    · exact acc_none_false op a b c m h0 h1 _ rfl hl hs _ rfl hok hz w
    · exact acc_some_false op a b c m h0 h1 _ rfl hl hs _ rfl hok hz w
  · have hz : (wrV op a b c m == 0) = false := by
      unfold wrV; rw [hok]; unfold wrOK at hok; simp at hok; simpa using hok.2.2
    by_cases hl : (readsV op a b c m).length = 0
    · exact acc_none_true op a b c m h0 h1 _ rfl hl hs _ rfl hok hz w
    · exact acc_some_true op a b c m h0 h1 _ rfl hl hs _ rfl hok hz w
end Go.Proofs.Ytgjpenhfechhcaa
