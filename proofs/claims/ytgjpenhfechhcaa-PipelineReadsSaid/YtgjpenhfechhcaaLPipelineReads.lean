/- The walk of PipelineReads: it returns true whatever the input. -/
import Derived.Test.YtgjpenhfechhcaaA22
import Derived.BigQuiet
import Derived.Deep.RegionHeld3
import Derived.Deep.RegionHeld
namespace Go.Proofs.Ytgjpenhfechhcaa
set_option linter.unusedVariables false
set_option linter.unusedSimpArgs false
open Go.RowKit Go.Proofs.YtgjpenhfechhcaaW.PrintWords Go.Proofs.YtgjpenhfechhcaaW.PrintLast Go.Proofs.YtgjpenhfechhcaaW.PrintMore
open PIsaDecodes
theorem keepII {w W W' : World} {A B : Nat} {op a b c m op' a' b' c' m' : Int} (hb : Below W.heap.size W W')
    (h : W.cell? ⟨A, 0, none⟩ = some (.int .u8 op) ∧ W.cell? ⟨A, 1, none⟩ = some (.int .i64 a) ∧ W.cell? ⟨A, 2, none⟩ = some (.int .i64 b) ∧ W.cell? ⟨A, 3, none⟩ = some (.int .i64 c) ∧ W.cell? ⟨A, 4, none⟩ = some (.int .i64 m) ∧ W.cell? ⟨B, 0, none⟩ = some (.int .u8 op') ∧ W.cell? ⟨B, 1, none⟩ = some (.int .i64 a') ∧ W.cell? ⟨B, 2, none⟩ = some (.int .i64 b') ∧ W.cell? ⟨B, 3, none⟩ = some (.int .i64 c') ∧ W.cell? ⟨B, 4, none⟩ = some (.int .i64 m') ∧ A < W.heap.size ∧ B < W.heap.size ∧ Below w.heap.size w W) :
    W'.cell? ⟨A, 0, none⟩ = some (.int .u8 op) ∧ W'.cell? ⟨A, 1, none⟩ = some (.int .i64 a) ∧ W'.cell? ⟨A, 2, none⟩ = some (.int .i64 b) ∧ W'.cell? ⟨A, 3, none⟩ = some (.int .i64 c) ∧ W'.cell? ⟨A, 4, none⟩ = some (.int .i64 m) ∧ W'.cell? ⟨B, 0, none⟩ = some (.int .u8 op') ∧ W'.cell? ⟨B, 1, none⟩ = some (.int .i64 a') ∧ W'.cell? ⟨B, 2, none⟩ = some (.int .i64 b') ∧ W'.cell? ⟨B, 3, none⟩ = some (.int .i64 c') ∧ W'.cell? ⟨B, 4, none⟩ = some (.int .i64 m') ∧ A < W'.heap.size ∧ B < W'.heap.size ∧ Below w.heap.size w W' := by
  obtain ⟨t0, t1, t2, t3, t4, i0, i1, i2, i3, i4, hA, hB, h⟩ := h
  exact ⟨(hb.cell (p := ⟨A, 0, none⟩) hA).trans t0, (hb.cell (p := ⟨A, 1, none⟩) hA).trans t1, (hb.cell (p := ⟨A, 2, none⟩) hA).trans t2, (hb.cell (p := ⟨A, 3, none⟩) hA).trans t3, (hb.cell (p := ⟨A, 4, none⟩) hA).trans t4,
    (hb.cell (p := ⟨B, 0, none⟩) hB).trans i0, (hb.cell (p := ⟨B, 1, none⟩) hB).trans i1, (hb.cell (p := ⟨B, 2, none⟩) hB).trans i2, (hb.cell (p := ⟨B, 3, none⟩) hB).trans i3, (hb.cell (p := ⟨B, 4, none⟩) hB).trans i4,
    Nat.lt_of_lt_of_le hA hb.size, Nat.lt_of_lt_of_le hB hb.size, below_next h hb⟩
set_option maxRecDepth 100000 in
set_option maxHeartbeats 4000000 in
theorem rd_none_0any_0 (op a b c m op' a' b' c' m' : Int) (h0 : 0 ≤ op) (h1 : op ≤ 255) (h0' : 0 ≤ op') (h1' : op' ≤ 255) (L : List Int) (hL : readsV op' a' b' c' m' = L) (hlen : L.length = 0) (hsm : L.length ≤ 100) (r : Int) (hr : wrV op a b c m = r) (hok : wrOK op a b c m = false) (X : Int) (hX : nextV op a b c m = X) (hq : L.contains r = false) (hz' : hazB op' a' b' c' m' X = false) (hz0 : hazB op' a' b' c' m' 0 = false) (w : World) :
    Calls Try.prog 16 #[.agg #[.int .u8 op, .int .i64 a, .int .i64 b, .int .i64 c, .int .i64 m], .agg #[.int .u8 op', .int .i64 a', .int .i64 b', .int .i64 c', .int .i64 m']] w fun e w' => e = .returned (.bool true) ∧ Below w.heap.size w w' := by
  have rd1 := fun W => reads_any op' a' b' c' m' h0' h1' W
  rw [hL] at rd1
  have H1 := Lib.hid rd1
  have H2 := Lib.hid (fun W => writes_any op a b c m h0 h1 r false hr hok W)
  have H3 := Lib.hid (fun W => next_any op a b c m h0 h1 X hX W)
  have H4 := Lib.hid (fun W => hazard_any X op' a' b' c' m' h0' h1' false hz' W)
  have H5 := Lib.hid (fun W => hazard_any 0 op' a' b' c' m' h0' h1' false hz0 W)
  have Hq := Lib.hid hq
  clear rd1 hL hr hok hX hz' hz0 hq
  go_enter Try.func16, Try.ntmps16
  go_wp2_with fail
  have XI0 := Lib.hid (IF.newAt (op) (a) (b) (c) (m) (w) (w.heap.size) (by simp))
  have BxI0 := Lib.hid (below_new (Below.refl w.heap.size w) (.cells #[.int .u8 (op), .int .i64 (a), .int .i64 (b), .int .i64 (c), .int .i64 (m)] 23))
  have XI0' := Lib.hid (XI0.out.alloc (.cells #[.int .u8 (op'), .int .i64 (a'), .int .i64 (b'), .int .i64 (c'), .int .i64 (m')] 23))
  have XJ0 := Lib.hid (IF.newAt (op') (a') (b') (c') (m') ((w).alloc (.cells #[.int .u8 (op), .int .i64 (a), .int .i64 (b), .int .i64 (c), .int .i64 (m)] 23)) (w.heap.size + 1) (by simp))
  have BxJ0 := Lib.hid (below_new BxI0.out (.cells #[.int .u8 (op'), .int .i64 (a'), .int .i64 (b'), .int .i64 (c'), .int .i64 (m')] 23))
  have XI0'_lt := XI0'.out.lt
  have XI0'_i0 := XI0'.out.i0
  have XI0'_i1 := XI0'.out.i1
  have XI0'_i2 := XI0'.out.i2
  have XI0'_i3 := XI0'.out.i3
  have XI0'_i4 := XI0'.out.i4
  have XJ0_lt := XJ0.out.lt
  have XJ0_i0 := XJ0.out.i0
  have XJ0_i1 := XJ0.out.i1
  have XJ0_i2 := XJ0.out.i2
  have XJ0_i3 := XJ0.out.i3
  have XJ0_i4 := XJ0.out.i4
  refine (awake8 _).mono ?_
  rintro e w1 ⟨rfl, hb1⟩
  have B1 := Lib.hid (below_next BxJ0.out hb1)
  have XI1 := Lib.hid (XI0'.out.step hb1)
  have XJ1 := Lib.hid (XJ0.out.step hb1)
  clear hb1
  have XI1_lt := XI1.out.lt
  have XI1_i0 := XI1.out.i0
  have XI1_i1 := XI1.out.i1
  have XI1_i2 := XI1.out.i2
  have XI1_i3 := XI1.out.i3
  have XI1_i4 := XI1.out.i4
  have XJ1_lt := XJ1.out.lt
  have XJ1_i0 := XJ1.out.i0
  have XJ1_i1 := XJ1.out.i1
  have XJ1_i2 := XJ1.out.i2
  have XJ1_i3 := XJ1.out.i3
  have XJ1_i4 := XJ1.out.i4
  go_wp2_with fail
  refine (H2.out _).mono ?_
  rintro e w2 ⟨rfl, hb2⟩
  have B2 := Lib.hid (below_next B1.out hb2)
  have XI2 := Lib.hid (XI1.out.step hb2)
  have XJ2 := Lib.hid (XJ1.out.step hb2)
  clear hb2
  have XI2_lt := XI2.out.lt
  have XI2_i0 := XI2.out.i0
  have XI2_i1 := XI2.out.i1
  have XI2_i2 := XI2.out.i2
  have XI2_i3 := XI2.out.i3
  have XI2_i4 := XI2.out.i4
  have XJ2_lt := XJ2.out.lt
  have XJ2_i0 := XJ2.out.i0
  have XJ2_i1 := XJ2.out.i1
  have XJ2_i2 := XJ2.out.i2
  have XJ2_i3 := XJ2.out.i3
  have XJ2_i4 := XJ2.out.i4
  go_wp2_with fail
  refine (H1.out _).mono ?_
  rintro e w3 ⟨vP, rfl, o3, hb3⟩
  have XP3 := Lib.hid o3
  clear o3
  have B3 := Lib.hid (below_next B2.out hb3)
  have XI3 := Lib.hid (XI2.out.step hb3)
  have XJ3 := Lib.hid (XJ2.out.step hb3)
  clear hb3
  have XI3_lt := XI3.out.lt
  have XI3_i0 := XI3.out.i0
  have XI3_i1 := XI3.out.i1
  have XI3_i2 := XI3.out.i2
  have XI3_i3 := XI3.out.i3
  have XI3_i4 := XI3.out.i4
  have XJ3_lt := XJ3.out.lt
  have XJ3_i0 := XJ3.out.i0
  have XJ3_i1 := XJ3.out.i1
  have XJ3_i2 := XJ3.out.i2
  have XJ3_i3 := XJ3.out.i3
  have XJ3_i4 := XJ3.out.i4
  obtain ⟨AP, cP, rfl⟩ := own_none XP3.out hlen
  clear XP3
  go_wp2_with fail
  refine wp_loop_rounds 1 ?_
  rw [rounds_succ]
  go_wp2_with fail
  have S0 := keepII (below_dr w3) ⟨XI3.out.i0, XI3.out.i1, XI3.out.i2, XI3.out.i3, XI3.out.i4, XJ3.out.i0, XJ3.out.i1, XJ3.out.i2, XJ3.out.i3, XJ3.out.i4, XI3.out.lt, XJ3.out.lt, B3.out⟩
  have HS0 := Lib.hid S0
  clear S0
  first
    | (go_region_held (fun W => W.cell? ⟨w.heap.size, 0, none⟩ = some (.int .u8 op) ∧ W.cell? ⟨w.heap.size, 1, none⟩ = some (.int .i64 a) ∧ W.cell? ⟨w.heap.size, 2, none⟩ = some (.int .i64 b) ∧ W.cell? ⟨w.heap.size, 3, none⟩ = some (.int .i64 c) ∧ W.cell? ⟨w.heap.size, 4, none⟩ = some (.int .i64 m) ∧ W.cell? ⟨(w.heap.size + 1), 0, none⟩ = some (.int .u8 op') ∧ W.cell? ⟨(w.heap.size + 1), 1, none⟩ = some (.int .i64 a') ∧ W.cell? ⟨(w.heap.size + 1), 2, none⟩ = some (.int .i64 b') ∧ W.cell? ⟨(w.heap.size + 1), 3, none⟩ = some (.int .i64 c') ∧ W.cell? ⟨(w.heap.size + 1), 4, none⟩ = some (.int .i64 m') ∧ w.heap.size < W.heap.size ∧ (w.heap.size + 1) < W.heap.size ∧ Below w.heap.size w W)
         (((repeat (apply keepII; assumption)); exact HS0.out))
         (first | (go_at_call 39; refine (H3.out _).mono ?_; rintro e w' ⟨rfl, hb'⟩) | (go_at_call 41; refine (H4.out _).mono ?_; rintro e w' ⟨rfl, hb'⟩) | (go_at_call 41; refine (H5.out _).mono ?_; rintro e w' ⟨rfl, hb'⟩)))
    | fail
  rename_i hH
  have B9 := Lib.hid hH.2.2.2.2.2.2.2.2.2.2.2.2
  clear hH
  go_wp2_with fail
  go_ret
  exact ⟨rfl, B9.out⟩
set_option maxRecDepth 100000 in
set_option maxHeartbeats 4000000 in
theorem rd_none_118_0 (op a b c m op' a' b' c' m' : Int) (h0 : 0 ≤ op) (h1 : op ≤ 255) (h0' : 0 ≤ op') (h1' : op' ≤ 255) (L : List Int) (hL : readsV op' a' b' c' m' = L) (hlen : L.length = 0) (hsm : L.length ≤ 100) (r : Int) (hr : wrV op a b c m = r) (hok : wrOK op a b c m = true) (X : Int) (hX : nextV op a b c m = X) (q18 : (op == 18) = true) (hq : L.contains r = false) (hz' : hazB op' a' b' c' m' X = false) (hz0 : hazB op' a' b' c' m' 0 = false) (w : World) :
    Calls Try.prog 16 #[.agg #[.int .u8 op, .int .i64 a, .int .i64 b, .int .i64 c, .int .i64 m], .agg #[.int .u8 op', .int .i64 a', .int .i64 b', .int .i64 c', .int .i64 m']] w fun e w' => e = .returned (.bool true) ∧ Below w.heap.size w w' := by
  have rd1 := fun W => reads_any op' a' b' c' m' h0' h1' W
  rw [hL] at rd1
  have H1 := Lib.hid rd1
  have H2 := Lib.hid (fun W => writes_any op a b c m h0 h1 r true hr hok W)
  have H3 := Lib.hid (fun W => next_any op a b c m h0 h1 X hX W)
  have H4 := Lib.hid (fun W => hazard_any X op' a' b' c' m' h0' h1' false hz' W)
  have H5 := Lib.hid (fun W => hazard_any 0 op' a' b' c' m' h0' h1' false hz0 W)
  have Hq := Lib.hid hq
  clear rd1 hL hr hok hX hz' hz0 hq
  go_enter Try.func16, Try.ntmps16
  go_wp2_with fail
  have XI0 := Lib.hid (IF.newAt (op) (a) (b) (c) (m) (w) (w.heap.size) (by simp))
  have BxI0 := Lib.hid (below_new (Below.refl w.heap.size w) (.cells #[.int .u8 (op), .int .i64 (a), .int .i64 (b), .int .i64 (c), .int .i64 (m)] 23))
  have XI0' := Lib.hid (XI0.out.alloc (.cells #[.int .u8 (op'), .int .i64 (a'), .int .i64 (b'), .int .i64 (c'), .int .i64 (m')] 23))
  have XJ0 := Lib.hid (IF.newAt (op') (a') (b') (c') (m') ((w).alloc (.cells #[.int .u8 (op), .int .i64 (a), .int .i64 (b), .int .i64 (c), .int .i64 (m)] 23)) (w.heap.size + 1) (by simp))
  have BxJ0 := Lib.hid (below_new BxI0.out (.cells #[.int .u8 (op'), .int .i64 (a'), .int .i64 (b'), .int .i64 (c'), .int .i64 (m')] 23))
  have XI0'_lt := XI0'.out.lt
  have XI0'_i0 := XI0'.out.i0
  have XI0'_i1 := XI0'.out.i1
  have XI0'_i2 := XI0'.out.i2
  have XI0'_i3 := XI0'.out.i3
  have XI0'_i4 := XI0'.out.i4
  have XJ0_lt := XJ0.out.lt
  have XJ0_i0 := XJ0.out.i0
  have XJ0_i1 := XJ0.out.i1
  have XJ0_i2 := XJ0.out.i2
  have XJ0_i3 := XJ0.out.i3
  have XJ0_i4 := XJ0.out.i4
  refine (awake8 _).mono ?_
  rintro e w1 ⟨rfl, hb1⟩
  have B1 := Lib.hid (below_next BxJ0.out hb1)
  have XI1 := Lib.hid (XI0'.out.step hb1)
  have XJ1 := Lib.hid (XJ0.out.step hb1)
  clear hb1
  have XI1_lt := XI1.out.lt
  have XI1_i0 := XI1.out.i0
  have XI1_i1 := XI1.out.i1
  have XI1_i2 := XI1.out.i2
  have XI1_i3 := XI1.out.i3
  have XI1_i4 := XI1.out.i4
  have XJ1_lt := XJ1.out.lt
  have XJ1_i0 := XJ1.out.i0
  have XJ1_i1 := XJ1.out.i1
  have XJ1_i2 := XJ1.out.i2
  have XJ1_i3 := XJ1.out.i3
  have XJ1_i4 := XJ1.out.i4
  go_wp2_with fail
  refine (H2.out _).mono ?_
  rintro e w2 ⟨rfl, hb2⟩
  have B2 := Lib.hid (below_next B1.out hb2)
  have XI2 := Lib.hid (XI1.out.step hb2)
  have XJ2 := Lib.hid (XJ1.out.step hb2)
  clear hb2
  have XI2_lt := XI2.out.lt
  have XI2_i0 := XI2.out.i0
  have XI2_i1 := XI2.out.i1
  have XI2_i2 := XI2.out.i2
  have XI2_i3 := XI2.out.i3
  have XI2_i4 := XI2.out.i4
  have XJ2_lt := XJ2.out.lt
  have XJ2_i0 := XJ2.out.i0
  have XJ2_i1 := XJ2.out.i1
  have XJ2_i2 := XJ2.out.i2
  have XJ2_i3 := XJ2.out.i3
  have XJ2_i4 := XJ2.out.i4
  go_wp2_with fail
  refine (H1.out _).mono ?_
  rintro e w3 ⟨vP, rfl, o3, hb3⟩
  have XP3 := Lib.hid o3
  clear o3
  have B3 := Lib.hid (below_next B2.out hb3)
  have XI3 := Lib.hid (XI2.out.step hb3)
  have XJ3 := Lib.hid (XJ2.out.step hb3)
  clear hb3
  have XI3_lt := XI3.out.lt
  have XI3_i0 := XI3.out.i0
  have XI3_i1 := XI3.out.i1
  have XI3_i2 := XI3.out.i2
  have XI3_i3 := XI3.out.i3
  have XI3_i4 := XI3.out.i4
  have XJ3_lt := XJ3.out.lt
  have XJ3_i0 := XJ3.out.i0
  have XJ3_i1 := XJ3.out.i1
  have XJ3_i2 := XJ3.out.i2
  have XJ3_i3 := XJ3.out.i3
  have XJ3_i4 := XJ3.out.i4
  obtain ⟨AP, cP, rfl⟩ := own_none XP3.out hlen
  clear XP3
  go_wp2_with fail
  refine wp_loop_rounds 1 ?_
  rw [rounds_succ]
  go_wp2_with fail
  have S0 := keepII (below_dr w3) ⟨XI3.out.i0, XI3.out.i1, XI3.out.i2, XI3.out.i3, XI3.out.i4, XJ3.out.i0, XJ3.out.i1, XJ3.out.i2, XJ3.out.i3, XJ3.out.i4, XI3.out.lt, XJ3.out.lt, B3.out⟩
  have HS0 := Lib.hid S0
  clear S0
  first
    | (go_region_held3 (fun W => W.cell? ⟨w.heap.size, 0, none⟩ = some (.int .u8 op) ∧ W.cell? ⟨w.heap.size, 1, none⟩ = some (.int .i64 a) ∧ W.cell? ⟨w.heap.size, 2, none⟩ = some (.int .i64 b) ∧ W.cell? ⟨w.heap.size, 3, none⟩ = some (.int .i64 c) ∧ W.cell? ⟨w.heap.size, 4, none⟩ = some (.int .i64 m) ∧ W.cell? ⟨(w.heap.size + 1), 0, none⟩ = some (.int .u8 op') ∧ W.cell? ⟨(w.heap.size + 1), 1, none⟩ = some (.int .i64 a') ∧ W.cell? ⟨(w.heap.size + 1), 2, none⟩ = some (.int .i64 b') ∧ W.cell? ⟨(w.heap.size + 1), 3, none⟩ = some (.int .i64 c') ∧ W.cell? ⟨(w.heap.size + 1), 4, none⟩ = some (.int .i64 m') ∧ w.heap.size < W.heap.size ∧ (w.heap.size + 1) < W.heap.size ∧ Below w.heap.size w W)
         (((repeat (apply keepII; assumption)); exact HS0.out))
         (first | (go_at_call 39; refine (H3.out _).mono ?_; rintro e w' ⟨rfl, hb'⟩) | (go_at_call 41; refine (H4.out _).mono ?_; rintro e w' ⟨rfl, hb'⟩) | (go_at_call 41; refine (H5.out _).mono ?_; rintro e w' ⟨rfl, hb'⟩)))
    | fail
  rename_i hH
  have B9 := Lib.hid hH.2.2.2.2.2.2.2.2.2.2.2.2
  clear hH
  go_wp2_with fail
  go_ret
  exact ⟨rfl, B9.out⟩
set_option maxRecDepth 100000 in
set_option maxHeartbeats 4000000 in
theorem rd_none_120_0 (op a b c m op' a' b' c' m' : Int) (h0 : 0 ≤ op) (h1 : op ≤ 255) (h0' : 0 ≤ op') (h1' : op' ≤ 255) (L : List Int) (hL : readsV op' a' b' c' m' = L) (hlen : L.length = 0) (hsm : L.length ≤ 100) (r : Int) (hr : wrV op a b c m = r) (hok : wrOK op a b c m = true) (X : Int) (hX : nextV op a b c m = X) (q18 : (op == 18) = false) (q20 : (op == 20) = true) (hq : L.contains r = false) (hz' : hazB op' a' b' c' m' X = false) (hz0 : hazB op' a' b' c' m' 0 = false) (w : World) :
    Calls Try.prog 16 #[.agg #[.int .u8 op, .int .i64 a, .int .i64 b, .int .i64 c, .int .i64 m], .agg #[.int .u8 op', .int .i64 a', .int .i64 b', .int .i64 c', .int .i64 m']] w fun e w' => e = .returned (.bool true) ∧ Below w.heap.size w w' := by
  have rd1 := fun W => reads_any op' a' b' c' m' h0' h1' W
  rw [hL] at rd1
  have H1 := Lib.hid rd1
  have H2 := Lib.hid (fun W => writes_any op a b c m h0 h1 r true hr hok W)
  have H3 := Lib.hid (fun W => next_any op a b c m h0 h1 X hX W)
  have H4 := Lib.hid (fun W => hazard_any X op' a' b' c' m' h0' h1' false hz' W)
  have H5 := Lib.hid (fun W => hazard_any 0 op' a' b' c' m' h0' h1' false hz0 W)
  have Hq := Lib.hid hq
  clear rd1 hL hr hok hX hz' hz0 hq
  go_enter Try.func16, Try.ntmps16
  go_wp2_with fail
  have XI0 := Lib.hid (IF.newAt (op) (a) (b) (c) (m) (w) (w.heap.size) (by simp))
  have BxI0 := Lib.hid (below_new (Below.refl w.heap.size w) (.cells #[.int .u8 (op), .int .i64 (a), .int .i64 (b), .int .i64 (c), .int .i64 (m)] 23))
  have XI0' := Lib.hid (XI0.out.alloc (.cells #[.int .u8 (op'), .int .i64 (a'), .int .i64 (b'), .int .i64 (c'), .int .i64 (m')] 23))
  have XJ0 := Lib.hid (IF.newAt (op') (a') (b') (c') (m') ((w).alloc (.cells #[.int .u8 (op), .int .i64 (a), .int .i64 (b), .int .i64 (c), .int .i64 (m)] 23)) (w.heap.size + 1) (by simp))
  have BxJ0 := Lib.hid (below_new BxI0.out (.cells #[.int .u8 (op'), .int .i64 (a'), .int .i64 (b'), .int .i64 (c'), .int .i64 (m')] 23))
  have XI0'_lt := XI0'.out.lt
  have XI0'_i0 := XI0'.out.i0
  have XI0'_i1 := XI0'.out.i1
  have XI0'_i2 := XI0'.out.i2
  have XI0'_i3 := XI0'.out.i3
  have XI0'_i4 := XI0'.out.i4
  have XJ0_lt := XJ0.out.lt
  have XJ0_i0 := XJ0.out.i0
  have XJ0_i1 := XJ0.out.i1
  have XJ0_i2 := XJ0.out.i2
  have XJ0_i3 := XJ0.out.i3
  have XJ0_i4 := XJ0.out.i4
  refine (awake8 _).mono ?_
  rintro e w1 ⟨rfl, hb1⟩
  have B1 := Lib.hid (below_next BxJ0.out hb1)
  have XI1 := Lib.hid (XI0'.out.step hb1)
  have XJ1 := Lib.hid (XJ0.out.step hb1)
  clear hb1
  have XI1_lt := XI1.out.lt
  have XI1_i0 := XI1.out.i0
  have XI1_i1 := XI1.out.i1
  have XI1_i2 := XI1.out.i2
  have XI1_i3 := XI1.out.i3
  have XI1_i4 := XI1.out.i4
  have XJ1_lt := XJ1.out.lt
  have XJ1_i0 := XJ1.out.i0
  have XJ1_i1 := XJ1.out.i1
  have XJ1_i2 := XJ1.out.i2
  have XJ1_i3 := XJ1.out.i3
  have XJ1_i4 := XJ1.out.i4
  go_wp2_with fail
  refine (H2.out _).mono ?_
  rintro e w2 ⟨rfl, hb2⟩
  have B2 := Lib.hid (below_next B1.out hb2)
  have XI2 := Lib.hid (XI1.out.step hb2)
  have XJ2 := Lib.hid (XJ1.out.step hb2)
  clear hb2
  have XI2_lt := XI2.out.lt
  have XI2_i0 := XI2.out.i0
  have XI2_i1 := XI2.out.i1
  have XI2_i2 := XI2.out.i2
  have XI2_i3 := XI2.out.i3
  have XI2_i4 := XI2.out.i4
  have XJ2_lt := XJ2.out.lt
  have XJ2_i0 := XJ2.out.i0
  have XJ2_i1 := XJ2.out.i1
  have XJ2_i2 := XJ2.out.i2
  have XJ2_i3 := XJ2.out.i3
  have XJ2_i4 := XJ2.out.i4
  go_wp2_with fail
  refine (H1.out _).mono ?_
  rintro e w3 ⟨vP, rfl, o3, hb3⟩
  have XP3 := Lib.hid o3
  clear o3
  have B3 := Lib.hid (below_next B2.out hb3)
  have XI3 := Lib.hid (XI2.out.step hb3)
  have XJ3 := Lib.hid (XJ2.out.step hb3)
  clear hb3
  have XI3_lt := XI3.out.lt
  have XI3_i0 := XI3.out.i0
  have XI3_i1 := XI3.out.i1
  have XI3_i2 := XI3.out.i2
  have XI3_i3 := XI3.out.i3
  have XI3_i4 := XI3.out.i4
  have XJ3_lt := XJ3.out.lt
  have XJ3_i0 := XJ3.out.i0
  have XJ3_i1 := XJ3.out.i1
  have XJ3_i2 := XJ3.out.i2
  have XJ3_i3 := XJ3.out.i3
  have XJ3_i4 := XJ3.out.i4
  obtain ⟨AP, cP, rfl⟩ := own_none XP3.out hlen
  clear XP3
  go_wp2_with fail
  refine wp_loop_rounds 1 ?_
  rw [rounds_succ]
  go_wp2_with fail
  have S0 := keepII (below_dr w3) ⟨XI3.out.i0, XI3.out.i1, XI3.out.i2, XI3.out.i3, XI3.out.i4, XJ3.out.i0, XJ3.out.i1, XJ3.out.i2, XJ3.out.i3, XJ3.out.i4, XI3.out.lt, XJ3.out.lt, B3.out⟩
  have HS0 := Lib.hid S0
  clear S0
  first
    | (go_region_held3 (fun W => W.cell? ⟨w.heap.size, 0, none⟩ = some (.int .u8 op) ∧ W.cell? ⟨w.heap.size, 1, none⟩ = some (.int .i64 a) ∧ W.cell? ⟨w.heap.size, 2, none⟩ = some (.int .i64 b) ∧ W.cell? ⟨w.heap.size, 3, none⟩ = some (.int .i64 c) ∧ W.cell? ⟨w.heap.size, 4, none⟩ = some (.int .i64 m) ∧ W.cell? ⟨(w.heap.size + 1), 0, none⟩ = some (.int .u8 op') ∧ W.cell? ⟨(w.heap.size + 1), 1, none⟩ = some (.int .i64 a') ∧ W.cell? ⟨(w.heap.size + 1), 2, none⟩ = some (.int .i64 b') ∧ W.cell? ⟨(w.heap.size + 1), 3, none⟩ = some (.int .i64 c') ∧ W.cell? ⟨(w.heap.size + 1), 4, none⟩ = some (.int .i64 m') ∧ w.heap.size < W.heap.size ∧ (w.heap.size + 1) < W.heap.size ∧ Below w.heap.size w W)
         (((repeat (apply keepII; assumption)); exact HS0.out))
         (first | (go_at_call 39; refine (H3.out _).mono ?_; rintro e w' ⟨rfl, hb'⟩) | (go_at_call 41; refine (H4.out _).mono ?_; rintro e w' ⟨rfl, hb'⟩) | (go_at_call 41; refine (H5.out _).mono ?_; rintro e w' ⟨rfl, hb'⟩)))
    | fail
  rename_i hH
  have B9 := Lib.hid hH.2.2.2.2.2.2.2.2.2.2.2.2
  clear hH
  go_wp2_with fail
  go_ret
  exact ⟨rfl, B9.out⟩
set_option maxRecDepth 100000 in
set_option maxHeartbeats 4000000 in
theorem rd_none_126_0 (op a b c m op' a' b' c' m' : Int) (h0 : 0 ≤ op) (h1 : op ≤ 255) (h0' : 0 ≤ op') (h1' : op' ≤ 255) (L : List Int) (hL : readsV op' a' b' c' m' = L) (hlen : L.length = 0) (hsm : L.length ≤ 100) (r : Int) (hr : wrV op a b c m = r) (hok : wrOK op a b c m = true) (X : Int) (hX : nextV op a b c m = X) (q18 : (op == 18) = false) (q20 : (op == 20) = false) (q26 : (op == 26) = true) (hq : L.contains r = false) (hz' : hazB op' a' b' c' m' X = false) (hz0 : hazB op' a' b' c' m' 0 = false) (w : World) :
    Calls Try.prog 16 #[.agg #[.int .u8 op, .int .i64 a, .int .i64 b, .int .i64 c, .int .i64 m], .agg #[.int .u8 op', .int .i64 a', .int .i64 b', .int .i64 c', .int .i64 m']] w fun e w' => e = .returned (.bool true) ∧ Below w.heap.size w w' := by
  have rd1 := fun W => reads_any op' a' b' c' m' h0' h1' W
  rw [hL] at rd1
  have H1 := Lib.hid rd1
  have H2 := Lib.hid (fun W => writes_any op a b c m h0 h1 r true hr hok W)
  have H3 := Lib.hid (fun W => next_any op a b c m h0 h1 X hX W)
  have H4 := Lib.hid (fun W => hazard_any X op' a' b' c' m' h0' h1' false hz' W)
  have H5 := Lib.hid (fun W => hazard_any 0 op' a' b' c' m' h0' h1' false hz0 W)
  have Hq := Lib.hid hq
  clear rd1 hL hr hok hX hz' hz0 hq
  go_enter Try.func16, Try.ntmps16
  go_wp2_with fail
  have XI0 := Lib.hid (IF.newAt (op) (a) (b) (c) (m) (w) (w.heap.size) (by simp))
  have BxI0 := Lib.hid (below_new (Below.refl w.heap.size w) (.cells #[.int .u8 (op), .int .i64 (a), .int .i64 (b), .int .i64 (c), .int .i64 (m)] 23))
  have XI0' := Lib.hid (XI0.out.alloc (.cells #[.int .u8 (op'), .int .i64 (a'), .int .i64 (b'), .int .i64 (c'), .int .i64 (m')] 23))
  have XJ0 := Lib.hid (IF.newAt (op') (a') (b') (c') (m') ((w).alloc (.cells #[.int .u8 (op), .int .i64 (a), .int .i64 (b), .int .i64 (c), .int .i64 (m)] 23)) (w.heap.size + 1) (by simp))
  have BxJ0 := Lib.hid (below_new BxI0.out (.cells #[.int .u8 (op'), .int .i64 (a'), .int .i64 (b'), .int .i64 (c'), .int .i64 (m')] 23))
  have XI0'_lt := XI0'.out.lt
  have XI0'_i0 := XI0'.out.i0
  have XI0'_i1 := XI0'.out.i1
  have XI0'_i2 := XI0'.out.i2
  have XI0'_i3 := XI0'.out.i3
  have XI0'_i4 := XI0'.out.i4
  have XJ0_lt := XJ0.out.lt
  have XJ0_i0 := XJ0.out.i0
  have XJ0_i1 := XJ0.out.i1
  have XJ0_i2 := XJ0.out.i2
  have XJ0_i3 := XJ0.out.i3
  have XJ0_i4 := XJ0.out.i4
  refine (awake8 _).mono ?_
  rintro e w1 ⟨rfl, hb1⟩
  have B1 := Lib.hid (below_next BxJ0.out hb1)
  have XI1 := Lib.hid (XI0'.out.step hb1)
  have XJ1 := Lib.hid (XJ0.out.step hb1)
  clear hb1
  have XI1_lt := XI1.out.lt
  have XI1_i0 := XI1.out.i0
  have XI1_i1 := XI1.out.i1
  have XI1_i2 := XI1.out.i2
  have XI1_i3 := XI1.out.i3
  have XI1_i4 := XI1.out.i4
  have XJ1_lt := XJ1.out.lt
  have XJ1_i0 := XJ1.out.i0
  have XJ1_i1 := XJ1.out.i1
  have XJ1_i2 := XJ1.out.i2
  have XJ1_i3 := XJ1.out.i3
  have XJ1_i4 := XJ1.out.i4
  go_wp2_with fail
  refine (H2.out _).mono ?_
  rintro e w2 ⟨rfl, hb2⟩
  have B2 := Lib.hid (below_next B1.out hb2)
  have XI2 := Lib.hid (XI1.out.step hb2)
  have XJ2 := Lib.hid (XJ1.out.step hb2)
  clear hb2
  have XI2_lt := XI2.out.lt
  have XI2_i0 := XI2.out.i0
  have XI2_i1 := XI2.out.i1
  have XI2_i2 := XI2.out.i2
  have XI2_i3 := XI2.out.i3
  have XI2_i4 := XI2.out.i4
  have XJ2_lt := XJ2.out.lt
  have XJ2_i0 := XJ2.out.i0
  have XJ2_i1 := XJ2.out.i1
  have XJ2_i2 := XJ2.out.i2
  have XJ2_i3 := XJ2.out.i3
  have XJ2_i4 := XJ2.out.i4
  go_wp2_with fail
  refine (H1.out _).mono ?_
  rintro e w3 ⟨vP, rfl, o3, hb3⟩
  have XP3 := Lib.hid o3
  clear o3
  have B3 := Lib.hid (below_next B2.out hb3)
  have XI3 := Lib.hid (XI2.out.step hb3)
  have XJ3 := Lib.hid (XJ2.out.step hb3)
  clear hb3
  have XI3_lt := XI3.out.lt
  have XI3_i0 := XI3.out.i0
  have XI3_i1 := XI3.out.i1
  have XI3_i2 := XI3.out.i2
  have XI3_i3 := XI3.out.i3
  have XI3_i4 := XI3.out.i4
  have XJ3_lt := XJ3.out.lt
  have XJ3_i0 := XJ3.out.i0
  have XJ3_i1 := XJ3.out.i1
  have XJ3_i2 := XJ3.out.i2
  have XJ3_i3 := XJ3.out.i3
  have XJ3_i4 := XJ3.out.i4
  obtain ⟨AP, cP, rfl⟩ := own_none XP3.out hlen
  clear XP3
  go_wp2_with fail
  refine wp_loop_rounds 1 ?_
  rw [rounds_succ]
  go_wp2_with fail
  have S0 := keepII (below_dr w3) ⟨XI3.out.i0, XI3.out.i1, XI3.out.i2, XI3.out.i3, XI3.out.i4, XJ3.out.i0, XJ3.out.i1, XJ3.out.i2, XJ3.out.i3, XJ3.out.i4, XI3.out.lt, XJ3.out.lt, B3.out⟩
  have HS0 := Lib.hid S0
  clear S0
  first
    | (go_region_held3 (fun W => W.cell? ⟨w.heap.size, 0, none⟩ = some (.int .u8 op) ∧ W.cell? ⟨w.heap.size, 1, none⟩ = some (.int .i64 a) ∧ W.cell? ⟨w.heap.size, 2, none⟩ = some (.int .i64 b) ∧ W.cell? ⟨w.heap.size, 3, none⟩ = some (.int .i64 c) ∧ W.cell? ⟨w.heap.size, 4, none⟩ = some (.int .i64 m) ∧ W.cell? ⟨(w.heap.size + 1), 0, none⟩ = some (.int .u8 op') ∧ W.cell? ⟨(w.heap.size + 1), 1, none⟩ = some (.int .i64 a') ∧ W.cell? ⟨(w.heap.size + 1), 2, none⟩ = some (.int .i64 b') ∧ W.cell? ⟨(w.heap.size + 1), 3, none⟩ = some (.int .i64 c') ∧ W.cell? ⟨(w.heap.size + 1), 4, none⟩ = some (.int .i64 m') ∧ w.heap.size < W.heap.size ∧ (w.heap.size + 1) < W.heap.size ∧ Below w.heap.size w W)
         (((repeat (apply keepII; assumption)); exact HS0.out))
         (first | (go_at_call 39; refine (H3.out _).mono ?_; rintro e w' ⟨rfl, hb'⟩) | (go_at_call 41; refine (H4.out _).mono ?_; rintro e w' ⟨rfl, hb'⟩) | (go_at_call 41; refine (H5.out _).mono ?_; rintro e w' ⟨rfl, hb'⟩)))
    | fail
  rename_i hH
  have B9 := Lib.hid hH.2.2.2.2.2.2.2.2.2.2.2.2
  clear hH
  go_wp2_with fail
  go_ret
  exact ⟨rfl, B9.out⟩
set_option maxRecDepth 100000 in
set_option maxHeartbeats 4000000 in
theorem rd_none_1no_0 (op a b c m op' a' b' c' m' : Int) (h0 : 0 ≤ op) (h1 : op ≤ 255) (h0' : 0 ≤ op') (h1' : op' ≤ 255) (L : List Int) (hL : readsV op' a' b' c' m' = L) (hlen : L.length = 0) (hsm : L.length ≤ 100) (r : Int) (hr : wrV op a b c m = r) (hok : wrOK op a b c m = true) (X : Int) (hX : nextV op a b c m = X) (q18 : (op == 18) = false) (q20 : (op == 20) = false) (q26 : (op == 26) = false) (hq : L.contains r = false) (hz' : hazB op' a' b' c' m' X = false) (hz0 : hazB op' a' b' c' m' 0 = false) (w : World) :
    Calls Try.prog 16 #[.agg #[.int .u8 op, .int .i64 a, .int .i64 b, .int .i64 c, .int .i64 m], .agg #[.int .u8 op', .int .i64 a', .int .i64 b', .int .i64 c', .int .i64 m']] w fun e w' => e = .returned (.bool true) ∧ Below w.heap.size w w' := by
  have rd1 := fun W => reads_any op' a' b' c' m' h0' h1' W
  rw [hL] at rd1
  have H1 := Lib.hid rd1
  have H2 := Lib.hid (fun W => writes_any op a b c m h0 h1 r true hr hok W)
  have H3 := Lib.hid (fun W => next_any op a b c m h0 h1 X hX W)
  have H4 := Lib.hid (fun W => hazard_any X op' a' b' c' m' h0' h1' false hz' W)
  have H5 := Lib.hid (fun W => hazard_any 0 op' a' b' c' m' h0' h1' false hz0 W)
  have Hq := Lib.hid hq
  clear rd1 hL hr hok hX hz' hz0 hq
  go_enter Try.func16, Try.ntmps16
  go_wp2_with fail
  have XI0 := Lib.hid (IF.newAt (op) (a) (b) (c) (m) (w) (w.heap.size) (by simp))
  have BxI0 := Lib.hid (below_new (Below.refl w.heap.size w) (.cells #[.int .u8 (op), .int .i64 (a), .int .i64 (b), .int .i64 (c), .int .i64 (m)] 23))
  have XI0' := Lib.hid (XI0.out.alloc (.cells #[.int .u8 (op'), .int .i64 (a'), .int .i64 (b'), .int .i64 (c'), .int .i64 (m')] 23))
  have XJ0 := Lib.hid (IF.newAt (op') (a') (b') (c') (m') ((w).alloc (.cells #[.int .u8 (op), .int .i64 (a), .int .i64 (b), .int .i64 (c), .int .i64 (m)] 23)) (w.heap.size + 1) (by simp))
  have BxJ0 := Lib.hid (below_new BxI0.out (.cells #[.int .u8 (op'), .int .i64 (a'), .int .i64 (b'), .int .i64 (c'), .int .i64 (m')] 23))
  have XI0'_lt := XI0'.out.lt
  have XI0'_i0 := XI0'.out.i0
  have XI0'_i1 := XI0'.out.i1
  have XI0'_i2 := XI0'.out.i2
  have XI0'_i3 := XI0'.out.i3
  have XI0'_i4 := XI0'.out.i4
  have XJ0_lt := XJ0.out.lt
  have XJ0_i0 := XJ0.out.i0
  have XJ0_i1 := XJ0.out.i1
  have XJ0_i2 := XJ0.out.i2
  have XJ0_i3 := XJ0.out.i3
  have XJ0_i4 := XJ0.out.i4
  refine (awake8 _).mono ?_
  rintro e w1 ⟨rfl, hb1⟩
  have B1 := Lib.hid (below_next BxJ0.out hb1)
  have XI1 := Lib.hid (XI0'.out.step hb1)
  have XJ1 := Lib.hid (XJ0.out.step hb1)
  clear hb1
  have XI1_lt := XI1.out.lt
  have XI1_i0 := XI1.out.i0
  have XI1_i1 := XI1.out.i1
  have XI1_i2 := XI1.out.i2
  have XI1_i3 := XI1.out.i3
  have XI1_i4 := XI1.out.i4
  have XJ1_lt := XJ1.out.lt
  have XJ1_i0 := XJ1.out.i0
  have XJ1_i1 := XJ1.out.i1
  have XJ1_i2 := XJ1.out.i2
  have XJ1_i3 := XJ1.out.i3
  have XJ1_i4 := XJ1.out.i4
  go_wp2_with fail
  refine (H2.out _).mono ?_
  rintro e w2 ⟨rfl, hb2⟩
  have B2 := Lib.hid (below_next B1.out hb2)
  have XI2 := Lib.hid (XI1.out.step hb2)
  have XJ2 := Lib.hid (XJ1.out.step hb2)
  clear hb2
  have XI2_lt := XI2.out.lt
  have XI2_i0 := XI2.out.i0
  have XI2_i1 := XI2.out.i1
  have XI2_i2 := XI2.out.i2
  have XI2_i3 := XI2.out.i3
  have XI2_i4 := XI2.out.i4
  have XJ2_lt := XJ2.out.lt
  have XJ2_i0 := XJ2.out.i0
  have XJ2_i1 := XJ2.out.i1
  have XJ2_i2 := XJ2.out.i2
  have XJ2_i3 := XJ2.out.i3
  have XJ2_i4 := XJ2.out.i4
  go_wp2_with fail
  refine (H1.out _).mono ?_
  rintro e w3 ⟨vP, rfl, o3, hb3⟩
  have XP3 := Lib.hid o3
  clear o3
  have B3 := Lib.hid (below_next B2.out hb3)
  have XI3 := Lib.hid (XI2.out.step hb3)
  have XJ3 := Lib.hid (XJ2.out.step hb3)
  clear hb3
  have XI3_lt := XI3.out.lt
  have XI3_i0 := XI3.out.i0
  have XI3_i1 := XI3.out.i1
  have XI3_i2 := XI3.out.i2
  have XI3_i3 := XI3.out.i3
  have XI3_i4 := XI3.out.i4
  have XJ3_lt := XJ3.out.lt
  have XJ3_i0 := XJ3.out.i0
  have XJ3_i1 := XJ3.out.i1
  have XJ3_i2 := XJ3.out.i2
  have XJ3_i3 := XJ3.out.i3
  have XJ3_i4 := XJ3.out.i4
  obtain ⟨AP, cP, rfl⟩ := own_none XP3.out hlen
  clear XP3
  go_wp2_with fail
  refine wp_loop_rounds 1 ?_
  rw [rounds_succ]
  go_wp2_with fail
  have S0 := keepII (below_dr w3) ⟨XI3.out.i0, XI3.out.i1, XI3.out.i2, XI3.out.i3, XI3.out.i4, XJ3.out.i0, XJ3.out.i1, XJ3.out.i2, XJ3.out.i3, XJ3.out.i4, XI3.out.lt, XJ3.out.lt, B3.out⟩
  have HS0 := Lib.hid S0
  clear S0
  first
    | (go_region_held (fun W => W.cell? ⟨w.heap.size, 0, none⟩ = some (.int .u8 op) ∧ W.cell? ⟨w.heap.size, 1, none⟩ = some (.int .i64 a) ∧ W.cell? ⟨w.heap.size, 2, none⟩ = some (.int .i64 b) ∧ W.cell? ⟨w.heap.size, 3, none⟩ = some (.int .i64 c) ∧ W.cell? ⟨w.heap.size, 4, none⟩ = some (.int .i64 m) ∧ W.cell? ⟨(w.heap.size + 1), 0, none⟩ = some (.int .u8 op') ∧ W.cell? ⟨(w.heap.size + 1), 1, none⟩ = some (.int .i64 a') ∧ W.cell? ⟨(w.heap.size + 1), 2, none⟩ = some (.int .i64 b') ∧ W.cell? ⟨(w.heap.size + 1), 3, none⟩ = some (.int .i64 c') ∧ W.cell? ⟨(w.heap.size + 1), 4, none⟩ = some (.int .i64 m') ∧ w.heap.size < W.heap.size ∧ (w.heap.size + 1) < W.heap.size ∧ Below w.heap.size w W)
         (((repeat (apply keepII; assumption)); exact HS0.out))
         (first | (go_at_call 39; refine (H3.out _).mono ?_; rintro e w' ⟨rfl, hb'⟩) | (go_at_call 41; refine (H4.out _).mono ?_; rintro e w' ⟨rfl, hb'⟩) | (go_at_call 41; refine (H5.out _).mono ?_; rintro e w' ⟨rfl, hb'⟩)))
    | fail
  rename_i hH
  have B9 := Lib.hid hH.2.2.2.2.2.2.2.2.2.2.2.2
  clear hH
  go_wp2_with fail
  go_ret
  exact ⟨rfl, B9.out⟩
set_option maxRecDepth 100000 in
set_option maxHeartbeats 4000000 in
theorem rd_some_0any_0 (op a b c m op' a' b' c' m' : Int) (h0 : 0 ≤ op) (h1 : op ≤ 255) (h0' : 0 ≤ op') (h1' : op' ≤ 255) (L : List Int) (hL : readsV op' a' b' c' m' = L) (hlen : L.length ≠ 0) (hsm : L.length ≤ 100) (r : Int) (hr : wrV op a b c m = r) (hok : wrOK op a b c m = false) (X : Int) (hX : nextV op a b c m = X) (hq : L.contains r = false) (hz' : hazB op' a' b' c' m' X = false) (hz0 : hazB op' a' b' c' m' 0 = false) (w : World) :
    Calls Try.prog 16 #[.agg #[.int .u8 op, .int .i64 a, .int .i64 b, .int .i64 c, .int .i64 m], .agg #[.int .u8 op', .int .i64 a', .int .i64 b', .int .i64 c', .int .i64 m']] w fun e w' => e = .returned (.bool true) ∧ Below w.heap.size w w' := by
  have rd1 := fun W => reads_any op' a' b' c' m' h0' h1' W
  rw [hL] at rd1
  have H1 := Lib.hid rd1
  have H2 := Lib.hid (fun W => writes_any op a b c m h0 h1 r false hr hok W)
  have H3 := Lib.hid (fun W => next_any op a b c m h0 h1 X hX W)
  have H4 := Lib.hid (fun W => hazard_any X op' a' b' c' m' h0' h1' false hz' W)
  have H5 := Lib.hid (fun W => hazard_any 0 op' a' b' c' m' h0' h1' false hz0 W)
  have Hq := Lib.hid hq
  clear rd1 hL hr hok hX hz' hz0 hq
  go_enter Try.func16, Try.ntmps16
  go_wp2_with fail
  have XI0 := Lib.hid (IF.newAt (op) (a) (b) (c) (m) (w) (w.heap.size) (by simp))
  have BxI0 := Lib.hid (below_new (Below.refl w.heap.size w) (.cells #[.int .u8 (op), .int .i64 (a), .int .i64 (b), .int .i64 (c), .int .i64 (m)] 23))
  have XI0' := Lib.hid (XI0.out.alloc (.cells #[.int .u8 (op'), .int .i64 (a'), .int .i64 (b'), .int .i64 (c'), .int .i64 (m')] 23))
  have XJ0 := Lib.hid (IF.newAt (op') (a') (b') (c') (m') ((w).alloc (.cells #[.int .u8 (op), .int .i64 (a), .int .i64 (b), .int .i64 (c), .int .i64 (m)] 23)) (w.heap.size + 1) (by simp))
  have BxJ0 := Lib.hid (below_new BxI0.out (.cells #[.int .u8 (op'), .int .i64 (a'), .int .i64 (b'), .int .i64 (c'), .int .i64 (m')] 23))
  have XI0'_lt := XI0'.out.lt
  have XI0'_i0 := XI0'.out.i0
  have XI0'_i1 := XI0'.out.i1
  have XI0'_i2 := XI0'.out.i2
  have XI0'_i3 := XI0'.out.i3
  have XI0'_i4 := XI0'.out.i4
  have XJ0_lt := XJ0.out.lt
  have XJ0_i0 := XJ0.out.i0
  have XJ0_i1 := XJ0.out.i1
  have XJ0_i2 := XJ0.out.i2
  have XJ0_i3 := XJ0.out.i3
  have XJ0_i4 := XJ0.out.i4
  refine (awake8 _).mono ?_
  rintro e w1 ⟨rfl, hb1⟩
  have B1 := Lib.hid (below_next BxJ0.out hb1)
  have XI1 := Lib.hid (XI0'.out.step hb1)
  have XJ1 := Lib.hid (XJ0.out.step hb1)
  clear hb1
  have XI1_lt := XI1.out.lt
  have XI1_i0 := XI1.out.i0
  have XI1_i1 := XI1.out.i1
  have XI1_i2 := XI1.out.i2
  have XI1_i3 := XI1.out.i3
  have XI1_i4 := XI1.out.i4
  have XJ1_lt := XJ1.out.lt
  have XJ1_i0 := XJ1.out.i0
  have XJ1_i1 := XJ1.out.i1
  have XJ1_i2 := XJ1.out.i2
  have XJ1_i3 := XJ1.out.i3
  have XJ1_i4 := XJ1.out.i4
  go_wp2_with fail
  refine (H2.out _).mono ?_
  rintro e w2 ⟨rfl, hb2⟩
  have B2 := Lib.hid (below_next B1.out hb2)
  have XI2 := Lib.hid (XI1.out.step hb2)
  have XJ2 := Lib.hid (XJ1.out.step hb2)
  clear hb2
  have XI2_lt := XI2.out.lt
  have XI2_i0 := XI2.out.i0
  have XI2_i1 := XI2.out.i1
  have XI2_i2 := XI2.out.i2
  have XI2_i3 := XI2.out.i3
  have XI2_i4 := XI2.out.i4
  have XJ2_lt := XJ2.out.lt
  have XJ2_i0 := XJ2.out.i0
  have XJ2_i1 := XJ2.out.i1
  have XJ2_i2 := XJ2.out.i2
  have XJ2_i3 := XJ2.out.i3
  have XJ2_i4 := XJ2.out.i4
  go_wp2_with fail
  refine (H1.out _).mono ?_
  rintro e w3 ⟨vP, rfl, o3, hb3⟩
  have XP3 := Lib.hid o3
  clear o3
  have B3 := Lib.hid (below_next B2.out hb3)
  have XI3 := Lib.hid (XI2.out.step hb3)
  have XJ3 := Lib.hid (XJ2.out.step hb3)
  clear hb3
  have XI3_lt := XI3.out.lt
  have XI3_i0 := XI3.out.i0
  have XI3_i1 := XI3.out.i1
  have XI3_i2 := XI3.out.i2
  have XI3_i3 := XI3.out.i3
  have XI3_i4 := XI3.out.i4
  have XJ3_lt := XJ3.out.lt
  have XJ3_i0 := XJ3.out.i0
  have XJ3_i1 := XJ3.out.i1
  have XJ3_i2 := XJ3.out.i2
  have XJ3_i3 := XJ3.out.i3
  have XJ3_i4 := XJ3.out.i4
  obtain ⟨gP, cP, rfl, _, hP⟩ := own_some XP3.out hlen
  have FP := Lib.hid hP
  clear hP XP3
  go_wp2_with fail
  go_loopw [8, 37] (fun t i wr => ∃ (k : Nat) (z : Bool), k ≤ L.length ∧ i = .int .i64 k ∧ t = .bool z ∧ z = (L.take k).contains r ∧ RF gP L wr ∧ IF w.heap.size op a b c m wr ∧ IF (w.heap.size + 1) op' a' b' c' m' wr ∧ Below w.heap.size w wr) (fun _ i _ => L.length - (intOf i).toNat)
  case atStart => exact ⟨0, false, by omega, rfl, rfl, by simp, FP.out, XI3.out, XJ3.out, B3.out⟩
  case round =>
    obtain ⟨k, z, hk, rfl, rfl, hz, hP, hI, hJ, hB⟩ := hrel
    have GP := Lib.hid hP
    have GI := Lib.hid hI
    have GJ := Lib.hid hJ
    have GB := Lib.hid hB
    have Hz := Lib.hid hz
    clear hP hI hJ hB hz FP
    by_cases hlt : k < L.length
    · have c1 := GP.out.at_ k hlt
      obtain ⟨x, hx⟩ : ∃ x, L.getD k 0 = x := ⟨_, rfl⟩
      have htk : L.take (k + 1) = L.take k ++ [x] := by
        rw [List.take_add_one, ← hx, List.getD_eq_getElem?_getD, List.getElem?_eq_getElem hlt]; simp
      rw [hx] at c1
      have Htk := Lib.hid htk
      clear hx htk
      cases z
      · by_cases he : x = r
        · have e1 : (x == r) = true := by simpa using he
          have He := Lib.hid he
          clear he
          go_wp2_with fail
          go_roundw
          case rel => exact ⟨k + 1, true, by omega, by go_num, rfl, by rw [Htk.out, He.out]; simp, GP.out, GI.out, GJ.out, GB.out⟩
          case measure => simp [intOf]; omega
        · have e1 : (x == r) = false := by simpa using he
          have He := Lib.hid he
          clear he
          go_wp2_with fail
          go_roundw
          case rel => exact ⟨k + 1, false, by omega, by go_num, rfl, by
            have h := Hz.out
            have hn : ¬ r = x := fun h => He.out h.symm
            rw [Htk.out]
            simp at h ⊢
            exact ⟨h, hn⟩, GP.out, GI.out, GJ.out, GB.out⟩
          case measure => simp [intOf]; omega
      · go_wp2_with fail
        go_roundw
        case rel => exact ⟨k + 1, true, by omega, by go_num, rfl, by
          have h := Hz.out
          rw [Htk.out]
          simp at h ⊢
          exact .inl h, GP.out, GI.out, GJ.out, GB.out⟩
        case measure => simp [intOf]; omega
    · have hkk : k = L.length := by omega
      have hzz : z = false := by rw [Hz.out, hkk, List.take_length]; exact Hq.out
      subst hzz hkk
      have GI_lt := GI.out.lt
      have GI_i0 := GI.out.i0
      have GI_i1 := GI.out.i1
      have GI_i2 := GI.out.i2
      have GI_i3 := GI.out.i3
      have GI_i4 := GI.out.i4
      have GJ_lt := GJ.out.lt
      have GJ_i0 := GJ.out.i0
      have GJ_i1 := GJ.out.i1
      have GJ_i2 := GJ.out.i2
      have GJ_i3 := GJ.out.i3
      have GJ_i4 := GJ.out.i4
      go_wp2_with fail
      have S0 := keepII (below_dr wr) ⟨GI.out.i0, GI.out.i1, GI.out.i2, GI.out.i3, GI.out.i4, GJ.out.i0, GJ.out.i1, GJ.out.i2, GJ.out.i3, GJ.out.i4, GI.out.lt, GJ.out.lt, GB.out⟩
      have HS0 := Lib.hid S0
      clear S0
      first
        | (go_region_held (fun W => W.cell? ⟨w.heap.size, 0, none⟩ = some (.int .u8 op) ∧ W.cell? ⟨w.heap.size, 1, none⟩ = some (.int .i64 a) ∧ W.cell? ⟨w.heap.size, 2, none⟩ = some (.int .i64 b) ∧ W.cell? ⟨w.heap.size, 3, none⟩ = some (.int .i64 c) ∧ W.cell? ⟨w.heap.size, 4, none⟩ = some (.int .i64 m) ∧ W.cell? ⟨(w.heap.size + 1), 0, none⟩ = some (.int .u8 op') ∧ W.cell? ⟨(w.heap.size + 1), 1, none⟩ = some (.int .i64 a') ∧ W.cell? ⟨(w.heap.size + 1), 2, none⟩ = some (.int .i64 b') ∧ W.cell? ⟨(w.heap.size + 1), 3, none⟩ = some (.int .i64 c') ∧ W.cell? ⟨(w.heap.size + 1), 4, none⟩ = some (.int .i64 m') ∧ w.heap.size < W.heap.size ∧ (w.heap.size + 1) < W.heap.size ∧ Below w.heap.size w W)
             (((repeat (apply keepII; assumption)); exact HS0.out))
             (first | (go_at_call 39; refine (H3.out _).mono ?_; rintro e w' ⟨rfl, hb'⟩) | (go_at_call 41; refine (H4.out _).mono ?_; rintro e w' ⟨rfl, hb'⟩) | (go_at_call 41; refine (H5.out _).mono ?_; rintro e w' ⟨rfl, hb'⟩)))
        | fail
      rename_i hH
      have B9 := Lib.hid hH.2.2.2.2.2.2.2.2.2.2.2.2
      clear hH
      go_wp2_with fail
      go_ret
      exact ⟨rfl, B9.out⟩
set_option maxRecDepth 100000 in
set_option maxHeartbeats 4000000 in
theorem rd_some_0any_1 (op a b c m op' a' b' c' m' : Int) (h0 : 0 ≤ op) (h1 : op ≤ 255) (h0' : 0 ≤ op') (h1' : op' ≤ 255) (L : List Int) (hL : readsV op' a' b' c' m' = L) (hlen : L.length ≠ 0) (hsm : L.length ≤ 100) (r : Int) (hr : wrV op a b c m = r) (hok : wrOK op a b c m = false) (X : Int) (hX : nextV op a b c m = X) (hq : L.contains r = true) (hz' : hazB op' a' b' c' m' X = false) (hz0 : hazB op' a' b' c' m' 0 = false) (w : World) :
    Calls Try.prog 16 #[.agg #[.int .u8 op, .int .i64 a, .int .i64 b, .int .i64 c, .int .i64 m], .agg #[.int .u8 op', .int .i64 a', .int .i64 b', .int .i64 c', .int .i64 m']] w fun e w' => e = .returned (.bool true) ∧ Below w.heap.size w w' := by
  have rd1 := fun W => reads_any op' a' b' c' m' h0' h1' W
  rw [hL] at rd1
  have H1 := Lib.hid rd1
  have H2 := Lib.hid (fun W => writes_any op a b c m h0 h1 r false hr hok W)
  have H3 := Lib.hid (fun W => next_any op a b c m h0 h1 X hX W)
  have H4 := Lib.hid (fun W => hazard_any X op' a' b' c' m' h0' h1' false hz' W)
  have H5 := Lib.hid (fun W => hazard_any 0 op' a' b' c' m' h0' h1' false hz0 W)
  have Hq := Lib.hid hq
  clear rd1 hL hr hok hX hz' hz0 hq
  go_enter Try.func16, Try.ntmps16
  go_wp2_with fail
  have XI0 := Lib.hid (IF.newAt (op) (a) (b) (c) (m) (w) (w.heap.size) (by simp))
  have BxI0 := Lib.hid (below_new (Below.refl w.heap.size w) (.cells #[.int .u8 (op), .int .i64 (a), .int .i64 (b), .int .i64 (c), .int .i64 (m)] 23))
  have XI0' := Lib.hid (XI0.out.alloc (.cells #[.int .u8 (op'), .int .i64 (a'), .int .i64 (b'), .int .i64 (c'), .int .i64 (m')] 23))
  have XJ0 := Lib.hid (IF.newAt (op') (a') (b') (c') (m') ((w).alloc (.cells #[.int .u8 (op), .int .i64 (a), .int .i64 (b), .int .i64 (c), .int .i64 (m)] 23)) (w.heap.size + 1) (by simp))
  have BxJ0 := Lib.hid (below_new BxI0.out (.cells #[.int .u8 (op'), .int .i64 (a'), .int .i64 (b'), .int .i64 (c'), .int .i64 (m')] 23))
  have XI0'_lt := XI0'.out.lt
  have XI0'_i0 := XI0'.out.i0
  have XI0'_i1 := XI0'.out.i1
  have XI0'_i2 := XI0'.out.i2
  have XI0'_i3 := XI0'.out.i3
  have XI0'_i4 := XI0'.out.i4
  have XJ0_lt := XJ0.out.lt
  have XJ0_i0 := XJ0.out.i0
  have XJ0_i1 := XJ0.out.i1
  have XJ0_i2 := XJ0.out.i2
  have XJ0_i3 := XJ0.out.i3
  have XJ0_i4 := XJ0.out.i4
  refine (awake8 _).mono ?_
  rintro e w1 ⟨rfl, hb1⟩
  have B1 := Lib.hid (below_next BxJ0.out hb1)
  have XI1 := Lib.hid (XI0'.out.step hb1)
  have XJ1 := Lib.hid (XJ0.out.step hb1)
  clear hb1
  have XI1_lt := XI1.out.lt
  have XI1_i0 := XI1.out.i0
  have XI1_i1 := XI1.out.i1
  have XI1_i2 := XI1.out.i2
  have XI1_i3 := XI1.out.i3
  have XI1_i4 := XI1.out.i4
  have XJ1_lt := XJ1.out.lt
  have XJ1_i0 := XJ1.out.i0
  have XJ1_i1 := XJ1.out.i1
  have XJ1_i2 := XJ1.out.i2
  have XJ1_i3 := XJ1.out.i3
  have XJ1_i4 := XJ1.out.i4
  go_wp2_with fail
  refine (H2.out _).mono ?_
  rintro e w2 ⟨rfl, hb2⟩
  have B2 := Lib.hid (below_next B1.out hb2)
  have XI2 := Lib.hid (XI1.out.step hb2)
  have XJ2 := Lib.hid (XJ1.out.step hb2)
  clear hb2
  have XI2_lt := XI2.out.lt
  have XI2_i0 := XI2.out.i0
  have XI2_i1 := XI2.out.i1
  have XI2_i2 := XI2.out.i2
  have XI2_i3 := XI2.out.i3
  have XI2_i4 := XI2.out.i4
  have XJ2_lt := XJ2.out.lt
  have XJ2_i0 := XJ2.out.i0
  have XJ2_i1 := XJ2.out.i1
  have XJ2_i2 := XJ2.out.i2
  have XJ2_i3 := XJ2.out.i3
  have XJ2_i4 := XJ2.out.i4
  go_wp2_with fail
  refine (H1.out _).mono ?_
  rintro e w3 ⟨vP, rfl, o3, hb3⟩
  have XP3 := Lib.hid o3
  clear o3
  have B3 := Lib.hid (below_next B2.out hb3)
  have XI3 := Lib.hid (XI2.out.step hb3)
  have XJ3 := Lib.hid (XJ2.out.step hb3)
  clear hb3
  have XI3_lt := XI3.out.lt
  have XI3_i0 := XI3.out.i0
  have XI3_i1 := XI3.out.i1
  have XI3_i2 := XI3.out.i2
  have XI3_i3 := XI3.out.i3
  have XI3_i4 := XI3.out.i4
  have XJ3_lt := XJ3.out.lt
  have XJ3_i0 := XJ3.out.i0
  have XJ3_i1 := XJ3.out.i1
  have XJ3_i2 := XJ3.out.i2
  have XJ3_i3 := XJ3.out.i3
  have XJ3_i4 := XJ3.out.i4
  obtain ⟨gP, cP, rfl, _, hP⟩ := own_some XP3.out hlen
  have FP := Lib.hid hP
  clear hP XP3
  go_wp2_with fail
  go_loopw [8, 37] (fun t i wr => ∃ (k : Nat) (z : Bool), k ≤ L.length ∧ i = .int .i64 k ∧ t = .bool z ∧ z = (L.take k).contains r ∧ RF gP L wr ∧ IF w.heap.size op a b c m wr ∧ IF (w.heap.size + 1) op' a' b' c' m' wr ∧ Below w.heap.size w wr) (fun _ i _ => L.length - (intOf i).toNat)
  case atStart => exact ⟨0, false, by omega, rfl, rfl, by simp, FP.out, XI3.out, XJ3.out, B3.out⟩
  case round =>
    obtain ⟨k, z, hk, rfl, rfl, hz, hP, hI, hJ, hB⟩ := hrel
    have GP := Lib.hid hP
    have GI := Lib.hid hI
    have GJ := Lib.hid hJ
    have GB := Lib.hid hB
    have Hz := Lib.hid hz
    clear hP hI hJ hB hz FP
    by_cases hlt : k < L.length
    · have c1 := GP.out.at_ k hlt
      obtain ⟨x, hx⟩ : ∃ x, L.getD k 0 = x := ⟨_, rfl⟩
      have htk : L.take (k + 1) = L.take k ++ [x] := by
        rw [List.take_add_one, ← hx, List.getD_eq_getElem?_getD, List.getElem?_eq_getElem hlt]; simp
      rw [hx] at c1
      have Htk := Lib.hid htk
      clear hx htk
      cases z
      · by_cases he : x = r
        · have e1 : (x == r) = true := by simpa using he
          have He := Lib.hid he
          clear he
          go_wp2_with fail
          go_roundw
          case rel => exact ⟨k + 1, true, by omega, by go_num, rfl, by rw [Htk.out, He.out]; simp, GP.out, GI.out, GJ.out, GB.out⟩
          case measure => simp [intOf]; omega
        · have e1 : (x == r) = false := by simpa using he
          have He := Lib.hid he
          clear he
          go_wp2_with fail
          go_roundw
          case rel => exact ⟨k + 1, false, by omega, by go_num, rfl, by
            have h := Hz.out
            have hn : ¬ r = x := fun h => He.out h.symm
            rw [Htk.out]
            simp at h ⊢
            exact ⟨h, hn⟩, GP.out, GI.out, GJ.out, GB.out⟩
          case measure => simp [intOf]; omega
      · go_wp2_with fail
        go_roundw
        case rel => exact ⟨k + 1, true, by omega, by go_num, rfl, by
          have h := Hz.out
          rw [Htk.out]
          simp at h ⊢
          exact .inl h, GP.out, GI.out, GJ.out, GB.out⟩
        case measure => simp [intOf]; omega
    · have hkk : k = L.length := by omega
      have hzz : z = true := by rw [Hz.out, hkk, List.take_length]; exact Hq.out
      subst hzz hkk
      have GI_lt := GI.out.lt
      have GI_i0 := GI.out.i0
      have GI_i1 := GI.out.i1
      have GI_i2 := GI.out.i2
      have GI_i3 := GI.out.i3
      have GI_i4 := GI.out.i4
      have GJ_lt := GJ.out.lt
      have GJ_i0 := GJ.out.i0
      have GJ_i1 := GJ.out.i1
      have GJ_i2 := GJ.out.i2
      have GJ_i3 := GJ.out.i3
      have GJ_i4 := GJ.out.i4
      go_wp2_with fail
      have S0 := keepII (below_dr wr) ⟨GI.out.i0, GI.out.i1, GI.out.i2, GI.out.i3, GI.out.i4, GJ.out.i0, GJ.out.i1, GJ.out.i2, GJ.out.i3, GJ.out.i4, GI.out.lt, GJ.out.lt, GB.out⟩
      have HS0 := Lib.hid S0
      clear S0
      first
        | (go_region_held (fun W => W.cell? ⟨w.heap.size, 0, none⟩ = some (.int .u8 op) ∧ W.cell? ⟨w.heap.size, 1, none⟩ = some (.int .i64 a) ∧ W.cell? ⟨w.heap.size, 2, none⟩ = some (.int .i64 b) ∧ W.cell? ⟨w.heap.size, 3, none⟩ = some (.int .i64 c) ∧ W.cell? ⟨w.heap.size, 4, none⟩ = some (.int .i64 m) ∧ W.cell? ⟨(w.heap.size + 1), 0, none⟩ = some (.int .u8 op') ∧ W.cell? ⟨(w.heap.size + 1), 1, none⟩ = some (.int .i64 a') ∧ W.cell? ⟨(w.heap.size + 1), 2, none⟩ = some (.int .i64 b') ∧ W.cell? ⟨(w.heap.size + 1), 3, none⟩ = some (.int .i64 c') ∧ W.cell? ⟨(w.heap.size + 1), 4, none⟩ = some (.int .i64 m') ∧ w.heap.size < W.heap.size ∧ (w.heap.size + 1) < W.heap.size ∧ Below w.heap.size w W)
             (((repeat (apply keepII; assumption)); exact HS0.out))
             (first | (go_at_call 39; refine (H3.out _).mono ?_; rintro e w' ⟨rfl, hb'⟩) | (go_at_call 41; refine (H4.out _).mono ?_; rintro e w' ⟨rfl, hb'⟩) | (go_at_call 41; refine (H5.out _).mono ?_; rintro e w' ⟨rfl, hb'⟩)))
        | fail
      rename_i hH
      have B9 := Lib.hid hH.2.2.2.2.2.2.2.2.2.2.2.2
      clear hH
      go_wp2_with fail
      go_ret
      exact ⟨rfl, B9.out⟩
set_option maxRecDepth 100000 in
set_option maxHeartbeats 4000000 in
theorem rd_some_118_0 (op a b c m op' a' b' c' m' : Int) (h0 : 0 ≤ op) (h1 : op ≤ 255) (h0' : 0 ≤ op') (h1' : op' ≤ 255) (L : List Int) (hL : readsV op' a' b' c' m' = L) (hlen : L.length ≠ 0) (hsm : L.length ≤ 100) (r : Int) (hr : wrV op a b c m = r) (hok : wrOK op a b c m = true) (X : Int) (hX : nextV op a b c m = X) (q18 : (op == 18) = true) (hq : L.contains r = false) (hz' : hazB op' a' b' c' m' X = false) (hz0 : hazB op' a' b' c' m' 0 = false) (w : World) :
    Calls Try.prog 16 #[.agg #[.int .u8 op, .int .i64 a, .int .i64 b, .int .i64 c, .int .i64 m], .agg #[.int .u8 op', .int .i64 a', .int .i64 b', .int .i64 c', .int .i64 m']] w fun e w' => e = .returned (.bool true) ∧ Below w.heap.size w w' := by
  have rd1 := fun W => reads_any op' a' b' c' m' h0' h1' W
  rw [hL] at rd1
  have H1 := Lib.hid rd1
  have H2 := Lib.hid (fun W => writes_any op a b c m h0 h1 r true hr hok W)
  have H3 := Lib.hid (fun W => next_any op a b c m h0 h1 X hX W)
  have H4 := Lib.hid (fun W => hazard_any X op' a' b' c' m' h0' h1' false hz' W)
  have H5 := Lib.hid (fun W => hazard_any 0 op' a' b' c' m' h0' h1' false hz0 W)
  have Hq := Lib.hid hq
  clear rd1 hL hr hok hX hz' hz0 hq
  go_enter Try.func16, Try.ntmps16
  go_wp2_with fail
  have XI0 := Lib.hid (IF.newAt (op) (a) (b) (c) (m) (w) (w.heap.size) (by simp))
  have BxI0 := Lib.hid (below_new (Below.refl w.heap.size w) (.cells #[.int .u8 (op), .int .i64 (a), .int .i64 (b), .int .i64 (c), .int .i64 (m)] 23))
  have XI0' := Lib.hid (XI0.out.alloc (.cells #[.int .u8 (op'), .int .i64 (a'), .int .i64 (b'), .int .i64 (c'), .int .i64 (m')] 23))
  have XJ0 := Lib.hid (IF.newAt (op') (a') (b') (c') (m') ((w).alloc (.cells #[.int .u8 (op), .int .i64 (a), .int .i64 (b), .int .i64 (c), .int .i64 (m)] 23)) (w.heap.size + 1) (by simp))
  have BxJ0 := Lib.hid (below_new BxI0.out (.cells #[.int .u8 (op'), .int .i64 (a'), .int .i64 (b'), .int .i64 (c'), .int .i64 (m')] 23))
  have XI0'_lt := XI0'.out.lt
  have XI0'_i0 := XI0'.out.i0
  have XI0'_i1 := XI0'.out.i1
  have XI0'_i2 := XI0'.out.i2
  have XI0'_i3 := XI0'.out.i3
  have XI0'_i4 := XI0'.out.i4
  have XJ0_lt := XJ0.out.lt
  have XJ0_i0 := XJ0.out.i0
  have XJ0_i1 := XJ0.out.i1
  have XJ0_i2 := XJ0.out.i2
  have XJ0_i3 := XJ0.out.i3
  have XJ0_i4 := XJ0.out.i4
  refine (awake8 _).mono ?_
  rintro e w1 ⟨rfl, hb1⟩
  have B1 := Lib.hid (below_next BxJ0.out hb1)
  have XI1 := Lib.hid (XI0'.out.step hb1)
  have XJ1 := Lib.hid (XJ0.out.step hb1)
  clear hb1
  have XI1_lt := XI1.out.lt
  have XI1_i0 := XI1.out.i0
  have XI1_i1 := XI1.out.i1
  have XI1_i2 := XI1.out.i2
  have XI1_i3 := XI1.out.i3
  have XI1_i4 := XI1.out.i4
  have XJ1_lt := XJ1.out.lt
  have XJ1_i0 := XJ1.out.i0
  have XJ1_i1 := XJ1.out.i1
  have XJ1_i2 := XJ1.out.i2
  have XJ1_i3 := XJ1.out.i3
  have XJ1_i4 := XJ1.out.i4
  go_wp2_with fail
  refine (H2.out _).mono ?_
  rintro e w2 ⟨rfl, hb2⟩
  have B2 := Lib.hid (below_next B1.out hb2)
  have XI2 := Lib.hid (XI1.out.step hb2)
  have XJ2 := Lib.hid (XJ1.out.step hb2)
  clear hb2
  have XI2_lt := XI2.out.lt
  have XI2_i0 := XI2.out.i0
  have XI2_i1 := XI2.out.i1
  have XI2_i2 := XI2.out.i2
  have XI2_i3 := XI2.out.i3
  have XI2_i4 := XI2.out.i4
  have XJ2_lt := XJ2.out.lt
  have XJ2_i0 := XJ2.out.i0
  have XJ2_i1 := XJ2.out.i1
  have XJ2_i2 := XJ2.out.i2
  have XJ2_i3 := XJ2.out.i3
  have XJ2_i4 := XJ2.out.i4
  go_wp2_with fail
  refine (H1.out _).mono ?_
  rintro e w3 ⟨vP, rfl, o3, hb3⟩
  have XP3 := Lib.hid o3
  clear o3
  have B3 := Lib.hid (below_next B2.out hb3)
  have XI3 := Lib.hid (XI2.out.step hb3)
  have XJ3 := Lib.hid (XJ2.out.step hb3)
  clear hb3
  have XI3_lt := XI3.out.lt
  have XI3_i0 := XI3.out.i0
  have XI3_i1 := XI3.out.i1
  have XI3_i2 := XI3.out.i2
  have XI3_i3 := XI3.out.i3
  have XI3_i4 := XI3.out.i4
  have XJ3_lt := XJ3.out.lt
  have XJ3_i0 := XJ3.out.i0
  have XJ3_i1 := XJ3.out.i1
  have XJ3_i2 := XJ3.out.i2
  have XJ3_i3 := XJ3.out.i3
  have XJ3_i4 := XJ3.out.i4
  obtain ⟨gP, cP, rfl, _, hP⟩ := own_some XP3.out hlen
  have FP := Lib.hid hP
  clear hP XP3
  go_wp2_with fail
  go_loopw [8, 37] (fun t i wr => ∃ (k : Nat) (z : Bool), k ≤ L.length ∧ i = .int .i64 k ∧ t = .bool z ∧ z = (L.take k).contains r ∧ RF gP L wr ∧ IF w.heap.size op a b c m wr ∧ IF (w.heap.size + 1) op' a' b' c' m' wr ∧ Below w.heap.size w wr) (fun _ i _ => L.length - (intOf i).toNat)
  case atStart => exact ⟨0, false, by omega, rfl, rfl, by simp, FP.out, XI3.out, XJ3.out, B3.out⟩
  case round =>
    obtain ⟨k, z, hk, rfl, rfl, hz, hP, hI, hJ, hB⟩ := hrel
    have GP := Lib.hid hP
    have GI := Lib.hid hI
    have GJ := Lib.hid hJ
    have GB := Lib.hid hB
    have Hz := Lib.hid hz
    clear hP hI hJ hB hz FP
    by_cases hlt : k < L.length
    · have c1 := GP.out.at_ k hlt
      obtain ⟨x, hx⟩ : ∃ x, L.getD k 0 = x := ⟨_, rfl⟩
      have htk : L.take (k + 1) = L.take k ++ [x] := by
        rw [List.take_add_one, ← hx, List.getD_eq_getElem?_getD, List.getElem?_eq_getElem hlt]; simp
      rw [hx] at c1
      have Htk := Lib.hid htk
      clear hx htk
      cases z
      · by_cases he : x = r
        · have e1 : (x == r) = true := by simpa using he
          have He := Lib.hid he
          clear he
          go_wp2_with fail
          go_roundw
          case rel => exact ⟨k + 1, true, by omega, by go_num, rfl, by rw [Htk.out, He.out]; simp, GP.out, GI.out, GJ.out, GB.out⟩
          case measure => simp [intOf]; omega
        · have e1 : (x == r) = false := by simpa using he
          have He := Lib.hid he
          clear he
          go_wp2_with fail
          go_roundw
          case rel => exact ⟨k + 1, false, by omega, by go_num, rfl, by
            have h := Hz.out
            have hn : ¬ r = x := fun h => He.out h.symm
            rw [Htk.out]
            simp at h ⊢
            exact ⟨h, hn⟩, GP.out, GI.out, GJ.out, GB.out⟩
          case measure => simp [intOf]; omega
      · go_wp2_with fail
        go_roundw
        case rel => exact ⟨k + 1, true, by omega, by go_num, rfl, by
          have h := Hz.out
          rw [Htk.out]
          simp at h ⊢
          exact .inl h, GP.out, GI.out, GJ.out, GB.out⟩
        case measure => simp [intOf]; omega
    · have hkk : k = L.length := by omega
      have hzz : z = false := by rw [Hz.out, hkk, List.take_length]; exact Hq.out
      subst hzz hkk
      have GI_lt := GI.out.lt
      have GI_i0 := GI.out.i0
      have GI_i1 := GI.out.i1
      have GI_i2 := GI.out.i2
      have GI_i3 := GI.out.i3
      have GI_i4 := GI.out.i4
      have GJ_lt := GJ.out.lt
      have GJ_i0 := GJ.out.i0
      have GJ_i1 := GJ.out.i1
      have GJ_i2 := GJ.out.i2
      have GJ_i3 := GJ.out.i3
      have GJ_i4 := GJ.out.i4
      go_wp2_with fail
      have S0 := keepII (below_dr wr) ⟨GI.out.i0, GI.out.i1, GI.out.i2, GI.out.i3, GI.out.i4, GJ.out.i0, GJ.out.i1, GJ.out.i2, GJ.out.i3, GJ.out.i4, GI.out.lt, GJ.out.lt, GB.out⟩
      have HS0 := Lib.hid S0
      clear S0
      first
        | (go_region_held3 (fun W => W.cell? ⟨w.heap.size, 0, none⟩ = some (.int .u8 op) ∧ W.cell? ⟨w.heap.size, 1, none⟩ = some (.int .i64 a) ∧ W.cell? ⟨w.heap.size, 2, none⟩ = some (.int .i64 b) ∧ W.cell? ⟨w.heap.size, 3, none⟩ = some (.int .i64 c) ∧ W.cell? ⟨w.heap.size, 4, none⟩ = some (.int .i64 m) ∧ W.cell? ⟨(w.heap.size + 1), 0, none⟩ = some (.int .u8 op') ∧ W.cell? ⟨(w.heap.size + 1), 1, none⟩ = some (.int .i64 a') ∧ W.cell? ⟨(w.heap.size + 1), 2, none⟩ = some (.int .i64 b') ∧ W.cell? ⟨(w.heap.size + 1), 3, none⟩ = some (.int .i64 c') ∧ W.cell? ⟨(w.heap.size + 1), 4, none⟩ = some (.int .i64 m') ∧ w.heap.size < W.heap.size ∧ (w.heap.size + 1) < W.heap.size ∧ Below w.heap.size w W)
             (((repeat (apply keepII; assumption)); exact HS0.out))
             (first | (go_at_call 39; refine (H3.out _).mono ?_; rintro e w' ⟨rfl, hb'⟩) | (go_at_call 41; refine (H4.out _).mono ?_; rintro e w' ⟨rfl, hb'⟩) | (go_at_call 41; refine (H5.out _).mono ?_; rintro e w' ⟨rfl, hb'⟩)))
        | fail
      rename_i hH
      have B9 := Lib.hid hH.2.2.2.2.2.2.2.2.2.2.2.2
      clear hH
      go_wp2_with fail
      go_ret
      exact ⟨rfl, B9.out⟩
set_option maxRecDepth 100000 in
set_option maxHeartbeats 4000000 in
theorem rd_some_118_1 (op a b c m op' a' b' c' m' : Int) (h0 : 0 ≤ op) (h1 : op ≤ 255) (h0' : 0 ≤ op') (h1' : op' ≤ 255) (L : List Int) (hL : readsV op' a' b' c' m' = L) (hlen : L.length ≠ 0) (hsm : L.length ≤ 100) (r : Int) (hr : wrV op a b c m = r) (hok : wrOK op a b c m = true) (X : Int) (hX : nextV op a b c m = X) (q18 : (op == 18) = true) (hq : L.contains r = true) (hz' : hazB op' a' b' c' m' X = true) (hz0 : hazB op' a' b' c' m' 0 = false) (w : World) :
    Calls Try.prog 16 #[.agg #[.int .u8 op, .int .i64 a, .int .i64 b, .int .i64 c, .int .i64 m], .agg #[.int .u8 op', .int .i64 a', .int .i64 b', .int .i64 c', .int .i64 m']] w fun e w' => e = .returned (.bool true) ∧ Below w.heap.size w w' := by
  have rd1 := fun W => reads_any op' a' b' c' m' h0' h1' W
  rw [hL] at rd1
  have H1 := Lib.hid rd1
  have H2 := Lib.hid (fun W => writes_any op a b c m h0 h1 r true hr hok W)
  have H3 := Lib.hid (fun W => next_any op a b c m h0 h1 X hX W)
  have H4 := Lib.hid (fun W => hazard_any X op' a' b' c' m' h0' h1' true hz' W)
  have H5 := Lib.hid (fun W => hazard_any 0 op' a' b' c' m' h0' h1' false hz0 W)
  have Hq := Lib.hid hq
  clear rd1 hL hr hok hX hz' hz0 hq
  go_enter Try.func16, Try.ntmps16
  go_wp2_with fail
  have XI0 := Lib.hid (IF.newAt (op) (a) (b) (c) (m) (w) (w.heap.size) (by simp))
  have BxI0 := Lib.hid (below_new (Below.refl w.heap.size w) (.cells #[.int .u8 (op), .int .i64 (a), .int .i64 (b), .int .i64 (c), .int .i64 (m)] 23))
  have XI0' := Lib.hid (XI0.out.alloc (.cells #[.int .u8 (op'), .int .i64 (a'), .int .i64 (b'), .int .i64 (c'), .int .i64 (m')] 23))
  have XJ0 := Lib.hid (IF.newAt (op') (a') (b') (c') (m') ((w).alloc (.cells #[.int .u8 (op), .int .i64 (a), .int .i64 (b), .int .i64 (c), .int .i64 (m)] 23)) (w.heap.size + 1) (by simp))
  have BxJ0 := Lib.hid (below_new BxI0.out (.cells #[.int .u8 (op'), .int .i64 (a'), .int .i64 (b'), .int .i64 (c'), .int .i64 (m')] 23))
  have XI0'_lt := XI0'.out.lt
  have XI0'_i0 := XI0'.out.i0
  have XI0'_i1 := XI0'.out.i1
  have XI0'_i2 := XI0'.out.i2
  have XI0'_i3 := XI0'.out.i3
  have XI0'_i4 := XI0'.out.i4
  have XJ0_lt := XJ0.out.lt
  have XJ0_i0 := XJ0.out.i0
  have XJ0_i1 := XJ0.out.i1
  have XJ0_i2 := XJ0.out.i2
  have XJ0_i3 := XJ0.out.i3
  have XJ0_i4 := XJ0.out.i4
  refine (awake8 _).mono ?_
  rintro e w1 ⟨rfl, hb1⟩
  have B1 := Lib.hid (below_next BxJ0.out hb1)
  have XI1 := Lib.hid (XI0'.out.step hb1)
  have XJ1 := Lib.hid (XJ0.out.step hb1)
  clear hb1
  have XI1_lt := XI1.out.lt
  have XI1_i0 := XI1.out.i0
  have XI1_i1 := XI1.out.i1
  have XI1_i2 := XI1.out.i2
  have XI1_i3 := XI1.out.i3
  have XI1_i4 := XI1.out.i4
  have XJ1_lt := XJ1.out.lt
  have XJ1_i0 := XJ1.out.i0
  have XJ1_i1 := XJ1.out.i1
  have XJ1_i2 := XJ1.out.i2
  have XJ1_i3 := XJ1.out.i3
  have XJ1_i4 := XJ1.out.i4
  go_wp2_with fail
  refine (H2.out _).mono ?_
  rintro e w2 ⟨rfl, hb2⟩
  have B2 := Lib.hid (below_next B1.out hb2)
  have XI2 := Lib.hid (XI1.out.step hb2)
  have XJ2 := Lib.hid (XJ1.out.step hb2)
  clear hb2
  have XI2_lt := XI2.out.lt
  have XI2_i0 := XI2.out.i0
  have XI2_i1 := XI2.out.i1
  have XI2_i2 := XI2.out.i2
  have XI2_i3 := XI2.out.i3
  have XI2_i4 := XI2.out.i4
  have XJ2_lt := XJ2.out.lt
  have XJ2_i0 := XJ2.out.i0
  have XJ2_i1 := XJ2.out.i1
  have XJ2_i2 := XJ2.out.i2
  have XJ2_i3 := XJ2.out.i3
  have XJ2_i4 := XJ2.out.i4
  go_wp2_with fail
  refine (H1.out _).mono ?_
  rintro e w3 ⟨vP, rfl, o3, hb3⟩
  have XP3 := Lib.hid o3
  clear o3
  have B3 := Lib.hid (below_next B2.out hb3)
  have XI3 := Lib.hid (XI2.out.step hb3)
  have XJ3 := Lib.hid (XJ2.out.step hb3)
  clear hb3
  have XI3_lt := XI3.out.lt
  have XI3_i0 := XI3.out.i0
  have XI3_i1 := XI3.out.i1
  have XI3_i2 := XI3.out.i2
  have XI3_i3 := XI3.out.i3
  have XI3_i4 := XI3.out.i4
  have XJ3_lt := XJ3.out.lt
  have XJ3_i0 := XJ3.out.i0
  have XJ3_i1 := XJ3.out.i1
  have XJ3_i2 := XJ3.out.i2
  have XJ3_i3 := XJ3.out.i3
  have XJ3_i4 := XJ3.out.i4
  obtain ⟨gP, cP, rfl, _, hP⟩ := own_some XP3.out hlen
  have FP := Lib.hid hP
  clear hP XP3
  go_wp2_with fail
  go_loopw [8, 37] (fun t i wr => ∃ (k : Nat) (z : Bool), k ≤ L.length ∧ i = .int .i64 k ∧ t = .bool z ∧ z = (L.take k).contains r ∧ RF gP L wr ∧ IF w.heap.size op a b c m wr ∧ IF (w.heap.size + 1) op' a' b' c' m' wr ∧ Below w.heap.size w wr) (fun _ i _ => L.length - (intOf i).toNat)
  case atStart => exact ⟨0, false, by omega, rfl, rfl, by simp, FP.out, XI3.out, XJ3.out, B3.out⟩
  case round =>
    obtain ⟨k, z, hk, rfl, rfl, hz, hP, hI, hJ, hB⟩ := hrel
    have GP := Lib.hid hP
    have GI := Lib.hid hI
    have GJ := Lib.hid hJ
    have GB := Lib.hid hB
    have Hz := Lib.hid hz
    clear hP hI hJ hB hz FP
    by_cases hlt : k < L.length
    · have c1 := GP.out.at_ k hlt
      obtain ⟨x, hx⟩ : ∃ x, L.getD k 0 = x := ⟨_, rfl⟩
      have htk : L.take (k + 1) = L.take k ++ [x] := by
        rw [List.take_add_one, ← hx, List.getD_eq_getElem?_getD, List.getElem?_eq_getElem hlt]; simp
      rw [hx] at c1
      have Htk := Lib.hid htk
      clear hx htk
      cases z
      · by_cases he : x = r
        · have e1 : (x == r) = true := by simpa using he
          have He := Lib.hid he
          clear he
          go_wp2_with fail
          go_roundw
          case rel => exact ⟨k + 1, true, by omega, by go_num, rfl, by rw [Htk.out, He.out]; simp, GP.out, GI.out, GJ.out, GB.out⟩
          case measure => simp [intOf]; omega
        · have e1 : (x == r) = false := by simpa using he
          have He := Lib.hid he
          clear he
          go_wp2_with fail
          go_roundw
          case rel => exact ⟨k + 1, false, by omega, by go_num, rfl, by
            have h := Hz.out
            have hn : ¬ r = x := fun h => He.out h.symm
            rw [Htk.out]
            simp at h ⊢
            exact ⟨h, hn⟩, GP.out, GI.out, GJ.out, GB.out⟩
          case measure => simp [intOf]; omega
      · go_wp2_with fail
        go_roundw
        case rel => exact ⟨k + 1, true, by omega, by go_num, rfl, by
          have h := Hz.out
          rw [Htk.out]
          simp at h ⊢
          exact .inl h, GP.out, GI.out, GJ.out, GB.out⟩
        case measure => simp [intOf]; omega
    · have hkk : k = L.length := by omega
      have hzz : z = true := by rw [Hz.out, hkk, List.take_length]; exact Hq.out
      subst hzz hkk
      have GI_lt := GI.out.lt
      have GI_i0 := GI.out.i0
      have GI_i1 := GI.out.i1
      have GI_i2 := GI.out.i2
      have GI_i3 := GI.out.i3
      have GI_i4 := GI.out.i4
      have GJ_lt := GJ.out.lt
      have GJ_i0 := GJ.out.i0
      have GJ_i1 := GJ.out.i1
      have GJ_i2 := GJ.out.i2
      have GJ_i3 := GJ.out.i3
      have GJ_i4 := GJ.out.i4
      go_wp2_with fail
      have S0 := keepII (below_dr wr) ⟨GI.out.i0, GI.out.i1, GI.out.i2, GI.out.i3, GI.out.i4, GJ.out.i0, GJ.out.i1, GJ.out.i2, GJ.out.i3, GJ.out.i4, GI.out.lt, GJ.out.lt, GB.out⟩
      have HS0 := Lib.hid S0
      clear S0
      first
        | (go_region_held3 (fun W => W.cell? ⟨w.heap.size, 0, none⟩ = some (.int .u8 op) ∧ W.cell? ⟨w.heap.size, 1, none⟩ = some (.int .i64 a) ∧ W.cell? ⟨w.heap.size, 2, none⟩ = some (.int .i64 b) ∧ W.cell? ⟨w.heap.size, 3, none⟩ = some (.int .i64 c) ∧ W.cell? ⟨w.heap.size, 4, none⟩ = some (.int .i64 m) ∧ W.cell? ⟨(w.heap.size + 1), 0, none⟩ = some (.int .u8 op') ∧ W.cell? ⟨(w.heap.size + 1), 1, none⟩ = some (.int .i64 a') ∧ W.cell? ⟨(w.heap.size + 1), 2, none⟩ = some (.int .i64 b') ∧ W.cell? ⟨(w.heap.size + 1), 3, none⟩ = some (.int .i64 c') ∧ W.cell? ⟨(w.heap.size + 1), 4, none⟩ = some (.int .i64 m') ∧ w.heap.size < W.heap.size ∧ (w.heap.size + 1) < W.heap.size ∧ Below w.heap.size w W)
             (((repeat (apply keepII; assumption)); exact HS0.out))
             (first | (go_at_call 39; refine (H3.out _).mono ?_; rintro e w' ⟨rfl, hb'⟩) | (go_at_call 41; refine (H4.out _).mono ?_; rintro e w' ⟨rfl, hb'⟩) | (go_at_call 41; refine (H5.out _).mono ?_; rintro e w' ⟨rfl, hb'⟩)))
        | fail
      rename_i hH
      have B9 := Lib.hid hH.2.2.2.2.2.2.2.2.2.2.2.2
      clear hH
      go_wp2_with fail
      go_ret
      exact ⟨rfl, B9.out⟩
set_option maxRecDepth 100000 in
set_option maxHeartbeats 4000000 in
theorem rd_some_120_0 (op a b c m op' a' b' c' m' : Int) (h0 : 0 ≤ op) (h1 : op ≤ 255) (h0' : 0 ≤ op') (h1' : op' ≤ 255) (L : List Int) (hL : readsV op' a' b' c' m' = L) (hlen : L.length ≠ 0) (hsm : L.length ≤ 100) (r : Int) (hr : wrV op a b c m = r) (hok : wrOK op a b c m = true) (X : Int) (hX : nextV op a b c m = X) (q18 : (op == 18) = false) (q20 : (op == 20) = true) (hq : L.contains r = false) (hz' : hazB op' a' b' c' m' X = false) (hz0 : hazB op' a' b' c' m' 0 = false) (w : World) :
    Calls Try.prog 16 #[.agg #[.int .u8 op, .int .i64 a, .int .i64 b, .int .i64 c, .int .i64 m], .agg #[.int .u8 op', .int .i64 a', .int .i64 b', .int .i64 c', .int .i64 m']] w fun e w' => e = .returned (.bool true) ∧ Below w.heap.size w w' := by
  have rd1 := fun W => reads_any op' a' b' c' m' h0' h1' W
  rw [hL] at rd1
  have H1 := Lib.hid rd1
  have H2 := Lib.hid (fun W => writes_any op a b c m h0 h1 r true hr hok W)
  have H3 := Lib.hid (fun W => next_any op a b c m h0 h1 X hX W)
  have H4 := Lib.hid (fun W => hazard_any X op' a' b' c' m' h0' h1' false hz' W)
  have H5 := Lib.hid (fun W => hazard_any 0 op' a' b' c' m' h0' h1' false hz0 W)
  have Hq := Lib.hid hq
  clear rd1 hL hr hok hX hz' hz0 hq
  go_enter Try.func16, Try.ntmps16
  go_wp2_with fail
  have XI0 := Lib.hid (IF.newAt (op) (a) (b) (c) (m) (w) (w.heap.size) (by simp))
  have BxI0 := Lib.hid (below_new (Below.refl w.heap.size w) (.cells #[.int .u8 (op), .int .i64 (a), .int .i64 (b), .int .i64 (c), .int .i64 (m)] 23))
  have XI0' := Lib.hid (XI0.out.alloc (.cells #[.int .u8 (op'), .int .i64 (a'), .int .i64 (b'), .int .i64 (c'), .int .i64 (m')] 23))
  have XJ0 := Lib.hid (IF.newAt (op') (a') (b') (c') (m') ((w).alloc (.cells #[.int .u8 (op), .int .i64 (a), .int .i64 (b), .int .i64 (c), .int .i64 (m)] 23)) (w.heap.size + 1) (by simp))
  have BxJ0 := Lib.hid (below_new BxI0.out (.cells #[.int .u8 (op'), .int .i64 (a'), .int .i64 (b'), .int .i64 (c'), .int .i64 (m')] 23))
  have XI0'_lt := XI0'.out.lt
  have XI0'_i0 := XI0'.out.i0
  have XI0'_i1 := XI0'.out.i1
  have XI0'_i2 := XI0'.out.i2
  have XI0'_i3 := XI0'.out.i3
  have XI0'_i4 := XI0'.out.i4
  have XJ0_lt := XJ0.out.lt
  have XJ0_i0 := XJ0.out.i0
  have XJ0_i1 := XJ0.out.i1
  have XJ0_i2 := XJ0.out.i2
  have XJ0_i3 := XJ0.out.i3
  have XJ0_i4 := XJ0.out.i4
  refine (awake8 _).mono ?_
  rintro e w1 ⟨rfl, hb1⟩
  have B1 := Lib.hid (below_next BxJ0.out hb1)
  have XI1 := Lib.hid (XI0'.out.step hb1)
  have XJ1 := Lib.hid (XJ0.out.step hb1)
  clear hb1
  have XI1_lt := XI1.out.lt
  have XI1_i0 := XI1.out.i0
  have XI1_i1 := XI1.out.i1
  have XI1_i2 := XI1.out.i2
  have XI1_i3 := XI1.out.i3
  have XI1_i4 := XI1.out.i4
  have XJ1_lt := XJ1.out.lt
  have XJ1_i0 := XJ1.out.i0
  have XJ1_i1 := XJ1.out.i1
  have XJ1_i2 := XJ1.out.i2
  have XJ1_i3 := XJ1.out.i3
  have XJ1_i4 := XJ1.out.i4
  go_wp2_with fail
  refine (H2.out _).mono ?_
  rintro e w2 ⟨rfl, hb2⟩
  have B2 := Lib.hid (below_next B1.out hb2)
  have XI2 := Lib.hid (XI1.out.step hb2)
  have XJ2 := Lib.hid (XJ1.out.step hb2)
  clear hb2
  have XI2_lt := XI2.out.lt
  have XI2_i0 := XI2.out.i0
  have XI2_i1 := XI2.out.i1
  have XI2_i2 := XI2.out.i2
  have XI2_i3 := XI2.out.i3
  have XI2_i4 := XI2.out.i4
  have XJ2_lt := XJ2.out.lt
  have XJ2_i0 := XJ2.out.i0
  have XJ2_i1 := XJ2.out.i1
  have XJ2_i2 := XJ2.out.i2
  have XJ2_i3 := XJ2.out.i3
  have XJ2_i4 := XJ2.out.i4
  go_wp2_with fail
  refine (H1.out _).mono ?_
  rintro e w3 ⟨vP, rfl, o3, hb3⟩
  have XP3 := Lib.hid o3
  clear o3
  have B3 := Lib.hid (below_next B2.out hb3)
  have XI3 := Lib.hid (XI2.out.step hb3)
  have XJ3 := Lib.hid (XJ2.out.step hb3)
  clear hb3
  have XI3_lt := XI3.out.lt
  have XI3_i0 := XI3.out.i0
  have XI3_i1 := XI3.out.i1
  have XI3_i2 := XI3.out.i2
  have XI3_i3 := XI3.out.i3
  have XI3_i4 := XI3.out.i4
  have XJ3_lt := XJ3.out.lt
  have XJ3_i0 := XJ3.out.i0
  have XJ3_i1 := XJ3.out.i1
  have XJ3_i2 := XJ3.out.i2
  have XJ3_i3 := XJ3.out.i3
  have XJ3_i4 := XJ3.out.i4
  obtain ⟨gP, cP, rfl, _, hP⟩ := own_some XP3.out hlen
  have FP := Lib.hid hP
  clear hP XP3
  go_wp2_with fail
  go_loopw [8, 37] (fun t i wr => ∃ (k : Nat) (z : Bool), k ≤ L.length ∧ i = .int .i64 k ∧ t = .bool z ∧ z = (L.take k).contains r ∧ RF gP L wr ∧ IF w.heap.size op a b c m wr ∧ IF (w.heap.size + 1) op' a' b' c' m' wr ∧ Below w.heap.size w wr) (fun _ i _ => L.length - (intOf i).toNat)
  case atStart => exact ⟨0, false, by omega, rfl, rfl, by simp, FP.out, XI3.out, XJ3.out, B3.out⟩
  case round =>
    obtain ⟨k, z, hk, rfl, rfl, hz, hP, hI, hJ, hB⟩ := hrel
    have GP := Lib.hid hP
    have GI := Lib.hid hI
    have GJ := Lib.hid hJ
    have GB := Lib.hid hB
    have Hz := Lib.hid hz
    clear hP hI hJ hB hz FP
    by_cases hlt : k < L.length
    · have c1 := GP.out.at_ k hlt
      obtain ⟨x, hx⟩ : ∃ x, L.getD k 0 = x := ⟨_, rfl⟩
      have htk : L.take (k + 1) = L.take k ++ [x] := by
        rw [List.take_add_one, ← hx, List.getD_eq_getElem?_getD, List.getElem?_eq_getElem hlt]; simp
      rw [hx] at c1
      have Htk := Lib.hid htk
      clear hx htk
      cases z
      · by_cases he : x = r
        · have e1 : (x == r) = true := by simpa using he
          have He := Lib.hid he
          clear he
          go_wp2_with fail
          go_roundw
          case rel => exact ⟨k + 1, true, by omega, by go_num, rfl, by rw [Htk.out, He.out]; simp, GP.out, GI.out, GJ.out, GB.out⟩
          case measure => simp [intOf]; omega
        · have e1 : (x == r) = false := by simpa using he
          have He := Lib.hid he
          clear he
          go_wp2_with fail
          go_roundw
          case rel => exact ⟨k + 1, false, by omega, by go_num, rfl, by
            have h := Hz.out
            have hn : ¬ r = x := fun h => He.out h.symm
            rw [Htk.out]
            simp at h ⊢
            exact ⟨h, hn⟩, GP.out, GI.out, GJ.out, GB.out⟩
          case measure => simp [intOf]; omega
      · go_wp2_with fail
        go_roundw
        case rel => exact ⟨k + 1, true, by omega, by go_num, rfl, by
          have h := Hz.out
          rw [Htk.out]
          simp at h ⊢
          exact .inl h, GP.out, GI.out, GJ.out, GB.out⟩
        case measure => simp [intOf]; omega
    · have hkk : k = L.length := by omega
      have hzz : z = false := by rw [Hz.out, hkk, List.take_length]; exact Hq.out
      subst hzz hkk
      have GI_lt := GI.out.lt
      have GI_i0 := GI.out.i0
      have GI_i1 := GI.out.i1
      have GI_i2 := GI.out.i2
      have GI_i3 := GI.out.i3
      have GI_i4 := GI.out.i4
      have GJ_lt := GJ.out.lt
      have GJ_i0 := GJ.out.i0
      have GJ_i1 := GJ.out.i1
      have GJ_i2 := GJ.out.i2
      have GJ_i3 := GJ.out.i3
      have GJ_i4 := GJ.out.i4
      go_wp2_with fail
      have S0 := keepII (below_dr wr) ⟨GI.out.i0, GI.out.i1, GI.out.i2, GI.out.i3, GI.out.i4, GJ.out.i0, GJ.out.i1, GJ.out.i2, GJ.out.i3, GJ.out.i4, GI.out.lt, GJ.out.lt, GB.out⟩
      have HS0 := Lib.hid S0
      clear S0
      first
        | (go_region_held3 (fun W => W.cell? ⟨w.heap.size, 0, none⟩ = some (.int .u8 op) ∧ W.cell? ⟨w.heap.size, 1, none⟩ = some (.int .i64 a) ∧ W.cell? ⟨w.heap.size, 2, none⟩ = some (.int .i64 b) ∧ W.cell? ⟨w.heap.size, 3, none⟩ = some (.int .i64 c) ∧ W.cell? ⟨w.heap.size, 4, none⟩ = some (.int .i64 m) ∧ W.cell? ⟨(w.heap.size + 1), 0, none⟩ = some (.int .u8 op') ∧ W.cell? ⟨(w.heap.size + 1), 1, none⟩ = some (.int .i64 a') ∧ W.cell? ⟨(w.heap.size + 1), 2, none⟩ = some (.int .i64 b') ∧ W.cell? ⟨(w.heap.size + 1), 3, none⟩ = some (.int .i64 c') ∧ W.cell? ⟨(w.heap.size + 1), 4, none⟩ = some (.int .i64 m') ∧ w.heap.size < W.heap.size ∧ (w.heap.size + 1) < W.heap.size ∧ Below w.heap.size w W)
             (((repeat (apply keepII; assumption)); exact HS0.out))
             (first | (go_at_call 39; refine (H3.out _).mono ?_; rintro e w' ⟨rfl, hb'⟩) | (go_at_call 41; refine (H4.out _).mono ?_; rintro e w' ⟨rfl, hb'⟩) | (go_at_call 41; refine (H5.out _).mono ?_; rintro e w' ⟨rfl, hb'⟩)))
        | fail
      rename_i hH
      have B9 := Lib.hid hH.2.2.2.2.2.2.2.2.2.2.2.2
      clear hH
      go_wp2_with fail
      go_ret
      exact ⟨rfl, B9.out⟩
set_option maxRecDepth 100000 in
set_option maxHeartbeats 4000000 in
theorem rd_some_120_1 (op a b c m op' a' b' c' m' : Int) (h0 : 0 ≤ op) (h1 : op ≤ 255) (h0' : 0 ≤ op') (h1' : op' ≤ 255) (L : List Int) (hL : readsV op' a' b' c' m' = L) (hlen : L.length ≠ 0) (hsm : L.length ≤ 100) (r : Int) (hr : wrV op a b c m = r) (hok : wrOK op a b c m = true) (X : Int) (hX : nextV op a b c m = X) (q18 : (op == 18) = false) (q20 : (op == 20) = true) (hq : L.contains r = true) (hz' : hazB op' a' b' c' m' X = true) (hz0 : hazB op' a' b' c' m' 0 = false) (w : World) :
    Calls Try.prog 16 #[.agg #[.int .u8 op, .int .i64 a, .int .i64 b, .int .i64 c, .int .i64 m], .agg #[.int .u8 op', .int .i64 a', .int .i64 b', .int .i64 c', .int .i64 m']] w fun e w' => e = .returned (.bool true) ∧ Below w.heap.size w w' := by
  have rd1 := fun W => reads_any op' a' b' c' m' h0' h1' W
  rw [hL] at rd1
  have H1 := Lib.hid rd1
  have H2 := Lib.hid (fun W => writes_any op a b c m h0 h1 r true hr hok W)
  have H3 := Lib.hid (fun W => next_any op a b c m h0 h1 X hX W)
  have H4 := Lib.hid (fun W => hazard_any X op' a' b' c' m' h0' h1' true hz' W)
  have H5 := Lib.hid (fun W => hazard_any 0 op' a' b' c' m' h0' h1' false hz0 W)
  have Hq := Lib.hid hq
  clear rd1 hL hr hok hX hz' hz0 hq
  go_enter Try.func16, Try.ntmps16
  go_wp2_with fail
  have XI0 := Lib.hid (IF.newAt (op) (a) (b) (c) (m) (w) (w.heap.size) (by simp))
  have BxI0 := Lib.hid (below_new (Below.refl w.heap.size w) (.cells #[.int .u8 (op), .int .i64 (a), .int .i64 (b), .int .i64 (c), .int .i64 (m)] 23))
  have XI0' := Lib.hid (XI0.out.alloc (.cells #[.int .u8 (op'), .int .i64 (a'), .int .i64 (b'), .int .i64 (c'), .int .i64 (m')] 23))
  have XJ0 := Lib.hid (IF.newAt (op') (a') (b') (c') (m') ((w).alloc (.cells #[.int .u8 (op), .int .i64 (a), .int .i64 (b), .int .i64 (c), .int .i64 (m)] 23)) (w.heap.size + 1) (by simp))
  have BxJ0 := Lib.hid (below_new BxI0.out (.cells #[.int .u8 (op'), .int .i64 (a'), .int .i64 (b'), .int .i64 (c'), .int .i64 (m')] 23))
  have XI0'_lt := XI0'.out.lt
  have XI0'_i0 := XI0'.out.i0
  have XI0'_i1 := XI0'.out.i1
  have XI0'_i2 := XI0'.out.i2
  have XI0'_i3 := XI0'.out.i3
  have XI0'_i4 := XI0'.out.i4
  have XJ0_lt := XJ0.out.lt
  have XJ0_i0 := XJ0.out.i0
  have XJ0_i1 := XJ0.out.i1
  have XJ0_i2 := XJ0.out.i2
  have XJ0_i3 := XJ0.out.i3
  have XJ0_i4 := XJ0.out.i4
  refine (awake8 _).mono ?_
  rintro e w1 ⟨rfl, hb1⟩
  have B1 := Lib.hid (below_next BxJ0.out hb1)
  have XI1 := Lib.hid (XI0'.out.step hb1)
  have XJ1 := Lib.hid (XJ0.out.step hb1)
  clear hb1
  have XI1_lt := XI1.out.lt
  have XI1_i0 := XI1.out.i0
  have XI1_i1 := XI1.out.i1
  have XI1_i2 := XI1.out.i2
  have XI1_i3 := XI1.out.i3
  have XI1_i4 := XI1.out.i4
  have XJ1_lt := XJ1.out.lt
  have XJ1_i0 := XJ1.out.i0
  have XJ1_i1 := XJ1.out.i1
  have XJ1_i2 := XJ1.out.i2
  have XJ1_i3 := XJ1.out.i3
  have XJ1_i4 := XJ1.out.i4
  go_wp2_with fail
  refine (H2.out _).mono ?_
  rintro e w2 ⟨rfl, hb2⟩
  have B2 := Lib.hid (below_next B1.out hb2)
  have XI2 := Lib.hid (XI1.out.step hb2)
  have XJ2 := Lib.hid (XJ1.out.step hb2)
  clear hb2
  have XI2_lt := XI2.out.lt
  have XI2_i0 := XI2.out.i0
  have XI2_i1 := XI2.out.i1
  have XI2_i2 := XI2.out.i2
  have XI2_i3 := XI2.out.i3
  have XI2_i4 := XI2.out.i4
  have XJ2_lt := XJ2.out.lt
  have XJ2_i0 := XJ2.out.i0
  have XJ2_i1 := XJ2.out.i1
  have XJ2_i2 := XJ2.out.i2
  have XJ2_i3 := XJ2.out.i3
  have XJ2_i4 := XJ2.out.i4
  go_wp2_with fail
  refine (H1.out _).mono ?_
  rintro e w3 ⟨vP, rfl, o3, hb3⟩
  have XP3 := Lib.hid o3
  clear o3
  have B3 := Lib.hid (below_next B2.out hb3)
  have XI3 := Lib.hid (XI2.out.step hb3)
  have XJ3 := Lib.hid (XJ2.out.step hb3)
  clear hb3
  have XI3_lt := XI3.out.lt
  have XI3_i0 := XI3.out.i0
  have XI3_i1 := XI3.out.i1
  have XI3_i2 := XI3.out.i2
  have XI3_i3 := XI3.out.i3
  have XI3_i4 := XI3.out.i4
  have XJ3_lt := XJ3.out.lt
  have XJ3_i0 := XJ3.out.i0
  have XJ3_i1 := XJ3.out.i1
  have XJ3_i2 := XJ3.out.i2
  have XJ3_i3 := XJ3.out.i3
  have XJ3_i4 := XJ3.out.i4
  obtain ⟨gP, cP, rfl, _, hP⟩ := own_some XP3.out hlen
  have FP := Lib.hid hP
  clear hP XP3
  go_wp2_with fail
  go_loopw [8, 37] (fun t i wr => ∃ (k : Nat) (z : Bool), k ≤ L.length ∧ i = .int .i64 k ∧ t = .bool z ∧ z = (L.take k).contains r ∧ RF gP L wr ∧ IF w.heap.size op a b c m wr ∧ IF (w.heap.size + 1) op' a' b' c' m' wr ∧ Below w.heap.size w wr) (fun _ i _ => L.length - (intOf i).toNat)
  case atStart => exact ⟨0, false, by omega, rfl, rfl, by simp, FP.out, XI3.out, XJ3.out, B3.out⟩
  case round =>
    obtain ⟨k, z, hk, rfl, rfl, hz, hP, hI, hJ, hB⟩ := hrel
    have GP := Lib.hid hP
    have GI := Lib.hid hI
    have GJ := Lib.hid hJ
    have GB := Lib.hid hB
    have Hz := Lib.hid hz
    clear hP hI hJ hB hz FP
    by_cases hlt : k < L.length
    · have c1 := GP.out.at_ k hlt
      obtain ⟨x, hx⟩ : ∃ x, L.getD k 0 = x := ⟨_, rfl⟩
      have htk : L.take (k + 1) = L.take k ++ [x] := by
        rw [List.take_add_one, ← hx, List.getD_eq_getElem?_getD, List.getElem?_eq_getElem hlt]; simp
      rw [hx] at c1
      have Htk := Lib.hid htk
      clear hx htk
      cases z
      · by_cases he : x = r
        · have e1 : (x == r) = true := by simpa using he
          have He := Lib.hid he
          clear he
          go_wp2_with fail
          go_roundw
          case rel => exact ⟨k + 1, true, by omega, by go_num, rfl, by rw [Htk.out, He.out]; simp, GP.out, GI.out, GJ.out, GB.out⟩
          case measure => simp [intOf]; omega
        · have e1 : (x == r) = false := by simpa using he
          have He := Lib.hid he
          clear he
          go_wp2_with fail
          go_roundw
          case rel => exact ⟨k + 1, false, by omega, by go_num, rfl, by
            have h := Hz.out
            have hn : ¬ r = x := fun h => He.out h.symm
            rw [Htk.out]
            simp at h ⊢
            exact ⟨h, hn⟩, GP.out, GI.out, GJ.out, GB.out⟩
          case measure => simp [intOf]; omega
      · go_wp2_with fail
        go_roundw
        case rel => exact ⟨k + 1, true, by omega, by go_num, rfl, by
          have h := Hz.out
          rw [Htk.out]
          simp at h ⊢
          exact .inl h, GP.out, GI.out, GJ.out, GB.out⟩
        case measure => simp [intOf]; omega
    · have hkk : k = L.length := by omega
      have hzz : z = true := by rw [Hz.out, hkk, List.take_length]; exact Hq.out
      subst hzz hkk
      have GI_lt := GI.out.lt
      have GI_i0 := GI.out.i0
      have GI_i1 := GI.out.i1
      have GI_i2 := GI.out.i2
      have GI_i3 := GI.out.i3
      have GI_i4 := GI.out.i4
      have GJ_lt := GJ.out.lt
      have GJ_i0 := GJ.out.i0
      have GJ_i1 := GJ.out.i1
      have GJ_i2 := GJ.out.i2
      have GJ_i3 := GJ.out.i3
      have GJ_i4 := GJ.out.i4
      go_wp2_with fail
      have S0 := keepII (below_dr wr) ⟨GI.out.i0, GI.out.i1, GI.out.i2, GI.out.i3, GI.out.i4, GJ.out.i0, GJ.out.i1, GJ.out.i2, GJ.out.i3, GJ.out.i4, GI.out.lt, GJ.out.lt, GB.out⟩
      have HS0 := Lib.hid S0
      clear S0
      first
        | (go_region_held3 (fun W => W.cell? ⟨w.heap.size, 0, none⟩ = some (.int .u8 op) ∧ W.cell? ⟨w.heap.size, 1, none⟩ = some (.int .i64 a) ∧ W.cell? ⟨w.heap.size, 2, none⟩ = some (.int .i64 b) ∧ W.cell? ⟨w.heap.size, 3, none⟩ = some (.int .i64 c) ∧ W.cell? ⟨w.heap.size, 4, none⟩ = some (.int .i64 m) ∧ W.cell? ⟨(w.heap.size + 1), 0, none⟩ = some (.int .u8 op') ∧ W.cell? ⟨(w.heap.size + 1), 1, none⟩ = some (.int .i64 a') ∧ W.cell? ⟨(w.heap.size + 1), 2, none⟩ = some (.int .i64 b') ∧ W.cell? ⟨(w.heap.size + 1), 3, none⟩ = some (.int .i64 c') ∧ W.cell? ⟨(w.heap.size + 1), 4, none⟩ = some (.int .i64 m') ∧ w.heap.size < W.heap.size ∧ (w.heap.size + 1) < W.heap.size ∧ Below w.heap.size w W)
             (((repeat (apply keepII; assumption)); exact HS0.out))
             (first | (go_at_call 39; refine (H3.out _).mono ?_; rintro e w' ⟨rfl, hb'⟩) | (go_at_call 41; refine (H4.out _).mono ?_; rintro e w' ⟨rfl, hb'⟩) | (go_at_call 41; refine (H5.out _).mono ?_; rintro e w' ⟨rfl, hb'⟩)))
        | fail
      rename_i hH
      have B9 := Lib.hid hH.2.2.2.2.2.2.2.2.2.2.2.2
      clear hH
      go_wp2_with fail
      go_ret
      exact ⟨rfl, B9.out⟩
set_option maxRecDepth 100000 in
set_option maxHeartbeats 4000000 in
theorem rd_some_126_0 (op a b c m op' a' b' c' m' : Int) (h0 : 0 ≤ op) (h1 : op ≤ 255) (h0' : 0 ≤ op') (h1' : op' ≤ 255) (L : List Int) (hL : readsV op' a' b' c' m' = L) (hlen : L.length ≠ 0) (hsm : L.length ≤ 100) (r : Int) (hr : wrV op a b c m = r) (hok : wrOK op a b c m = true) (X : Int) (hX : nextV op a b c m = X) (q18 : (op == 18) = false) (q20 : (op == 20) = false) (q26 : (op == 26) = true) (hq : L.contains r = false) (hz' : hazB op' a' b' c' m' X = false) (hz0 : hazB op' a' b' c' m' 0 = false) (w : World) :
    Calls Try.prog 16 #[.agg #[.int .u8 op, .int .i64 a, .int .i64 b, .int .i64 c, .int .i64 m], .agg #[.int .u8 op', .int .i64 a', .int .i64 b', .int .i64 c', .int .i64 m']] w fun e w' => e = .returned (.bool true) ∧ Below w.heap.size w w' := by
  have rd1 := fun W => reads_any op' a' b' c' m' h0' h1' W
  rw [hL] at rd1
  have H1 := Lib.hid rd1
  have H2 := Lib.hid (fun W => writes_any op a b c m h0 h1 r true hr hok W)
  have H3 := Lib.hid (fun W => next_any op a b c m h0 h1 X hX W)
  have H4 := Lib.hid (fun W => hazard_any X op' a' b' c' m' h0' h1' false hz' W)
  have H5 := Lib.hid (fun W => hazard_any 0 op' a' b' c' m' h0' h1' false hz0 W)
  have Hq := Lib.hid hq
  clear rd1 hL hr hok hX hz' hz0 hq
  go_enter Try.func16, Try.ntmps16
  go_wp2_with fail
  have XI0 := Lib.hid (IF.newAt (op) (a) (b) (c) (m) (w) (w.heap.size) (by simp))
  have BxI0 := Lib.hid (below_new (Below.refl w.heap.size w) (.cells #[.int .u8 (op), .int .i64 (a), .int .i64 (b), .int .i64 (c), .int .i64 (m)] 23))
  have XI0' := Lib.hid (XI0.out.alloc (.cells #[.int .u8 (op'), .int .i64 (a'), .int .i64 (b'), .int .i64 (c'), .int .i64 (m')] 23))
  have XJ0 := Lib.hid (IF.newAt (op') (a') (b') (c') (m') ((w).alloc (.cells #[.int .u8 (op), .int .i64 (a), .int .i64 (b), .int .i64 (c), .int .i64 (m)] 23)) (w.heap.size + 1) (by simp))
  have BxJ0 := Lib.hid (below_new BxI0.out (.cells #[.int .u8 (op'), .int .i64 (a'), .int .i64 (b'), .int .i64 (c'), .int .i64 (m')] 23))
  have XI0'_lt := XI0'.out.lt
  have XI0'_i0 := XI0'.out.i0
  have XI0'_i1 := XI0'.out.i1
  have XI0'_i2 := XI0'.out.i2
  have XI0'_i3 := XI0'.out.i3
  have XI0'_i4 := XI0'.out.i4
  have XJ0_lt := XJ0.out.lt
  have XJ0_i0 := XJ0.out.i0
  have XJ0_i1 := XJ0.out.i1
  have XJ0_i2 := XJ0.out.i2
  have XJ0_i3 := XJ0.out.i3
  have XJ0_i4 := XJ0.out.i4
  refine (awake8 _).mono ?_
  rintro e w1 ⟨rfl, hb1⟩
  have B1 := Lib.hid (below_next BxJ0.out hb1)
  have XI1 := Lib.hid (XI0'.out.step hb1)
  have XJ1 := Lib.hid (XJ0.out.step hb1)
  clear hb1
  have XI1_lt := XI1.out.lt
  have XI1_i0 := XI1.out.i0
  have XI1_i1 := XI1.out.i1
  have XI1_i2 := XI1.out.i2
  have XI1_i3 := XI1.out.i3
  have XI1_i4 := XI1.out.i4
  have XJ1_lt := XJ1.out.lt
  have XJ1_i0 := XJ1.out.i0
  have XJ1_i1 := XJ1.out.i1
  have XJ1_i2 := XJ1.out.i2
  have XJ1_i3 := XJ1.out.i3
  have XJ1_i4 := XJ1.out.i4
  go_wp2_with fail
  refine (H2.out _).mono ?_
  rintro e w2 ⟨rfl, hb2⟩
  have B2 := Lib.hid (below_next B1.out hb2)
  have XI2 := Lib.hid (XI1.out.step hb2)
  have XJ2 := Lib.hid (XJ1.out.step hb2)
  clear hb2
  have XI2_lt := XI2.out.lt
  have XI2_i0 := XI2.out.i0
  have XI2_i1 := XI2.out.i1
  have XI2_i2 := XI2.out.i2
  have XI2_i3 := XI2.out.i3
  have XI2_i4 := XI2.out.i4
  have XJ2_lt := XJ2.out.lt
  have XJ2_i0 := XJ2.out.i0
  have XJ2_i1 := XJ2.out.i1
  have XJ2_i2 := XJ2.out.i2
  have XJ2_i3 := XJ2.out.i3
  have XJ2_i4 := XJ2.out.i4
  go_wp2_with fail
  refine (H1.out _).mono ?_
  rintro e w3 ⟨vP, rfl, o3, hb3⟩
  have XP3 := Lib.hid o3
  clear o3
  have B3 := Lib.hid (below_next B2.out hb3)
  have XI3 := Lib.hid (XI2.out.step hb3)
  have XJ3 := Lib.hid (XJ2.out.step hb3)
  clear hb3
  have XI3_lt := XI3.out.lt
  have XI3_i0 := XI3.out.i0
  have XI3_i1 := XI3.out.i1
  have XI3_i2 := XI3.out.i2
  have XI3_i3 := XI3.out.i3
  have XI3_i4 := XI3.out.i4
  have XJ3_lt := XJ3.out.lt
  have XJ3_i0 := XJ3.out.i0
  have XJ3_i1 := XJ3.out.i1
  have XJ3_i2 := XJ3.out.i2
  have XJ3_i3 := XJ3.out.i3
  have XJ3_i4 := XJ3.out.i4
  obtain ⟨gP, cP, rfl, _, hP⟩ := own_some XP3.out hlen
  have FP := Lib.hid hP
  clear hP XP3
  go_wp2_with fail
  go_loopw [8, 37] (fun t i wr => ∃ (k : Nat) (z : Bool), k ≤ L.length ∧ i = .int .i64 k ∧ t = .bool z ∧ z = (L.take k).contains r ∧ RF gP L wr ∧ IF w.heap.size op a b c m wr ∧ IF (w.heap.size + 1) op' a' b' c' m' wr ∧ Below w.heap.size w wr) (fun _ i _ => L.length - (intOf i).toNat)
  case atStart => exact ⟨0, false, by omega, rfl, rfl, by simp, FP.out, XI3.out, XJ3.out, B3.out⟩
  case round =>
    obtain ⟨k, z, hk, rfl, rfl, hz, hP, hI, hJ, hB⟩ := hrel
    have GP := Lib.hid hP
    have GI := Lib.hid hI
    have GJ := Lib.hid hJ
    have GB := Lib.hid hB
    have Hz := Lib.hid hz
    clear hP hI hJ hB hz FP
    by_cases hlt : k < L.length
    · have c1 := GP.out.at_ k hlt
      obtain ⟨x, hx⟩ : ∃ x, L.getD k 0 = x := ⟨_, rfl⟩
      have htk : L.take (k + 1) = L.take k ++ [x] := by
        rw [List.take_add_one, ← hx, List.getD_eq_getElem?_getD, List.getElem?_eq_getElem hlt]; simp
      rw [hx] at c1
      have Htk := Lib.hid htk
      clear hx htk
      cases z
      · by_cases he : x = r
        · have e1 : (x == r) = true := by simpa using he
          have He := Lib.hid he
          clear he
          go_wp2_with fail
          go_roundw
          case rel => exact ⟨k + 1, true, by omega, by go_num, rfl, by rw [Htk.out, He.out]; simp, GP.out, GI.out, GJ.out, GB.out⟩
          case measure => simp [intOf]; omega
        · have e1 : (x == r) = false := by simpa using he
          have He := Lib.hid he
          clear he
          go_wp2_with fail
          go_roundw
          case rel => exact ⟨k + 1, false, by omega, by go_num, rfl, by
            have h := Hz.out
            have hn : ¬ r = x := fun h => He.out h.symm
            rw [Htk.out]
            simp at h ⊢
            exact ⟨h, hn⟩, GP.out, GI.out, GJ.out, GB.out⟩
          case measure => simp [intOf]; omega
      · go_wp2_with fail
        go_roundw
        case rel => exact ⟨k + 1, true, by omega, by go_num, rfl, by
          have h := Hz.out
          rw [Htk.out]
          simp at h ⊢
          exact .inl h, GP.out, GI.out, GJ.out, GB.out⟩
        case measure => simp [intOf]; omega
    · have hkk : k = L.length := by omega
      have hzz : z = false := by rw [Hz.out, hkk, List.take_length]; exact Hq.out
      subst hzz hkk
      have GI_lt := GI.out.lt
      have GI_i0 := GI.out.i0
      have GI_i1 := GI.out.i1
      have GI_i2 := GI.out.i2
      have GI_i3 := GI.out.i3
      have GI_i4 := GI.out.i4
      have GJ_lt := GJ.out.lt
      have GJ_i0 := GJ.out.i0
      have GJ_i1 := GJ.out.i1
      have GJ_i2 := GJ.out.i2
      have GJ_i3 := GJ.out.i3
      have GJ_i4 := GJ.out.i4
      go_wp2_with fail
      have S0 := keepII (below_dr wr) ⟨GI.out.i0, GI.out.i1, GI.out.i2, GI.out.i3, GI.out.i4, GJ.out.i0, GJ.out.i1, GJ.out.i2, GJ.out.i3, GJ.out.i4, GI.out.lt, GJ.out.lt, GB.out⟩
      have HS0 := Lib.hid S0
      clear S0
      first
        | (go_region_held3 (fun W => W.cell? ⟨w.heap.size, 0, none⟩ = some (.int .u8 op) ∧ W.cell? ⟨w.heap.size, 1, none⟩ = some (.int .i64 a) ∧ W.cell? ⟨w.heap.size, 2, none⟩ = some (.int .i64 b) ∧ W.cell? ⟨w.heap.size, 3, none⟩ = some (.int .i64 c) ∧ W.cell? ⟨w.heap.size, 4, none⟩ = some (.int .i64 m) ∧ W.cell? ⟨(w.heap.size + 1), 0, none⟩ = some (.int .u8 op') ∧ W.cell? ⟨(w.heap.size + 1), 1, none⟩ = some (.int .i64 a') ∧ W.cell? ⟨(w.heap.size + 1), 2, none⟩ = some (.int .i64 b') ∧ W.cell? ⟨(w.heap.size + 1), 3, none⟩ = some (.int .i64 c') ∧ W.cell? ⟨(w.heap.size + 1), 4, none⟩ = some (.int .i64 m') ∧ w.heap.size < W.heap.size ∧ (w.heap.size + 1) < W.heap.size ∧ Below w.heap.size w W)
             (((repeat (apply keepII; assumption)); exact HS0.out))
             (first | (go_at_call 39; refine (H3.out _).mono ?_; rintro e w' ⟨rfl, hb'⟩) | (go_at_call 41; refine (H4.out _).mono ?_; rintro e w' ⟨rfl, hb'⟩) | (go_at_call 41; refine (H5.out _).mono ?_; rintro e w' ⟨rfl, hb'⟩)))
        | fail
      rename_i hH
      have B9 := Lib.hid hH.2.2.2.2.2.2.2.2.2.2.2.2
      clear hH
      go_wp2_with fail
      go_ret
      exact ⟨rfl, B9.out⟩
set_option maxRecDepth 100000 in
set_option maxHeartbeats 4000000 in
theorem rd_some_126_1 (op a b c m op' a' b' c' m' : Int) (h0 : 0 ≤ op) (h1 : op ≤ 255) (h0' : 0 ≤ op') (h1' : op' ≤ 255) (L : List Int) (hL : readsV op' a' b' c' m' = L) (hlen : L.length ≠ 0) (hsm : L.length ≤ 100) (r : Int) (hr : wrV op a b c m = r) (hok : wrOK op a b c m = true) (X : Int) (hX : nextV op a b c m = X) (q18 : (op == 18) = false) (q20 : (op == 20) = false) (q26 : (op == 26) = true) (hq : L.contains r = true) (hz' : hazB op' a' b' c' m' X = true) (hz0 : hazB op' a' b' c' m' 0 = false) (w : World) :
    Calls Try.prog 16 #[.agg #[.int .u8 op, .int .i64 a, .int .i64 b, .int .i64 c, .int .i64 m], .agg #[.int .u8 op', .int .i64 a', .int .i64 b', .int .i64 c', .int .i64 m']] w fun e w' => e = .returned (.bool true) ∧ Below w.heap.size w w' := by
  have rd1 := fun W => reads_any op' a' b' c' m' h0' h1' W
  rw [hL] at rd1
  have H1 := Lib.hid rd1
  have H2 := Lib.hid (fun W => writes_any op a b c m h0 h1 r true hr hok W)
  have H3 := Lib.hid (fun W => next_any op a b c m h0 h1 X hX W)
  have H4 := Lib.hid (fun W => hazard_any X op' a' b' c' m' h0' h1' true hz' W)
  have H5 := Lib.hid (fun W => hazard_any 0 op' a' b' c' m' h0' h1' false hz0 W)
  have Hq := Lib.hid hq
  clear rd1 hL hr hok hX hz' hz0 hq
  go_enter Try.func16, Try.ntmps16
  go_wp2_with fail
  have XI0 := Lib.hid (IF.newAt (op) (a) (b) (c) (m) (w) (w.heap.size) (by simp))
  have BxI0 := Lib.hid (below_new (Below.refl w.heap.size w) (.cells #[.int .u8 (op), .int .i64 (a), .int .i64 (b), .int .i64 (c), .int .i64 (m)] 23))
  have XI0' := Lib.hid (XI0.out.alloc (.cells #[.int .u8 (op'), .int .i64 (a'), .int .i64 (b'), .int .i64 (c'), .int .i64 (m')] 23))
  have XJ0 := Lib.hid (IF.newAt (op') (a') (b') (c') (m') ((w).alloc (.cells #[.int .u8 (op), .int .i64 (a), .int .i64 (b), .int .i64 (c), .int .i64 (m)] 23)) (w.heap.size + 1) (by simp))
  have BxJ0 := Lib.hid (below_new BxI0.out (.cells #[.int .u8 (op'), .int .i64 (a'), .int .i64 (b'), .int .i64 (c'), .int .i64 (m')] 23))
  have XI0'_lt := XI0'.out.lt
  have XI0'_i0 := XI0'.out.i0
  have XI0'_i1 := XI0'.out.i1
  have XI0'_i2 := XI0'.out.i2
  have XI0'_i3 := XI0'.out.i3
  have XI0'_i4 := XI0'.out.i4
  have XJ0_lt := XJ0.out.lt
  have XJ0_i0 := XJ0.out.i0
  have XJ0_i1 := XJ0.out.i1
  have XJ0_i2 := XJ0.out.i2
  have XJ0_i3 := XJ0.out.i3
  have XJ0_i4 := XJ0.out.i4
  refine (awake8 _).mono ?_
  rintro e w1 ⟨rfl, hb1⟩
  have B1 := Lib.hid (below_next BxJ0.out hb1)
  have XI1 := Lib.hid (XI0'.out.step hb1)
  have XJ1 := Lib.hid (XJ0.out.step hb1)
  clear hb1
  have XI1_lt := XI1.out.lt
  have XI1_i0 := XI1.out.i0
  have XI1_i1 := XI1.out.i1
  have XI1_i2 := XI1.out.i2
  have XI1_i3 := XI1.out.i3
  have XI1_i4 := XI1.out.i4
  have XJ1_lt := XJ1.out.lt
  have XJ1_i0 := XJ1.out.i0
  have XJ1_i1 := XJ1.out.i1
  have XJ1_i2 := XJ1.out.i2
  have XJ1_i3 := XJ1.out.i3
  have XJ1_i4 := XJ1.out.i4
  go_wp2_with fail
  refine (H2.out _).mono ?_
  rintro e w2 ⟨rfl, hb2⟩
  have B2 := Lib.hid (below_next B1.out hb2)
  have XI2 := Lib.hid (XI1.out.step hb2)
  have XJ2 := Lib.hid (XJ1.out.step hb2)
  clear hb2
  have XI2_lt := XI2.out.lt
  have XI2_i0 := XI2.out.i0
  have XI2_i1 := XI2.out.i1
  have XI2_i2 := XI2.out.i2
  have XI2_i3 := XI2.out.i3
  have XI2_i4 := XI2.out.i4
  have XJ2_lt := XJ2.out.lt
  have XJ2_i0 := XJ2.out.i0
  have XJ2_i1 := XJ2.out.i1
  have XJ2_i2 := XJ2.out.i2
  have XJ2_i3 := XJ2.out.i3
  have XJ2_i4 := XJ2.out.i4
  go_wp2_with fail
  refine (H1.out _).mono ?_
  rintro e w3 ⟨vP, rfl, o3, hb3⟩
  have XP3 := Lib.hid o3
  clear o3
  have B3 := Lib.hid (below_next B2.out hb3)
  have XI3 := Lib.hid (XI2.out.step hb3)
  have XJ3 := Lib.hid (XJ2.out.step hb3)
  clear hb3
  have XI3_lt := XI3.out.lt
  have XI3_i0 := XI3.out.i0
  have XI3_i1 := XI3.out.i1
  have XI3_i2 := XI3.out.i2
  have XI3_i3 := XI3.out.i3
  have XI3_i4 := XI3.out.i4
  have XJ3_lt := XJ3.out.lt
  have XJ3_i0 := XJ3.out.i0
  have XJ3_i1 := XJ3.out.i1
  have XJ3_i2 := XJ3.out.i2
  have XJ3_i3 := XJ3.out.i3
  have XJ3_i4 := XJ3.out.i4
  obtain ⟨gP, cP, rfl, _, hP⟩ := own_some XP3.out hlen
  have FP := Lib.hid hP
  clear hP XP3
  go_wp2_with fail
  go_loopw [8, 37] (fun t i wr => ∃ (k : Nat) (z : Bool), k ≤ L.length ∧ i = .int .i64 k ∧ t = .bool z ∧ z = (L.take k).contains r ∧ RF gP L wr ∧ IF w.heap.size op a b c m wr ∧ IF (w.heap.size + 1) op' a' b' c' m' wr ∧ Below w.heap.size w wr) (fun _ i _ => L.length - (intOf i).toNat)
  case atStart => exact ⟨0, false, by omega, rfl, rfl, by simp, FP.out, XI3.out, XJ3.out, B3.out⟩
  case round =>
    obtain ⟨k, z, hk, rfl, rfl, hz, hP, hI, hJ, hB⟩ := hrel
    have GP := Lib.hid hP
    have GI := Lib.hid hI
    have GJ := Lib.hid hJ
    have GB := Lib.hid hB
    have Hz := Lib.hid hz
    clear hP hI hJ hB hz FP
    by_cases hlt : k < L.length
    · have c1 := GP.out.at_ k hlt
      obtain ⟨x, hx⟩ : ∃ x, L.getD k 0 = x := ⟨_, rfl⟩
      have htk : L.take (k + 1) = L.take k ++ [x] := by
        rw [List.take_add_one, ← hx, List.getD_eq_getElem?_getD, List.getElem?_eq_getElem hlt]; simp
      rw [hx] at c1
      have Htk := Lib.hid htk
      clear hx htk
      cases z
      · by_cases he : x = r
        · have e1 : (x == r) = true := by simpa using he
          have He := Lib.hid he
          clear he
          go_wp2_with fail
          go_roundw
          case rel => exact ⟨k + 1, true, by omega, by go_num, rfl, by rw [Htk.out, He.out]; simp, GP.out, GI.out, GJ.out, GB.out⟩
          case measure => simp [intOf]; omega
        · have e1 : (x == r) = false := by simpa using he
          have He := Lib.hid he
          clear he
          go_wp2_with fail
          go_roundw
          case rel => exact ⟨k + 1, false, by omega, by go_num, rfl, by
            have h := Hz.out
            have hn : ¬ r = x := fun h => He.out h.symm
            rw [Htk.out]
            simp at h ⊢
            exact ⟨h, hn⟩, GP.out, GI.out, GJ.out, GB.out⟩
          case measure => simp [intOf]; omega
      · go_wp2_with fail
        go_roundw
        case rel => exact ⟨k + 1, true, by omega, by go_num, rfl, by
          have h := Hz.out
          rw [Htk.out]
          simp at h ⊢
          exact .inl h, GP.out, GI.out, GJ.out, GB.out⟩
        case measure => simp [intOf]; omega
    · have hkk : k = L.length := by omega
      have hzz : z = true := by rw [Hz.out, hkk, List.take_length]; exact Hq.out
      subst hzz hkk
      have GI_lt := GI.out.lt
      have GI_i0 := GI.out.i0
      have GI_i1 := GI.out.i1
      have GI_i2 := GI.out.i2
      have GI_i3 := GI.out.i3
      have GI_i4 := GI.out.i4
      have GJ_lt := GJ.out.lt
      have GJ_i0 := GJ.out.i0
      have GJ_i1 := GJ.out.i1
      have GJ_i2 := GJ.out.i2
      have GJ_i3 := GJ.out.i3
      have GJ_i4 := GJ.out.i4
      go_wp2_with fail
      have S0 := keepII (below_dr wr) ⟨GI.out.i0, GI.out.i1, GI.out.i2, GI.out.i3, GI.out.i4, GJ.out.i0, GJ.out.i1, GJ.out.i2, GJ.out.i3, GJ.out.i4, GI.out.lt, GJ.out.lt, GB.out⟩
      have HS0 := Lib.hid S0
      clear S0
      first
        | (go_region_held3 (fun W => W.cell? ⟨w.heap.size, 0, none⟩ = some (.int .u8 op) ∧ W.cell? ⟨w.heap.size, 1, none⟩ = some (.int .i64 a) ∧ W.cell? ⟨w.heap.size, 2, none⟩ = some (.int .i64 b) ∧ W.cell? ⟨w.heap.size, 3, none⟩ = some (.int .i64 c) ∧ W.cell? ⟨w.heap.size, 4, none⟩ = some (.int .i64 m) ∧ W.cell? ⟨(w.heap.size + 1), 0, none⟩ = some (.int .u8 op') ∧ W.cell? ⟨(w.heap.size + 1), 1, none⟩ = some (.int .i64 a') ∧ W.cell? ⟨(w.heap.size + 1), 2, none⟩ = some (.int .i64 b') ∧ W.cell? ⟨(w.heap.size + 1), 3, none⟩ = some (.int .i64 c') ∧ W.cell? ⟨(w.heap.size + 1), 4, none⟩ = some (.int .i64 m') ∧ w.heap.size < W.heap.size ∧ (w.heap.size + 1) < W.heap.size ∧ Below w.heap.size w W)
             (((repeat (apply keepII; assumption)); exact HS0.out))
             (first | (go_at_call 39; refine (H3.out _).mono ?_; rintro e w' ⟨rfl, hb'⟩) | (go_at_call 41; refine (H4.out _).mono ?_; rintro e w' ⟨rfl, hb'⟩) | (go_at_call 41; refine (H5.out _).mono ?_; rintro e w' ⟨rfl, hb'⟩)))
        | fail
      rename_i hH
      have B9 := Lib.hid hH.2.2.2.2.2.2.2.2.2.2.2.2
      clear hH
      go_wp2_with fail
      go_ret
      exact ⟨rfl, B9.out⟩
set_option maxRecDepth 100000 in
set_option maxHeartbeats 4000000 in
theorem rd_some_1no_0 (op a b c m op' a' b' c' m' : Int) (h0 : 0 ≤ op) (h1 : op ≤ 255) (h0' : 0 ≤ op') (h1' : op' ≤ 255) (L : List Int) (hL : readsV op' a' b' c' m' = L) (hlen : L.length ≠ 0) (hsm : L.length ≤ 100) (r : Int) (hr : wrV op a b c m = r) (hok : wrOK op a b c m = true) (X : Int) (hX : nextV op a b c m = X) (q18 : (op == 18) = false) (q20 : (op == 20) = false) (q26 : (op == 26) = false) (hq : L.contains r = false) (hz' : hazB op' a' b' c' m' X = false) (hz0 : hazB op' a' b' c' m' 0 = false) (w : World) :
    Calls Try.prog 16 #[.agg #[.int .u8 op, .int .i64 a, .int .i64 b, .int .i64 c, .int .i64 m], .agg #[.int .u8 op', .int .i64 a', .int .i64 b', .int .i64 c', .int .i64 m']] w fun e w' => e = .returned (.bool true) ∧ Below w.heap.size w w' := by
  have rd1 := fun W => reads_any op' a' b' c' m' h0' h1' W
  rw [hL] at rd1
  have H1 := Lib.hid rd1
  have H2 := Lib.hid (fun W => writes_any op a b c m h0 h1 r true hr hok W)
  have H3 := Lib.hid (fun W => next_any op a b c m h0 h1 X hX W)
  have H4 := Lib.hid (fun W => hazard_any X op' a' b' c' m' h0' h1' false hz' W)
  have H5 := Lib.hid (fun W => hazard_any 0 op' a' b' c' m' h0' h1' false hz0 W)
  have Hq := Lib.hid hq
  clear rd1 hL hr hok hX hz' hz0 hq
  go_enter Try.func16, Try.ntmps16
  go_wp2_with fail
  have XI0 := Lib.hid (IF.newAt (op) (a) (b) (c) (m) (w) (w.heap.size) (by simp))
  have BxI0 := Lib.hid (below_new (Below.refl w.heap.size w) (.cells #[.int .u8 (op), .int .i64 (a), .int .i64 (b), .int .i64 (c), .int .i64 (m)] 23))
  have XI0' := Lib.hid (XI0.out.alloc (.cells #[.int .u8 (op'), .int .i64 (a'), .int .i64 (b'), .int .i64 (c'), .int .i64 (m')] 23))
  have XJ0 := Lib.hid (IF.newAt (op') (a') (b') (c') (m') ((w).alloc (.cells #[.int .u8 (op), .int .i64 (a), .int .i64 (b), .int .i64 (c), .int .i64 (m)] 23)) (w.heap.size + 1) (by simp))
  have BxJ0 := Lib.hid (below_new BxI0.out (.cells #[.int .u8 (op'), .int .i64 (a'), .int .i64 (b'), .int .i64 (c'), .int .i64 (m')] 23))
  have XI0'_lt := XI0'.out.lt
  have XI0'_i0 := XI0'.out.i0
  have XI0'_i1 := XI0'.out.i1
  have XI0'_i2 := XI0'.out.i2
  have XI0'_i3 := XI0'.out.i3
  have XI0'_i4 := XI0'.out.i4
  have XJ0_lt := XJ0.out.lt
  have XJ0_i0 := XJ0.out.i0
  have XJ0_i1 := XJ0.out.i1
  have XJ0_i2 := XJ0.out.i2
  have XJ0_i3 := XJ0.out.i3
  have XJ0_i4 := XJ0.out.i4
  refine (awake8 _).mono ?_
  rintro e w1 ⟨rfl, hb1⟩
  have B1 := Lib.hid (below_next BxJ0.out hb1)
  have XI1 := Lib.hid (XI0'.out.step hb1)
  have XJ1 := Lib.hid (XJ0.out.step hb1)
  clear hb1
  have XI1_lt := XI1.out.lt
  have XI1_i0 := XI1.out.i0
  have XI1_i1 := XI1.out.i1
  have XI1_i2 := XI1.out.i2
  have XI1_i3 := XI1.out.i3
  have XI1_i4 := XI1.out.i4
  have XJ1_lt := XJ1.out.lt
  have XJ1_i0 := XJ1.out.i0
  have XJ1_i1 := XJ1.out.i1
  have XJ1_i2 := XJ1.out.i2
  have XJ1_i3 := XJ1.out.i3
  have XJ1_i4 := XJ1.out.i4
  go_wp2_with fail
  refine (H2.out _).mono ?_
  rintro e w2 ⟨rfl, hb2⟩
  have B2 := Lib.hid (below_next B1.out hb2)
  have XI2 := Lib.hid (XI1.out.step hb2)
  have XJ2 := Lib.hid (XJ1.out.step hb2)
  clear hb2
  have XI2_lt := XI2.out.lt
  have XI2_i0 := XI2.out.i0
  have XI2_i1 := XI2.out.i1
  have XI2_i2 := XI2.out.i2
  have XI2_i3 := XI2.out.i3
  have XI2_i4 := XI2.out.i4
  have XJ2_lt := XJ2.out.lt
  have XJ2_i0 := XJ2.out.i0
  have XJ2_i1 := XJ2.out.i1
  have XJ2_i2 := XJ2.out.i2
  have XJ2_i3 := XJ2.out.i3
  have XJ2_i4 := XJ2.out.i4
  go_wp2_with fail
  refine (H1.out _).mono ?_
  rintro e w3 ⟨vP, rfl, o3, hb3⟩
  have XP3 := Lib.hid o3
  clear o3
  have B3 := Lib.hid (below_next B2.out hb3)
  have XI3 := Lib.hid (XI2.out.step hb3)
  have XJ3 := Lib.hid (XJ2.out.step hb3)
  clear hb3
  have XI3_lt := XI3.out.lt
  have XI3_i0 := XI3.out.i0
  have XI3_i1 := XI3.out.i1
  have XI3_i2 := XI3.out.i2
  have XI3_i3 := XI3.out.i3
  have XI3_i4 := XI3.out.i4
  have XJ3_lt := XJ3.out.lt
  have XJ3_i0 := XJ3.out.i0
  have XJ3_i1 := XJ3.out.i1
  have XJ3_i2 := XJ3.out.i2
  have XJ3_i3 := XJ3.out.i3
  have XJ3_i4 := XJ3.out.i4
  obtain ⟨gP, cP, rfl, _, hP⟩ := own_some XP3.out hlen
  have FP := Lib.hid hP
  clear hP XP3
  go_wp2_with fail
  go_loopw [8, 37] (fun t i wr => ∃ (k : Nat) (z : Bool), k ≤ L.length ∧ i = .int .i64 k ∧ t = .bool z ∧ z = (L.take k).contains r ∧ RF gP L wr ∧ IF w.heap.size op a b c m wr ∧ IF (w.heap.size + 1) op' a' b' c' m' wr ∧ Below w.heap.size w wr) (fun _ i _ => L.length - (intOf i).toNat)
  case atStart => exact ⟨0, false, by omega, rfl, rfl, by simp, FP.out, XI3.out, XJ3.out, B3.out⟩
  case round =>
    obtain ⟨k, z, hk, rfl, rfl, hz, hP, hI, hJ, hB⟩ := hrel
    have GP := Lib.hid hP
    have GI := Lib.hid hI
    have GJ := Lib.hid hJ
    have GB := Lib.hid hB
    have Hz := Lib.hid hz
    clear hP hI hJ hB hz FP
    by_cases hlt : k < L.length
    · have c1 := GP.out.at_ k hlt
      obtain ⟨x, hx⟩ : ∃ x, L.getD k 0 = x := ⟨_, rfl⟩
      have htk : L.take (k + 1) = L.take k ++ [x] := by
        rw [List.take_add_one, ← hx, List.getD_eq_getElem?_getD, List.getElem?_eq_getElem hlt]; simp
      rw [hx] at c1
      have Htk := Lib.hid htk
      clear hx htk
      cases z
      · by_cases he : x = r
        · have e1 : (x == r) = true := by simpa using he
          have He := Lib.hid he
          clear he
          go_wp2_with fail
          go_roundw
          case rel => exact ⟨k + 1, true, by omega, by go_num, rfl, by rw [Htk.out, He.out]; simp, GP.out, GI.out, GJ.out, GB.out⟩
          case measure => simp [intOf]; omega
        · have e1 : (x == r) = false := by simpa using he
          have He := Lib.hid he
          clear he
          go_wp2_with fail
          go_roundw
          case rel => exact ⟨k + 1, false, by omega, by go_num, rfl, by
            have h := Hz.out
            have hn : ¬ r = x := fun h => He.out h.symm
            rw [Htk.out]
            simp at h ⊢
            exact ⟨h, hn⟩, GP.out, GI.out, GJ.out, GB.out⟩
          case measure => simp [intOf]; omega
      · go_wp2_with fail
        go_roundw
        case rel => exact ⟨k + 1, true, by omega, by go_num, rfl, by
          have h := Hz.out
          rw [Htk.out]
          simp at h ⊢
          exact .inl h, GP.out, GI.out, GJ.out, GB.out⟩
        case measure => simp [intOf]; omega
    · have hkk : k = L.length := by omega
      have hzz : z = false := by rw [Hz.out, hkk, List.take_length]; exact Hq.out
      subst hzz hkk
      have GI_lt := GI.out.lt
      have GI_i0 := GI.out.i0
      have GI_i1 := GI.out.i1
      have GI_i2 := GI.out.i2
      have GI_i3 := GI.out.i3
      have GI_i4 := GI.out.i4
      have GJ_lt := GJ.out.lt
      have GJ_i0 := GJ.out.i0
      have GJ_i1 := GJ.out.i1
      have GJ_i2 := GJ.out.i2
      have GJ_i3 := GJ.out.i3
      have GJ_i4 := GJ.out.i4
      go_wp2_with fail
      have S0 := keepII (below_dr wr) ⟨GI.out.i0, GI.out.i1, GI.out.i2, GI.out.i3, GI.out.i4, GJ.out.i0, GJ.out.i1, GJ.out.i2, GJ.out.i3, GJ.out.i4, GI.out.lt, GJ.out.lt, GB.out⟩
      have HS0 := Lib.hid S0
      clear S0
      first
        | (go_region_held (fun W => W.cell? ⟨w.heap.size, 0, none⟩ = some (.int .u8 op) ∧ W.cell? ⟨w.heap.size, 1, none⟩ = some (.int .i64 a) ∧ W.cell? ⟨w.heap.size, 2, none⟩ = some (.int .i64 b) ∧ W.cell? ⟨w.heap.size, 3, none⟩ = some (.int .i64 c) ∧ W.cell? ⟨w.heap.size, 4, none⟩ = some (.int .i64 m) ∧ W.cell? ⟨(w.heap.size + 1), 0, none⟩ = some (.int .u8 op') ∧ W.cell? ⟨(w.heap.size + 1), 1, none⟩ = some (.int .i64 a') ∧ W.cell? ⟨(w.heap.size + 1), 2, none⟩ = some (.int .i64 b') ∧ W.cell? ⟨(w.heap.size + 1), 3, none⟩ = some (.int .i64 c') ∧ W.cell? ⟨(w.heap.size + 1), 4, none⟩ = some (.int .i64 m') ∧ w.heap.size < W.heap.size ∧ (w.heap.size + 1) < W.heap.size ∧ Below w.heap.size w W)
             (((repeat (apply keepII; assumption)); exact HS0.out))
             (first | (go_at_call 39; refine (H3.out _).mono ?_; rintro e w' ⟨rfl, hb'⟩) | (go_at_call 41; refine (H4.out _).mono ?_; rintro e w' ⟨rfl, hb'⟩) | (go_at_call 41; refine (H5.out _).mono ?_; rintro e w' ⟨rfl, hb'⟩)))
        | fail
      rename_i hH
      have B9 := Lib.hid hH.2.2.2.2.2.2.2.2.2.2.2.2
      clear hH
      go_wp2_with fail
      go_ret
      exact ⟨rfl, B9.out⟩
set_option maxRecDepth 100000 in
set_option maxHeartbeats 4000000 in
theorem rd_some_1no_1 (op a b c m op' a' b' c' m' : Int) (h0 : 0 ≤ op) (h1 : op ≤ 255) (h0' : 0 ≤ op') (h1' : op' ≤ 255) (L : List Int) (hL : readsV op' a' b' c' m' = L) (hlen : L.length ≠ 0) (hsm : L.length ≤ 100) (r : Int) (hr : wrV op a b c m = r) (hok : wrOK op a b c m = true) (X : Int) (hX : nextV op a b c m = X) (q18 : (op == 18) = false) (q20 : (op == 20) = false) (q26 : (op == 26) = false) (hq : L.contains r = true) (hz' : hazB op' a' b' c' m' X = false) (hz0 : hazB op' a' b' c' m' 0 = false) (w : World) :
    Calls Try.prog 16 #[.agg #[.int .u8 op, .int .i64 a, .int .i64 b, .int .i64 c, .int .i64 m], .agg #[.int .u8 op', .int .i64 a', .int .i64 b', .int .i64 c', .int .i64 m']] w fun e w' => e = .returned (.bool true) ∧ Below w.heap.size w w' := by
  have rd1 := fun W => reads_any op' a' b' c' m' h0' h1' W
  rw [hL] at rd1
  have H1 := Lib.hid rd1
  have H2 := Lib.hid (fun W => writes_any op a b c m h0 h1 r true hr hok W)
  have H3 := Lib.hid (fun W => next_any op a b c m h0 h1 X hX W)
  have H4 := Lib.hid (fun W => hazard_any X op' a' b' c' m' h0' h1' false hz' W)
  have H5 := Lib.hid (fun W => hazard_any 0 op' a' b' c' m' h0' h1' false hz0 W)
  have Hq := Lib.hid hq
  clear rd1 hL hr hok hX hz' hz0 hq
  go_enter Try.func16, Try.ntmps16
  go_wp2_with fail
  have XI0 := Lib.hid (IF.newAt (op) (a) (b) (c) (m) (w) (w.heap.size) (by simp))
  have BxI0 := Lib.hid (below_new (Below.refl w.heap.size w) (.cells #[.int .u8 (op), .int .i64 (a), .int .i64 (b), .int .i64 (c), .int .i64 (m)] 23))
  have XI0' := Lib.hid (XI0.out.alloc (.cells #[.int .u8 (op'), .int .i64 (a'), .int .i64 (b'), .int .i64 (c'), .int .i64 (m')] 23))
  have XJ0 := Lib.hid (IF.newAt (op') (a') (b') (c') (m') ((w).alloc (.cells #[.int .u8 (op), .int .i64 (a), .int .i64 (b), .int .i64 (c), .int .i64 (m)] 23)) (w.heap.size + 1) (by simp))
  have BxJ0 := Lib.hid (below_new BxI0.out (.cells #[.int .u8 (op'), .int .i64 (a'), .int .i64 (b'), .int .i64 (c'), .int .i64 (m')] 23))
  have XI0'_lt := XI0'.out.lt
  have XI0'_i0 := XI0'.out.i0
  have XI0'_i1 := XI0'.out.i1
  have XI0'_i2 := XI0'.out.i2
  have XI0'_i3 := XI0'.out.i3
  have XI0'_i4 := XI0'.out.i4
  have XJ0_lt := XJ0.out.lt
  have XJ0_i0 := XJ0.out.i0
  have XJ0_i1 := XJ0.out.i1
  have XJ0_i2 := XJ0.out.i2
  have XJ0_i3 := XJ0.out.i3
  have XJ0_i4 := XJ0.out.i4
  refine (awake8 _).mono ?_
  rintro e w1 ⟨rfl, hb1⟩
  have B1 := Lib.hid (below_next BxJ0.out hb1)
  have XI1 := Lib.hid (XI0'.out.step hb1)
  have XJ1 := Lib.hid (XJ0.out.step hb1)
  clear hb1
  have XI1_lt := XI1.out.lt
  have XI1_i0 := XI1.out.i0
  have XI1_i1 := XI1.out.i1
  have XI1_i2 := XI1.out.i2
  have XI1_i3 := XI1.out.i3
  have XI1_i4 := XI1.out.i4
  have XJ1_lt := XJ1.out.lt
  have XJ1_i0 := XJ1.out.i0
  have XJ1_i1 := XJ1.out.i1
  have XJ1_i2 := XJ1.out.i2
  have XJ1_i3 := XJ1.out.i3
  have XJ1_i4 := XJ1.out.i4
  go_wp2_with fail
  refine (H2.out _).mono ?_
  rintro e w2 ⟨rfl, hb2⟩
  have B2 := Lib.hid (below_next B1.out hb2)
  have XI2 := Lib.hid (XI1.out.step hb2)
  have XJ2 := Lib.hid (XJ1.out.step hb2)
  clear hb2
  have XI2_lt := XI2.out.lt
  have XI2_i0 := XI2.out.i0
  have XI2_i1 := XI2.out.i1
  have XI2_i2 := XI2.out.i2
  have XI2_i3 := XI2.out.i3
  have XI2_i4 := XI2.out.i4
  have XJ2_lt := XJ2.out.lt
  have XJ2_i0 := XJ2.out.i0
  have XJ2_i1 := XJ2.out.i1
  have XJ2_i2 := XJ2.out.i2
  have XJ2_i3 := XJ2.out.i3
  have XJ2_i4 := XJ2.out.i4
  go_wp2_with fail
  refine (H1.out _).mono ?_
  rintro e w3 ⟨vP, rfl, o3, hb3⟩
  have XP3 := Lib.hid o3
  clear o3
  have B3 := Lib.hid (below_next B2.out hb3)
  have XI3 := Lib.hid (XI2.out.step hb3)
  have XJ3 := Lib.hid (XJ2.out.step hb3)
  clear hb3
  have XI3_lt := XI3.out.lt
  have XI3_i0 := XI3.out.i0
  have XI3_i1 := XI3.out.i1
  have XI3_i2 := XI3.out.i2
  have XI3_i3 := XI3.out.i3
  have XI3_i4 := XI3.out.i4
  have XJ3_lt := XJ3.out.lt
  have XJ3_i0 := XJ3.out.i0
  have XJ3_i1 := XJ3.out.i1
  have XJ3_i2 := XJ3.out.i2
  have XJ3_i3 := XJ3.out.i3
  have XJ3_i4 := XJ3.out.i4
  obtain ⟨gP, cP, rfl, _, hP⟩ := own_some XP3.out hlen
  have FP := Lib.hid hP
  clear hP XP3
  go_wp2_with fail
  go_loopw [8, 37] (fun t i wr => ∃ (k : Nat) (z : Bool), k ≤ L.length ∧ i = .int .i64 k ∧ t = .bool z ∧ z = (L.take k).contains r ∧ RF gP L wr ∧ IF w.heap.size op a b c m wr ∧ IF (w.heap.size + 1) op' a' b' c' m' wr ∧ Below w.heap.size w wr) (fun _ i _ => L.length - (intOf i).toNat)
  case atStart => exact ⟨0, false, by omega, rfl, rfl, by simp, FP.out, XI3.out, XJ3.out, B3.out⟩
  case round =>
    obtain ⟨k, z, hk, rfl, rfl, hz, hP, hI, hJ, hB⟩ := hrel
    have GP := Lib.hid hP
    have GI := Lib.hid hI
    have GJ := Lib.hid hJ
    have GB := Lib.hid hB
    have Hz := Lib.hid hz
    clear hP hI hJ hB hz FP
    by_cases hlt : k < L.length
    · have c1 := GP.out.at_ k hlt
      obtain ⟨x, hx⟩ : ∃ x, L.getD k 0 = x := ⟨_, rfl⟩
      have htk : L.take (k + 1) = L.take k ++ [x] := by
        rw [List.take_add_one, ← hx, List.getD_eq_getElem?_getD, List.getElem?_eq_getElem hlt]; simp
      rw [hx] at c1
      have Htk := Lib.hid htk
      clear hx htk
      cases z
      · by_cases he : x = r
        · have e1 : (x == r) = true := by simpa using he
          have He := Lib.hid he
          clear he
          go_wp2_with fail
          go_roundw
          case rel => exact ⟨k + 1, true, by omega, by go_num, rfl, by rw [Htk.out, He.out]; simp, GP.out, GI.out, GJ.out, GB.out⟩
          case measure => simp [intOf]; omega
        · have e1 : (x == r) = false := by simpa using he
          have He := Lib.hid he
          clear he
          go_wp2_with fail
          go_roundw
          case rel => exact ⟨k + 1, false, by omega, by go_num, rfl, by
            have h := Hz.out
            have hn : ¬ r = x := fun h => He.out h.symm
            rw [Htk.out]
            simp at h ⊢
            exact ⟨h, hn⟩, GP.out, GI.out, GJ.out, GB.out⟩
          case measure => simp [intOf]; omega
      · go_wp2_with fail
        go_roundw
        case rel => exact ⟨k + 1, true, by omega, by go_num, rfl, by
          have h := Hz.out
          rw [Htk.out]
          simp at h ⊢
          exact .inl h, GP.out, GI.out, GJ.out, GB.out⟩
        case measure => simp [intOf]; omega
    · have hkk : k = L.length := by omega
      have hzz : z = true := by rw [Hz.out, hkk, List.take_length]; exact Hq.out
      subst hzz hkk
      have GI_lt := GI.out.lt
      have GI_i0 := GI.out.i0
      have GI_i1 := GI.out.i1
      have GI_i2 := GI.out.i2
      have GI_i3 := GI.out.i3
      have GI_i4 := GI.out.i4
      have GJ_lt := GJ.out.lt
      have GJ_i0 := GJ.out.i0
      have GJ_i1 := GJ.out.i1
      have GJ_i2 := GJ.out.i2
      have GJ_i3 := GJ.out.i3
      have GJ_i4 := GJ.out.i4
      go_wp2_with fail
      have S0 := keepII (below_dr wr) ⟨GI.out.i0, GI.out.i1, GI.out.i2, GI.out.i3, GI.out.i4, GJ.out.i0, GJ.out.i1, GJ.out.i2, GJ.out.i3, GJ.out.i4, GI.out.lt, GJ.out.lt, GB.out⟩
      have HS0 := Lib.hid S0
      clear S0
      first
        | (go_region_held (fun W => W.cell? ⟨w.heap.size, 0, none⟩ = some (.int .u8 op) ∧ W.cell? ⟨w.heap.size, 1, none⟩ = some (.int .i64 a) ∧ W.cell? ⟨w.heap.size, 2, none⟩ = some (.int .i64 b) ∧ W.cell? ⟨w.heap.size, 3, none⟩ = some (.int .i64 c) ∧ W.cell? ⟨w.heap.size, 4, none⟩ = some (.int .i64 m) ∧ W.cell? ⟨(w.heap.size + 1), 0, none⟩ = some (.int .u8 op') ∧ W.cell? ⟨(w.heap.size + 1), 1, none⟩ = some (.int .i64 a') ∧ W.cell? ⟨(w.heap.size + 1), 2, none⟩ = some (.int .i64 b') ∧ W.cell? ⟨(w.heap.size + 1), 3, none⟩ = some (.int .i64 c') ∧ W.cell? ⟨(w.heap.size + 1), 4, none⟩ = some (.int .i64 m') ∧ w.heap.size < W.heap.size ∧ (w.heap.size + 1) < W.heap.size ∧ Below w.heap.size w W)
             (((repeat (apply keepII; assumption)); exact HS0.out))
             (first | (go_at_call 39; refine (H3.out _).mono ?_; rintro e w' ⟨rfl, hb'⟩) | (go_at_call 41; refine (H4.out _).mono ?_; rintro e w' ⟨rfl, hb'⟩) | (go_at_call 41; refine (H5.out _).mono ?_; rintro e w' ⟨rfl, hb'⟩)))
        | fail
      rename_i hH
      have B9 := Lib.hid hH.2.2.2.2.2.2.2.2.2.2.2.2
      clear hH
      go_wp2_with fail
      go_ret
      exact ⟨rfl, B9.out⟩
theorem walk_PipelineReads (op a b c m : Int) (w6 : (Lit.int .u8 op).wf = true) (w7 : (Lit.int .i64 a).wf = true) (w8 : (Lit.int .i64 b).wf = true) (w9 : (Lit.int .i64 c).wf = true) (w10 : (Lit.int .i64 m).wf = true) (op' a' b' c' m' : Int) (v6 : (Lit.int .u8 op').wf = true) (v7 : (Lit.int .i64 a').wf = true) (v8 : (Lit.int .i64 b').wf = true) (v9 : (Lit.int .i64 c').wf = true) (v10 : (Lit.int .i64 m').wf = true) (w : World) :
    Calls Try.prog 16 #[.agg #[.int .u8 op, .int .i64 a, .int .i64 b, .int .i64 c, .int .i64 m], .agg #[.int .u8 op', .int .i64 a', .int .i64 b', .int .i64 c', .int .i64 m']] w fun e w' => e = .returned (.bool true) ∧ Below w.heap.size w w' := by
  obtain ⟨h0, h1⟩ := u8_bounds w6
  obtain ⟨h0', h1'⟩ := u8_bounds v6
  have hs := readsV_small op' a' b' c' m' h0' h1'
  have hz0 := haz_zero op' a' b' c' m' h0'
  have tail : ∀ (ok : Bool), wrOK op a b c m = ok → ∀ q, (readsV op' a' b' c' m').contains (wrV op a b c m) = q → True := fun _ _ _ _ => trivial
  cases hok : wrOK op a b c m
  · have hr : wrV op a b c m = 0 := by unfold wrV; rw [hok]; simp
    have hX : nextV op a b c m = 0 := by unfold nextV; rw [hr]; simp
    have hq : (readsV op' a' b' c' m').contains 0 = false := hz0
    by_cases hl : (readsV op' a' b' c' m').length = 0
    · exact rd_none_0any_0 op a b c m op' a' b' c' m' h0 h1 h0' h1' _ rfl hl hs 0 hr hok 0 hX hq hz0 hz0 w
    · exact rd_some_0any_0 op a b c m op' a' b' c' m' h0 h1 h0' h1' _ rfl hl hs 0 hr hok 0 hX hq hz0 hz0 w
  · by_cases h18 : op = 18
    · have k18 := h18
      have hX : nextV op a b c m = wrV op a b c m := by unfold nextV ldB; simp [*]
      by_cases hl : (readsV op' a' b' c' m').length = 0
      · have hq : (readsV op' a' b' c' m').contains (wrV op a b c m) = false := by rw [List.length_eq_zero_iff.1 hl]; rfl
        exact rd_none_118_0 op a b c m op' a' b' c' m' h0 h1 h0' h1' _ rfl hl hs _ rfl hok _ hX (by simpa using h18) hq hq hz0 w
      · cases hq : (readsV op' a' b' c' m').contains (wrV op a b c m)
        · exact rd_some_118_0 op a b c m op' a' b' c' m' h0 h1 h0' h1' _ rfl hl hs _ rfl hok _ hX (by simpa using h18) hq hq hz0 w
        · exact rd_some_118_1 op a b c m op' a' b' c' m' h0 h1 h0' h1' _ rfl hl hs _ rfl hok _ hX (by simpa using h18) hq hq hz0 w
    · have n18 := h18
      by_cases h20 : op = 20
      · have k20 := h20
        have hX : nextV op a b c m = wrV op a b c m := by unfold nextV ldB; simp [*]
        by_cases hl : (readsV op' a' b' c' m').length = 0
        · have hq : (readsV op' a' b' c' m').contains (wrV op a b c m) = false := by rw [List.length_eq_zero_iff.1 hl]; rfl
          exact rd_none_120_0 op a b c m op' a' b' c' m' h0 h1 h0' h1' _ rfl hl hs _ rfl hok _ hX (by simpa using n18) (by simpa using h20) hq hq hz0 w
        · cases hq : (readsV op' a' b' c' m').contains (wrV op a b c m)
          · exact rd_some_120_0 op a b c m op' a' b' c' m' h0 h1 h0' h1' _ rfl hl hs _ rfl hok _ hX (by simpa using n18) (by simpa using h20) hq hq hz0 w
          · exact rd_some_120_1 op a b c m op' a' b' c' m' h0 h1 h0' h1' _ rfl hl hs _ rfl hok _ hX (by simpa using n18) (by simpa using h20) hq hq hz0 w
      · have n20 := h20
        by_cases h26 : op = 26
        · have k26 := h26
          have hX : nextV op a b c m = wrV op a b c m := by unfold nextV ldB; simp [*]
          by_cases hl : (readsV op' a' b' c' m').length = 0
          · have hq : (readsV op' a' b' c' m').contains (wrV op a b c m) = false := by rw [List.length_eq_zero_iff.1 hl]; rfl
            exact rd_none_126_0 op a b c m op' a' b' c' m' h0 h1 h0' h1' _ rfl hl hs _ rfl hok _ hX (by simpa using n18) (by simpa using n20) (by simpa using h26) hq hq hz0 w
          · cases hq : (readsV op' a' b' c' m').contains (wrV op a b c m)
            · exact rd_some_126_0 op a b c m op' a' b' c' m' h0 h1 h0' h1' _ rfl hl hs _ rfl hok _ hX (by simpa using n18) (by simpa using n20) (by simpa using h26) hq hq hz0 w
            · exact rd_some_126_1 op a b c m op' a' b' c' m' h0 h1 h0' h1' _ rfl hl hs _ rfl hok _ hX (by simpa using n18) (by simpa using n20) (by simpa using h26) hq hq hz0 w
        · have n26 := h26
          have hX : nextV op a b c m = 0 := by unfold nextV ldB; simp [*]
          by_cases hl : (readsV op' a' b' c' m').length = 0
          · have hq : (readsV op' a' b' c' m').contains (wrV op a b c m) = false := by rw [List.length_eq_zero_iff.1 hl]; rfl
            exact rd_none_1no_0 op a b c m op' a' b' c' m' h0 h1 h0' h1' _ rfl hl hs _ rfl hok _ hX (by simpa using n18) (by simpa using n20) (by simpa using n26) hq hz0 hz0 w
          · cases hq : (readsV op' a' b' c' m').contains (wrV op a b c m)
            · exact rd_some_1no_0 op a b c m op' a' b' c' m' h0 h1 h0' h1' _ rfl hl hs _ rfl hok _ hX (by simpa using n18) (by simpa using n20) (by simpa using n26) hq hz0 hz0 w
            · exact rd_some_1no_1 op a b c m op' a' b' c' m' h0 h1 h0' h1' _ rfl hl hs _ rfl hok _ hX (by simpa using n18) (by simpa using n20) (by simpa using n26) hq hz0 hz0 w
end Go.Proofs.Ytgjpenhfechhcaa
