/- The walk of PipelineCycles: it returns true whatever the input. -/
import Derived.Test.YtgjpenhfechhcaaA22
import Derived.BigQuiet
import Derived.Deep.RegionHeld3
namespace Go.Proofs.Ytgjpenhfechhcaa
set_option linter.unusedVariables false
set_option linter.unusedSimpArgs false
open Go.RowKit Go.Proofs.YtgjpenhfechhcaaW.PrintWords Go.Proofs.YtgjpenhfechhcaaW.PrintLast Go.Proofs.YtgjpenhfechhcaaW.PrintMore
open PIsaDecodes
theorem keepTI {w W W' : World} {A B : Nat} {mul div tk hz op a b c m : Int} (hb : Below W.heap.size W W')
    (h : W.cell? ⟨A, 0, none⟩ = some (.int .i64 mul) ∧ W.cell? ⟨A, 1, none⟩ = some (.int .i64 div) ∧ W.cell? ⟨A, 2, none⟩ = some (.int .i64 tk) ∧ W.cell? ⟨A, 3, none⟩ = some (.int .i64 hz) ∧ W.cell? ⟨B, 0, none⟩ = some (.int .u8 op) ∧ W.cell? ⟨B, 1, none⟩ = some (.int .i64 a) ∧ W.cell? ⟨B, 2, none⟩ = some (.int .i64 b) ∧ W.cell? ⟨B, 3, none⟩ = some (.int .i64 c) ∧ W.cell? ⟨B, 4, none⟩ = some (.int .i64 m) ∧ A < W.heap.size ∧ B < W.heap.size ∧ Below w.heap.size w W) :
    W'.cell? ⟨A, 0, none⟩ = some (.int .i64 mul) ∧ W'.cell? ⟨A, 1, none⟩ = some (.int .i64 div) ∧ W'.cell? ⟨A, 2, none⟩ = some (.int .i64 tk) ∧ W'.cell? ⟨A, 3, none⟩ = some (.int .i64 hz) ∧ W'.cell? ⟨B, 0, none⟩ = some (.int .u8 op) ∧ W'.cell? ⟨B, 1, none⟩ = some (.int .i64 a) ∧ W'.cell? ⟨B, 2, none⟩ = some (.int .i64 b) ∧ W'.cell? ⟨B, 3, none⟩ = some (.int .i64 c) ∧ W'.cell? ⟨B, 4, none⟩ = some (.int .i64 m) ∧ A < W'.heap.size ∧ B < W'.heap.size ∧ Below w.heap.size w W' := by
  obtain ⟨t0, t1, t2, t3, i0, i1, i2, i3, i4, hA, hB, h⟩ := h
  exact ⟨(hb.cell (p := ⟨A, 0, none⟩) hA).trans t0, (hb.cell (p := ⟨A, 1, none⟩) hA).trans t1, (hb.cell (p := ⟨A, 2, none⟩) hA).trans t2, (hb.cell (p := ⟨A, 3, none⟩) hA).trans t3,
    (hb.cell (p := ⟨B, 0, none⟩) hB).trans i0, (hb.cell (p := ⟨B, 1, none⟩) hB).trans i1, (hb.cell (p := ⟨B, 2, none⟩) hB).trans i2, (hb.cell (p := ⟨B, 3, none⟩) hB).trans i3, (hb.cell (p := ⟨B, 4, none⟩) hB).trans i4,
    Nat.lt_of_lt_of_le hA hb.size, Nat.lt_of_lt_of_le hB hb.size, below_next h hb⟩
theorem tval_in {mul div tk hz : Int} (h : tval mul div tk hz = true) : (0 ≤ mul ∧ mul ≤ 1000) ∧ (0 ≤ div ∧ div ≤ 1000) ∧ (0 ≤ tk ∧ tk ≤ 1000) ∧ (0 ≤ hz ∧ hz ≤ 1000) := by
  unfold tval okD at h
  simpa using h
set_option maxRecDepth 100000 in
set_option maxHeartbeats 4000000 in
theorem cycles_early (mul div tk hz s op a b c m : Int) (taken : Bool) (hv : tval mul div tk hz = false) (w : World) :
    Calls Try.prog 17 #[.agg #[.int .i64 mul, .int .i64 div, .int .i64 tk, .int .i64 hz], .int .i64 s, .agg #[.int .u8 op, .int .i64 a, .int .i64 b, .int .i64 c, .int .i64 m], .bool taken] w fun e w' => e = .returned (.bool true) ∧ Below w.heap.size w w' := by
  have H1 := Lib.hid (fun W => rvalid8_any mul div tk hz false hv W)
  clear hv
  go_enter Try.func17, Try.ntmps17
  go_wp2_with fail
  have XT0 := Lib.hid (TF.newAt (mul) (div) (tk) (hz) (w) (w.heap.size) (by simp))
  have BxT0 := Lib.hid (below_new (Below.refl w.heap.size w) (.cells #[.int .i64 (mul), .int .i64 (div), .int .i64 (tk), .int .i64 (hz)] 49))
  have XT0' := Lib.hid (XT0.out.alloc (.cells #[.int .u8 (op), .int .i64 (a), .int .i64 (b), .int .i64 (c), .int .i64 (m)] 23))
  have XI0 := Lib.hid (IF.newAt (op) (a) (b) (c) (m) ((w).alloc (.cells #[.int .i64 (mul), .int .i64 (div), .int .i64 (tk), .int .i64 (hz)] 49)) (w.heap.size + 1) (by simp))
  have BxI0 := Lib.hid (below_new BxT0.out (.cells #[.int .u8 (op), .int .i64 (a), .int .i64 (b), .int .i64 (c), .int .i64 (m)] 23))
  have XT0'_lt := XT0'.out.lt
  have XT0'_i0 := XT0'.out.i0
  have XT0'_i1 := XT0'.out.i1
  have XT0'_i2 := XT0'.out.i2
  have XT0'_i3 := XT0'.out.i3
  have XI0_lt := XI0.out.lt
  have XI0_i0 := XI0.out.i0
  have XI0_i1 := XI0.out.i1
  have XI0_i2 := XI0.out.i2
  have XI0_i3 := XI0.out.i3
  have XI0_i4 := XI0.out.i4
  refine (awake8 _).mono ?_
  rintro e w1 ⟨rfl, hb1⟩
  have B1 := Lib.hid (below_next BxI0.out hb1)
  have XT1 := Lib.hid (XT0'.out.step hb1)
  have XI1 := Lib.hid (XI0.out.step hb1)
  clear hb1
  have XT1_lt := XT1.out.lt
  have XT1_i0 := XT1.out.i0
  have XT1_i1 := XT1.out.i1
  have XT1_i2 := XT1.out.i2
  have XT1_i3 := XT1.out.i3
  have XI1_lt := XI1.out.lt
  have XI1_i0 := XI1.out.i0
  have XI1_i1 := XI1.out.i1
  have XI1_i2 := XI1.out.i2
  have XI1_i3 := XI1.out.i3
  have XI1_i4 := XI1.out.i4
  go_wp2_with fail
  refine (H1.out _).mono ?_
  rintro e w2 ⟨rfl, hb2⟩
  have B2 := Lib.hid (below_next B1.out hb2)
  have XT2 := Lib.hid (XT1.out.step hb2)
  have XI2 := Lib.hid (XI1.out.step hb2)
  clear hb2
  have XT2_lt := XT2.out.lt
  have XT2_i0 := XT2.out.i0
  have XT2_i1 := XT2.out.i1
  have XT2_i2 := XT2.out.i2
  have XT2_i3 := XT2.out.i3
  have XI2_lt := XI2.out.lt
  have XI2_i0 := XI2.out.i0
  have XI2_i1 := XI2.out.i1
  have XI2_i2 := XI2.out.i2
  have XI2_i3 := XI2.out.i3
  have XI2_i4 := XI2.out.i4
  go_wp2_with fail
  go_ret
  exact ⟨rfl, B2.out⟩
set_option maxRecDepth 100000 in
set_option maxHeartbeats 4000000 in
theorem cycles_late (mul div tk hz s op a b c m : Int) (taken : Bool) (h0 : 0 ≤ op) (h1 : op ≤ 255) (hv : tval mul div tk hz = true) (hm : 0 ≤ mul ∧ mul ≤ 1000) (hd : 0 ≤ div ∧ div ≤ 1000) (ht : 0 ≤ tk ∧ tk ≤ 1000) (hh : 0 ≤ hz ∧ hz ≤ 1000) (X Y Z : Int) (hX : cycV mul div tk hz op a b c m s taken = X) (hY : mostV mul div tk hz op a b c m = Y) (hZ : baseV mul div op = Z) (w : World) :
    Calls Try.prog 17 #[.agg #[.int .i64 mul, .int .i64 div, .int .i64 tk, .int .i64 hz], .int .i64 s, .agg #[.int .u8 op, .int .i64 a, .int .i64 b, .int .i64 c, .int .i64 m], .bool taken] w fun e w' => e = .returned (.bool true) ∧ Below w.heap.size w w' := by
  have H1 := Lib.hid (fun W => rvalid8_any mul div tk hz true hv W)
  have H2 := Lib.hid (fun W => cycles44 s mul div tk hz op a b c m hm hd ht hh h0 h1 taken X hX W)
  have H3 := Lib.hid (fun W => cycles46 s mul div tk hz op a b c m hm hd ht hh h0 h1 taken X hX W)
  have H4 := Lib.hid (fun W => most47 mul div tk hz op a b c m hm hd ht hh h0 h1 Y hY W)
  have H5 := Lib.hid (fun W => most48 mul div tk hz op a b c m hm hd ht hh h0 h1 Y hY W)
  have H6 := Lib.hid (fun W => least49 mul div tk hz op a b c m hm hd Z hZ W)
  have H7 := Lib.hid (fun W => least50 mul div tk hz op a b c m hm hd Z hZ W)
  clear hv hX hY hZ hm hd ht hh
  go_enter Try.func17, Try.ntmps17
  go_wp2_with fail
  have XT0 := Lib.hid (TF.newAt (mul) (div) (tk) (hz) (w) (w.heap.size) (by simp))
  have BxT0 := Lib.hid (below_new (Below.refl w.heap.size w) (.cells #[.int .i64 (mul), .int .i64 (div), .int .i64 (tk), .int .i64 (hz)] 49))
  have XT0' := Lib.hid (XT0.out.alloc (.cells #[.int .u8 (op), .int .i64 (a), .int .i64 (b), .int .i64 (c), .int .i64 (m)] 23))
  have XI0 := Lib.hid (IF.newAt (op) (a) (b) (c) (m) ((w).alloc (.cells #[.int .i64 (mul), .int .i64 (div), .int .i64 (tk), .int .i64 (hz)] 49)) (w.heap.size + 1) (by simp))
  have BxI0 := Lib.hid (below_new BxT0.out (.cells #[.int .u8 (op), .int .i64 (a), .int .i64 (b), .int .i64 (c), .int .i64 (m)] 23))
  have XT0'_lt := XT0'.out.lt
  have XT0'_i0 := XT0'.out.i0
  have XT0'_i1 := XT0'.out.i1
  have XT0'_i2 := XT0'.out.i2
  have XT0'_i3 := XT0'.out.i3
  have XI0_lt := XI0.out.lt
  have XI0_i0 := XI0.out.i0
  have XI0_i1 := XI0.out.i1
  have XI0_i2 := XI0.out.i2
  have XI0_i3 := XI0.out.i3
  have XI0_i4 := XI0.out.i4
  refine (awake8 _).mono ?_
  rintro e w1 ⟨rfl, hb1⟩
  have B1 := Lib.hid (below_next BxI0.out hb1)
  have XT1 := Lib.hid (XT0'.out.step hb1)
  have XI1 := Lib.hid (XI0.out.step hb1)
  clear hb1
  have XT1_lt := XT1.out.lt
  have XT1_i0 := XT1.out.i0
  have XT1_i1 := XT1.out.i1
  have XT1_i2 := XT1.out.i2
  have XT1_i3 := XT1.out.i3
  have XI1_lt := XI1.out.lt
  have XI1_i0 := XI1.out.i0
  have XI1_i1 := XI1.out.i1
  have XI1_i2 := XI1.out.i2
  have XI1_i3 := XI1.out.i3
  have XI1_i4 := XI1.out.i4
  go_wp2_with fail
  refine (H1.out _).mono ?_
  rintro e w2 ⟨rfl, hb2⟩
  have B2 := Lib.hid (below_next B1.out hb2)
  have XT2 := Lib.hid (XT1.out.step hb2)
  have XI2 := Lib.hid (XI1.out.step hb2)
  clear hb2
  have XT2_lt := XT2.out.lt
  have XT2_i0 := XT2.out.i0
  have XT2_i1 := XT2.out.i1
  have XT2_i2 := XT2.out.i2
  have XT2_i3 := XT2.out.i3
  have XI2_lt := XI2.out.lt
  have XI2_i0 := XI2.out.i0
  have XI2_i1 := XI2.out.i1
  have XI2_i2 := XI2.out.i2
  have XI2_i3 := XI2.out.i3
  have XI2_i4 := XI2.out.i4
  go_wp2_with fail
  have S0 := keepTI (below_dr w2) ⟨XT2.out.i0, XT2.out.i1, XT2.out.i2, XT2.out.i3, XI2.out.i0, XI2.out.i1, XI2.out.i2, XI2.out.i3, XI2.out.i4, XT2.out.lt, XI2.out.lt, B2.out⟩
  have HS0 := Lib.hid S0
  clear S0
  go_region_held3 (fun W => W.cell? ⟨w.heap.size, 0, none⟩ = some (.int .i64 mul) ∧ W.cell? ⟨w.heap.size, 1, none⟩ = some (.int .i64 div) ∧ W.cell? ⟨w.heap.size, 2, none⟩ = some (.int .i64 tk) ∧ W.cell? ⟨w.heap.size, 3, none⟩ = some (.int .i64 hz) ∧ W.cell? ⟨(w.heap.size + 1), 0, none⟩ = some (.int .u8 op) ∧ W.cell? ⟨(w.heap.size + 1), 1, none⟩ = some (.int .i64 a) ∧ W.cell? ⟨(w.heap.size + 1), 2, none⟩ = some (.int .i64 b) ∧ W.cell? ⟨(w.heap.size + 1), 3, none⟩ = some (.int .i64 c) ∧ W.cell? ⟨(w.heap.size + 1), 4, none⟩ = some (.int .i64 m) ∧ w.heap.size < W.heap.size ∧ (w.heap.size + 1) < W.heap.size ∧ Below w.heap.size w W)
    (((repeat (apply keepTI; assumption)); exact HS0.out))
    (first | (go_at_call 44; refine (H2.out _).mono ?_; rintro e w' ⟨rfl, hb'⟩) | (go_at_call 46; refine (H3.out _).mono ?_; rintro e w' ⟨rfl, hb'⟩) | (go_at_call 47; refine (H4.out _).mono ?_; rintro e w' ⟨rfl, hb'⟩) | (go_at_call 48; refine (H5.out _).mono ?_; rintro e w' ⟨rfl, hb'⟩) | (go_at_call 49; refine (H6.out _).mono ?_; rintro e w' ⟨rfl, hb'⟩) | (go_at_call 50; refine (H7.out _).mono ?_; rintro e w' ⟨rfl, hb'⟩))
  rename_i hH
  have B9 := Lib.hid hH.2.2.2.2.2.2.2.2.2.2.2
  clear hH
  go_wp2_with fail
  go_ret
  exact ⟨rfl, B9.out⟩
theorem walk_PipelineCycles (mul div tk hz : Int) (w1 : (Lit.int .i64 mul).wf = true) (w2 : (Lit.int .i64 div).wf = true) (w3 : (Lit.int .i64 tk).wf = true) (w4 : (Lit.int .i64 hz).wf = true) (s : Int) (w5 : (Lit.int .i64 s).wf = true) (op a b c m : Int) (w6 : (Lit.int .u8 op).wf = true) (w7 : (Lit.int .i64 a).wf = true) (w8 : (Lit.int .i64 b).wf = true) (w9 : (Lit.int .i64 c).wf = true) (w10 : (Lit.int .i64 m).wf = true) (taken : Bool) (w : World) :
    Calls Try.prog 17 #[.agg #[.int .i64 mul, .int .i64 div, .int .i64 tk, .int .i64 hz], .int .i64 s, .agg #[.int .u8 op, .int .i64 a, .int .i64 b, .int .i64 c, .int .i64 m], .bool taken] w fun e w' => e = .returned (.bool true) ∧ Below w.heap.size w w' := by
  obtain ⟨h0, h1⟩ := u8_bounds w6
  cases hv : tval mul div tk hz
  · exact cycles_early mul div tk hz s op a b c m taken hv w
  · obtain ⟨hm, hd, ht, hh⟩ := tval_in hv
    exact cycles_late mul div tk hz s op a b c m taken h0 h1 hv hm hd ht hh _ _ _ rfl rfl rfl w
end Go.Proofs.Ytgjpenhfechhcaa
