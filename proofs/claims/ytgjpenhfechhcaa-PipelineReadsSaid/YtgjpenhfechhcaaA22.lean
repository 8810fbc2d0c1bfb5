/- awake of layer 8 answers true. -/
import Derived.Test.YtgjpenhfechhcaaA21
namespace Go.Proofs.Ytgjpenhfechhcaa
set_option linter.unusedVariables false
set_option linter.unusedSimpArgs false
open Go.RowKit Go.Proofs.YtgjpenhfechhcaaW.PrintWords Go.Proofs.YtgjpenhfechhcaaW.PrintLast Go.Proofs.YtgjpenhfechhcaaW.PrintMore
open PIsaDecodes
def exL : List Ins := [⟨18, 3, 1, 0, 0⟩, ⟨4, 4, 3, 3, 0⟩]
/-- block A holds the example -/
structure AF (A : Nat) (W : World) : Prop where
  lt : A < W.heap.size
  i0 : W.cell? ⟨A, 0, none⟩ = some (.int .u8 18)
  i1 : W.cell? ⟨A, 1, none⟩ = some (.int .i64 3)
  i2 : W.cell? ⟨A, 2, none⟩ = some (.int .i64 1)
  i3 : W.cell? ⟨A, 3, none⟩ = some (.int .i64 0)
  i4 : W.cell? ⟨A, 4, none⟩ = some (.int .i64 0)
  i5 : W.cell? ⟨A, 5, none⟩ = some (.int .u8 4)
  i6 : W.cell? ⟨A, 6, none⟩ = some (.int .i64 4)
  i7 : W.cell? ⟨A, 7, none⟩ = some (.int .i64 3)
  i8 : W.cell? ⟨A, 8, none⟩ = some (.int .i64 3)
  i9 : W.cell? ⟨A, 9, none⟩ = some (.int .i64 0)
theorem AF.step {A : Nat} {W W' : World} (h : AF A W) (hb : Below W.heap.size W W') : AF A W' :=
  ⟨Nat.lt_of_lt_of_le h.lt hb.size, (hb.cell (p := ⟨A, 0, none⟩) h.lt).trans h.i0, (hb.cell (p := ⟨A, 1, none⟩) h.lt).trans h.i1, (hb.cell (p := ⟨A, 2, none⟩) h.lt).trans h.i2, (hb.cell (p := ⟨A, 3, none⟩) h.lt).trans h.i3, (hb.cell (p := ⟨A, 4, none⟩) h.lt).trans h.i4, (hb.cell (p := ⟨A, 5, none⟩) h.lt).trans h.i5, (hb.cell (p := ⟨A, 6, none⟩) h.lt).trans h.i6, (hb.cell (p := ⟨A, 7, none⟩) h.lt).trans h.i7, (hb.cell (p := ⟨A, 8, none⟩) h.lt).trans h.i8, (hb.cell (p := ⟨A, 9, none⟩) h.lt).trans h.i9⟩
theorem AF.alloc {A : Nat} {W : World} (h : AF A W) (o : Obj) : AF A (W.alloc o) := h.step ((Below.refl _ _).alloc (Nat.le_refl _) o)
theorem AF.newAt (W : World) (A : Nat) (hA : A = W.heap.size) : AF A (W.alloc (.cells #[.int .u8 18, .int .i64 3, .int .i64 1, .int .i64 0, .int .i64 0, .int .u8 4, .int .i64 4, .int .i64 3, .int .i64 3, .int .i64 0] 23)) := by
  subst hA
  refine ⟨by simp, ?_, ?_, ?_, ?_, ?_, ?_, ?_, ?_, ?_, ?_⟩ <;> (rw [World.cell?_alloc_at _ _ _ _ rfl]; rfl)
theorem AF.sv {A c : Nat} {W : World} (h : AF A W) : SV (.slice (some ⟨A, 0, none⟩) 2 c) exL W := by
  refine .inr ⟨A, 0, c, rfl, h.lt, fun i hi => ?_, fun i hi => ?_, fun i hi => ?_, fun i hi => ?_, fun i hi => ?_⟩
  all_goals (
    have : i = 0 ∨ i = 1 := by (have : exL.length = 2 := rfl); omega
    rcases this with rfl | rfl)
  · exact h.i0
  · exact h.i5
  · exact h.i1
  · exact h.i6
  · exact h.i2
  · exact h.i7
  · exact h.i3
  · exact h.i8
  · exact h.i4
  · exact h.i9
theorem exL_ok : insOK exL := by
  intro i hi
  have : i = 0 ∨ i = 1 := by (have : exL.length = 2 := rfl); omega
  rcases this with rfl | rfl <;> exact ⟨by decide, by decide⟩
theorem haz_ex : hazB 4 4 3 3 0 3 = true := by
  unfold hazB
  rw [readsV_up' (by decide) (by decide +kernel)]
  decide +kernel
theorem next_ex0 : nextV 18 3 1 0 0 = 3 := by decide +kernel
theorem next_ex1 : nextV 4 4 3 3 0 = 0 := by decide +kernel
theorem cyc_ex0 : cycV 3 0 0 2 18 3 1 0 0 0 false = 1 := by
  unfold cycV; rw [haz_zero _ _ _ _ _ (by decide)]; decide +kernel
theorem cyc_ex1 : cycV 3 0 0 2 4 4 3 3 0 3 false = 6 := by
  unfold cycV; rw [haz_ex]; decide +kernel
theorem seq_ex : seqK 3 0 0 2 0 exL exL.length = (7, 0) := by
  show ((0 + cycV 3 0 0 2 18 3 1 0 0 0 false) + cycV 3 0 0 2 4 4 3 3 0 (nextV 18 3 1 0 0) false, nextV 4 4 3 3 0) = (7, 0)
  rw [next_ex0, next_ex1, cyc_ex0, cyc_ex1]; rfl
set_option maxRecDepth 100000 in
set_option maxHeartbeats 4000000 in
theorem awake8 (w : World) : Calls Try.prog 36 #[] w fun e w' => e = .returned (.bool true) ∧ Below w.heap.size w w' := by
  have h1 := fun v W hv => seq43 3 0 0 2 0 (by decide) (by decide) (by decide) (by decide) exL (by decide) exL_ok v W hv
  rw [seq_ex] at h1
  have H1 := Lib.hid (fun A c W (h : AF A W) => h1 (.slice (some ⟨A, 0, none⟩) 2 c) W h.sv)
  have H2 := Lib.hid (fun W => next_any 18 3 1 0 0 (by decide) (by decide) 3 next_ex0 W)
  have H3 := Lib.hid (fun W => hazard_any 3 4 4 3 3 0 (by decide) (by decide) true haz_ex W)
  have H4 := Lib.hid (fun W => valid8_any 3 0 0 2 true (by decide) W)
  have H5 := Lib.hid (fun W => valid8_any (-1) 0 0 0 false (by decide) W)
  clear h1
  go_enter Try.func36, Try.ntmps36
  go_wp2_with fail
  have XT0 := Lib.hid (TF.newAt (3) (0) (0) (2) (w) (w.heap.size) (by simp))
  have BxT0 := Lib.hid (below_new (Below.refl w.heap.size w) (.cells #[.int .i64 (3), .int .i64 (0), .int .i64 (0), .int .i64 (2)] 49))
  have XT0' := Lib.hid (XT0.out.alloc (.cells #[.int .u8 18, .int .i64 3, .int .i64 1, .int .i64 0, .int .i64 0, .int .u8 4, .int .i64 4, .int .i64 3, .int .i64 3, .int .i64 0] 23))
  have XE0 := Lib.hid (AF.newAt ((w).alloc (.cells #[.int .i64 (3), .int .i64 (0), .int .i64 (0), .int .i64 (2)] 49)) (w.heap.size + 1) (by simp))
  have BE0 := Lib.hid (below_new BxT0.out (.cells #[.int .u8 18, .int .i64 3, .int .i64 1, .int .i64 0, .int .i64 0, .int .u8 4, .int .i64 4, .int .i64 3, .int .i64 3, .int .i64 0] 23))
  refine (H1.out _ _ _ XE0.out).mono ?_
  rintro e w1 ⟨rfl, hb1⟩
  have B1 := Lib.hid (below_next BE0.out hb1)
  have XT1 := Lib.hid (XT0'.out.step hb1)
  have XE1 := Lib.hid (XE0.out.step hb1)
  clear hb1
  have XT1_lt := XT1.out.lt
  have XT1_i0 := XT1.out.i0
  have XT1_i1 := XT1.out.i1
  have XT1_i2 := XT1.out.i2
  have XT1_i3 := XT1.out.i3
  have XE1_lt := XE1.out.lt
  have XE1_i0 := XE1.out.i0
  have XE1_i1 := XE1.out.i1
  have XE1_i2 := XE1.out.i2
  have XE1_i3 := XE1.out.i3
  have XE1_i4 := XE1.out.i4
  have XE1_i5 := XE1.out.i5
  have XE1_i6 := XE1.out.i6
  have XE1_i7 := XE1.out.i7
  have XE1_i8 := XE1.out.i8
  have XE1_i9 := XE1.out.i9
  go_wp2_with fail
  refine (H2.out _).mono ?_
  rintro e w2 ⟨rfl, hb2⟩
  have B2 := Lib.hid (below_next B1.out hb2)
  have XT2 := Lib.hid (XT1.out.step hb2)
  have XE2 := Lib.hid (XE1.out.step hb2)
  clear hb2
  have XT2_lt := XT2.out.lt
  have XT2_i0 := XT2.out.i0
  have XT2_i1 := XT2.out.i1
  have XT2_i2 := XT2.out.i2
  have XT2_i3 := XT2.out.i3
  have XE2_lt := XE2.out.lt
  have XE2_i0 := XE2.out.i0
  have XE2_i1 := XE2.out.i1
  have XE2_i2 := XE2.out.i2
  have XE2_i3 := XE2.out.i3
  have XE2_i4 := XE2.out.i4
  have XE2_i5 := XE2.out.i5
  have XE2_i6 := XE2.out.i6
  have XE2_i7 := XE2.out.i7
  have XE2_i8 := XE2.out.i8
  have XE2_i9 := XE2.out.i9
  go_wp2_with fail
  refine (H3.out _).mono ?_
  rintro e w3 ⟨rfl, hb3⟩
  have B3 := Lib.hid (below_next B2.out hb3)
  have XT3 := Lib.hid (XT2.out.step hb3)
  have XE3 := Lib.hid (XE2.out.step hb3)
  clear hb3
  have XT3_lt := XT3.out.lt
  have XT3_i0 := XT3.out.i0
  have XT3_i1 := XT3.out.i1
  have XT3_i2 := XT3.out.i2
  have XT3_i3 := XT3.out.i3
  have XE3_lt := XE3.out.lt
  have XE3_i0 := XE3.out.i0
  have XE3_i1 := XE3.out.i1
  have XE3_i2 := XE3.out.i2
  have XE3_i3 := XE3.out.i3
  have XE3_i4 := XE3.out.i4
  have XE3_i5 := XE3.out.i5
  have XE3_i6 := XE3.out.i6
  have XE3_i7 := XE3.out.i7
  have XE3_i8 := XE3.out.i8
  have XE3_i9 := XE3.out.i9
  go_wp2_with fail
  refine (H4.out _).mono ?_
  rintro e w4 ⟨rfl, hb4⟩
  have B4 := Lib.hid (below_next B3.out hb4)
  have XT4 := Lib.hid (XT3.out.step hb4)
  have XE4 := Lib.hid (XE3.out.step hb4)
  clear hb4
  have XT4_lt := XT4.out.lt
  have XT4_i0 := XT4.out.i0
  have XT4_i1 := XT4.out.i1
  have XT4_i2 := XT4.out.i2
  have XT4_i3 := XT4.out.i3
  have XE4_lt := XE4.out.lt
  have XE4_i0 := XE4.out.i0
  have XE4_i1 := XE4.out.i1
  have XE4_i2 := XE4.out.i2
  have XE4_i3 := XE4.out.i3
  have XE4_i4 := XE4.out.i4
  have XE4_i5 := XE4.out.i5
  have XE4_i6 := XE4.out.i6
  have XE4_i7 := XE4.out.i7
  have XE4_i8 := XE4.out.i8
  have XE4_i9 := XE4.out.i9
  go_wp2_with fail
  refine (H5.out _).mono ?_
  rintro e w5 ⟨rfl, hb5⟩
  have B5 := Lib.hid (below_next B4.out hb5)
  have XT5 := Lib.hid (XT4.out.step hb5)
  have XE5 := Lib.hid (XE4.out.step hb5)
  clear hb5
  have XT5_lt := XT5.out.lt
  have XT5_i0 := XT5.out.i0
  have XT5_i1 := XT5.out.i1
  have XT5_i2 := XT5.out.i2
  have XT5_i3 := XT5.out.i3
  have XE5_lt := XE5.out.lt
  have XE5_i0 := XE5.out.i0
  have XE5_i1 := XE5.out.i1
  have XE5_i2 := XE5.out.i2
  have XE5_i3 := XE5.out.i3
  have XE5_i4 := XE5.out.i4
  have XE5_i5 := XE5.out.i5
  have XE5_i6 := XE5.out.i6
  have XE5_i7 := XE5.out.i7
  have XE5_i8 := XE5.out.i8
  have XE5_i9 := XE5.out.i9
  go_wp2_with fail
  go_ret
  exact ⟨rfl, B5.out⟩
end Go.Proofs.Ytgjpenhfechhcaa
