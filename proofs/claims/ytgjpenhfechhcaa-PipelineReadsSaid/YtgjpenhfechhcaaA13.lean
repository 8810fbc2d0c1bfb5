/- The contracts of isa.Writes, pipeline.Next and of the references of both. -/
import Derived.Test.YtgjpenhfechhcaaA10
namespace Go.Proofs.Ytgjpenhfechhcaa
set_option linter.unusedVariables false
set_option linter.unusedSimpArgs false
open Go.RowKit Go.Proofs.YtgjpenhfechhcaaW.PrintWords Go.Proofs.YtgjpenhfechhcaaW.PrintLast Go.Proofs.YtgjpenhfechhcaaW.PrintMore
open PIsaDecodes

/-- block B holds the row of an opcode -/
structure RwF (B : Nat) (op : Int) (W : World) : Prop where
  lt : B < W.heap.size
  r0 : W.cell? ⟨B, 0, none⟩ = some (.string (rowOf op).f0)
  r1 : W.cell? ⟨B, 1, none⟩ = some (.string (rowOf op).f1)
  r2 : W.cell? ⟨B, 2, none⟩ = some (.int .i64 (rowOf op).f2)
  r3 : W.cell? ⟨B, 3, none⟩ = some (.int .i64 (rowOf op).f3)
  r4 : W.cell? ⟨B, 4, none⟩ = some (.string (rowOf op).f4)
  r5 : W.cell? ⟨B, 5, none⟩ = some (.string (rowOf op).f5)
theorem RwF.step {B : Nat} {op : Int} {W W' : World} (h : RwF B op W) (hb : Below W.heap.size W W') : RwF B op W' :=
  ⟨Nat.lt_of_lt_of_le h.lt hb.size, (hb.cell (p := ⟨B, 0, none⟩) h.lt).trans h.r0, (hb.cell (p := ⟨B, 1, none⟩) h.lt).trans h.r1, (hb.cell (p := ⟨B, 2, none⟩) h.lt).trans h.r2, (hb.cell (p := ⟨B, 3, none⟩) h.lt).trans h.r3, (hb.cell (p := ⟨B, 4, none⟩) h.lt).trans h.r4, (hb.cell (p := ⟨B, 5, none⟩) h.lt).trans h.r5⟩
theorem RwF.newAt (op : Int) (W : World) (B : Nat) (hB : B = W.heap.size) : RwF B op (W.alloc (.cells #[.string (rowOf op).f0, .string (rowOf op).f1, .int .i64 (rowOf op).f2, .int .i64 (rowOf op).f3, .string (rowOf op).f4, .string (rowOf op).f5] 71)) := by
  subst hB
  refine ⟨by simp, ?_, ?_, ?_, ?_, ?_, ?_⟩ <;> (rw [World.cell?_alloc_at _ _ _ _ rfl]; rfl)
theorem RwF.alloc {B : Nat} {op : Int} {W : World} (h : RwF B op W) (o : Obj) : RwF B op (W.alloc o) := h.step ((Below.refl _ _).alloc (Nat.le_refl _) o)

/-- whether an opcode writes a register -/
def wrB (op : Int) : Bool := !(rowOf op).f5.toList.isEmpty
def wrOK (op a b c m : Int) : Bool := validB op a b c m && (wrB op && !(a == 0))
set_option maxRecDepth 100000 in
set_option maxHeartbeats 2000000 in
theorem writes_bad (op a b c m : Int) (h0 : 0 ≤ op) (h1 : op ≤ 255) (hv : validB op a b c m = false) (w : World) :
    Calls Try.prog 34 #[.agg #[.int .u8 op, .int .i64 a, .int .i64 b, .int .i64 c, .int .i64 m]] w fun e w' => e = .returned (.tuple #[.int .i64 0, .bool false]) ∧ Below w.heap.size w w' := by
  have Hv := Lib.hid (fun W => valid_at op a b c m false hv h0 h1 W)
  clear hv
  have hf := fun W => find_any op h0 h1 W
  have Hf := Lib.hid hf
  clear hf
  go_enter Try.func34, Try.ntmps34
  go_wp2_with fail
  have XI0 := Lib.hid (IF.newAt (op) (a) (b) (c) (m) (w) (w.heap.size) (by simp))
  have BnI := Lib.hid (below_new (Below.refl w.heap.size w) (.cells #[.int .u8 (op), .int .i64 (a), .int .i64 (b), .int .i64 (c), .int .i64 (m)] 23))
  refine (Hf.out _).mono ?_
  rintro e w1 ⟨rfl, hb1⟩
  have B1 := Lib.hid (below_next BnI.out hb1)
  have XI1 := Lib.hid (XI0.out.step hb1)
  clear hb1
  have XI1_lt := XI1.out.lt
  have XI1_i0 := XI1.out.i0
  have XI1_i1 := XI1.out.i1
  have XI1_i2 := XI1.out.i2
  have XI1_i3 := XI1.out.i3
  have XI1_i4 := XI1.out.i4
  have XI1' := Lib.hid (XI1.out.alloc (.cells #[.string (rowOf op).f0, .string (rowOf op).f1, .int .i64 (rowOf op).f2, .int .i64 (rowOf op).f3, .string (rowOf op).f4, .string (rowOf op).f5] 71))
  have XR1 := Lib.hid (RwF.newAt op (w1) (w1.heap.size) (by simp))
  have BxR1 := Lib.hid (below_new B1.out (.cells #[.string (rowOf op).f0, .string (rowOf op).f1, .int .i64 (rowOf op).f2, .int .i64 (rowOf op).f3, .string (rowOf op).f4, .string (rowOf op).f5] 71))
  go_wp2_with fail
  refine (Hv.out _).mono ?_
  rintro e w2 ⟨rfl, hb2⟩
  have B2 := Lib.hid (below_next BxR1.out hb2)
  have XI2 := Lib.hid (XI1'.out.step hb2)
  have XR2 := Lib.hid (XR1.out.step hb2)
  clear hb2
  have XI2_lt := XI2.out.lt
  have XI2_i0 := XI2.out.i0
  have XI2_i1 := XI2.out.i1
  have XI2_i2 := XI2.out.i2
  have XI2_i3 := XI2.out.i3
  have XI2_i4 := XI2.out.i4
  have XR2_lt := XR2.out.lt
  have XR2_r0 := XR2.out.r0
  have XR2_r1 := XR2.out.r1
  have XR2_r2 := XR2.out.r2
  have XR2_r3 := XR2.out.r3
  have XR2_r4 := XR2.out.r4
  have XR2_r5 := XR2.out.r5
  go_wp2_with fail
  go_ret2
  exact ⟨rfl, B2.out⟩
set_option maxRecDepth 100000 in
set_option maxHeartbeats 2000000 in
theorem writes_none (op a b c m : Int) (h0 : 0 ≤ op) (h1 : op ≤ 255) (hv : validB op a b c m = true) (he : (rowOf op).f5.toList.isEmpty = true) (w : World) :
    Calls Try.prog 34 #[.agg #[.int .u8 op, .int .i64 a, .int .i64 b, .int .i64 c, .int .i64 m]] w fun e w' => e = .returned (.tuple #[.int .i64 0, .bool false]) ∧ Below w.heap.size w w' := by
  have Hv := Lib.hid (fun W => valid_at op a b c m true hv h0 h1 W)
  clear hv
  have hf := fun W => find_any op h0 h1 W
  have Hf := Lib.hid hf
  clear hf
  go_enter Try.func34, Try.ntmps34
  go_wp2_with fail
  have XI0 := Lib.hid (IF.newAt (op) (a) (b) (c) (m) (w) (w.heap.size) (by simp))
  have BnI := Lib.hid (below_new (Below.refl w.heap.size w) (.cells #[.int .u8 (op), .int .i64 (a), .int .i64 (b), .int .i64 (c), .int .i64 (m)] 23))
  refine (Hf.out _).mono ?_
  rintro e w1 ⟨rfl, hb1⟩
  have B1 := Lib.hid (below_next BnI.out hb1)
  have XI1 := Lib.hid (XI0.out.step hb1)
  clear hb1
  have XI1_lt := XI1.out.lt
  have XI1_i0 := XI1.out.i0
  have XI1_i1 := XI1.out.i1
  have XI1_i2 := XI1.out.i2
  have XI1_i3 := XI1.out.i3
  have XI1_i4 := XI1.out.i4
  have XI1' := Lib.hid (XI1.out.alloc (.cells #[.string (rowOf op).f0, .string (rowOf op).f1, .int .i64 (rowOf op).f2, .int .i64 (rowOf op).f3, .string (rowOf op).f4, .string (rowOf op).f5] 71))
  have XR1 := Lib.hid (RwF.newAt op (w1) (w1.heap.size) (by simp))
  have BxR1 := Lib.hid (below_new B1.out (.cells #[.string (rowOf op).f0, .string (rowOf op).f1, .int .i64 (rowOf op).f2, .int .i64 (rowOf op).f3, .string (rowOf op).f4, .string (rowOf op).f5] 71))
  go_wp2_with fail
  refine (Hv.out _).mono ?_
  rintro e w2 ⟨rfl, hb2⟩
  have B2 := Lib.hid (below_next BxR1.out hb2)
  have XI2 := Lib.hid (XI1'.out.step hb2)
  have XR2 := Lib.hid (XR1.out.step hb2)
  clear hb2
  have XI2_lt := XI2.out.lt
  have XI2_i0 := XI2.out.i0
  have XI2_i1 := XI2.out.i1
  have XI2_i2 := XI2.out.i2
  have XI2_i3 := XI2.out.i3
  have XI2_i4 := XI2.out.i4
  have XR2_lt := XR2.out.lt
  have XR2_r0 := XR2.out.r0
  have XR2_r1 := XR2.out.r1
  have XR2_r2 := XR2.out.r2
  have XR2_r3 := XR2.out.r3
  have XR2_r4 := XR2.out.r4
  have XR2_r5 := XR2.out.r5
  go_wp2_with fail
  go_ret2
  exact ⟨rfl, B2.out⟩
set_option maxRecDepth 100000 in
set_option maxHeartbeats 2000000 in
theorem writes_zero (op a b c m : Int) (h0 : 0 ≤ op) (h1 : op ≤ 255) (hv : validB op a b c m = true) (he : (rowOf op).f5.toList.isEmpty = false) (ha : a = 0) (w : World) :
    Calls Try.prog 34 #[.agg #[.int .u8 op, .int .i64 a, .int .i64 b, .int .i64 c, .int .i64 m]] w fun e w' => e = .returned (.tuple #[.int .i64 0, .bool false]) ∧ Below w.heap.size w w' := by
  have Hv := Lib.hid (fun W => valid_at op a b c m true hv h0 h1 W)
  have hz : (a == 0) = true := by simpa using ha
  clear hv ha
  have hf := fun W => find_any op h0 h1 W
  have Hf := Lib.hid hf
  clear hf
  go_enter Try.func34, Try.ntmps34
  go_wp2_with fail
  have XI0 := Lib.hid (IF.newAt (op) (a) (b) (c) (m) (w) (w.heap.size) (by simp))
  have BnI := Lib.hid (below_new (Below.refl w.heap.size w) (.cells #[.int .u8 (op), .int .i64 (a), .int .i64 (b), .int .i64 (c), .int .i64 (m)] 23))
  refine (Hf.out _).mono ?_
  rintro e w1 ⟨rfl, hb1⟩
  have B1 := Lib.hid (below_next BnI.out hb1)
  have XI1 := Lib.hid (XI0.out.step hb1)
  clear hb1
  have XI1_lt := XI1.out.lt
  have XI1_i0 := XI1.out.i0
  have XI1_i1 := XI1.out.i1
  have XI1_i2 := XI1.out.i2
  have XI1_i3 := XI1.out.i3
  have XI1_i4 := XI1.out.i4
  have XI1' := Lib.hid (XI1.out.alloc (.cells #[.string (rowOf op).f0, .string (rowOf op).f1, .int .i64 (rowOf op).f2, .int .i64 (rowOf op).f3, .string (rowOf op).f4, .string (rowOf op).f5] 71))
  have XR1 := Lib.hid (RwF.newAt op (w1) (w1.heap.size) (by simp))
  have BxR1 := Lib.hid (below_new B1.out (.cells #[.string (rowOf op).f0, .string (rowOf op).f1, .int .i64 (rowOf op).f2, .int .i64 (rowOf op).f3, .string (rowOf op).f4, .string (rowOf op).f5] 71))
  go_wp2_with fail
  refine (Hv.out _).mono ?_
  rintro e w2 ⟨rfl, hb2⟩
  have B2 := Lib.hid (below_next BxR1.out hb2)
  have XI2 := Lib.hid (XI1'.out.step hb2)
  have XR2 := Lib.hid (XR1.out.step hb2)
  clear hb2
  have XI2_lt := XI2.out.lt
  have XI2_i0 := XI2.out.i0
  have XI2_i1 := XI2.out.i1
  have XI2_i2 := XI2.out.i2
  have XI2_i3 := XI2.out.i3
  have XI2_i4 := XI2.out.i4
  have XR2_lt := XR2.out.lt
  have XR2_r0 := XR2.out.r0
  have XR2_r1 := XR2.out.r1
  have XR2_r2 := XR2.out.r2
  have XR2_r3 := XR2.out.r3
  have XR2_r4 := XR2.out.r4
  have XR2_r5 := XR2.out.r5
  go_wp2_with fail
  go_ret2
  exact ⟨rfl, B2.out⟩
set_option maxRecDepth 100000 in
set_option maxHeartbeats 2000000 in
theorem writes_reg (op a b c m : Int) (h0 : 0 ≤ op) (h1 : op ≤ 255) (hv : validB op a b c m = true) (he : (rowOf op).f5.toList.isEmpty = false) (ha : ¬ a = 0) (w : World) :
    Calls Try.prog 34 #[.agg #[.int .u8 op, .int .i64 a, .int .i64 b, .int .i64 c, .int .i64 m]] w fun e w' => e = .returned (.tuple #[.int .i64 a, .bool true]) ∧ Below w.heap.size w w' := by
  have Hv := Lib.hid (fun W => valid_at op a b c m true hv h0 h1 W)
  have hz : (a == 0) = false := by simpa using ha
  clear hv ha
  have hf := fun W => find_any op h0 h1 W
  have Hf := Lib.hid hf
  clear hf
  go_enter Try.func34, Try.ntmps34
  go_wp2_with fail
  have XI0 := Lib.hid (IF.newAt (op) (a) (b) (c) (m) (w) (w.heap.size) (by simp))
  have BnI := Lib.hid (below_new (Below.refl w.heap.size w) (.cells #[.int .u8 (op), .int .i64 (a), .int .i64 (b), .int .i64 (c), .int .i64 (m)] 23))
  refine (Hf.out _).mono ?_
  rintro e w1 ⟨rfl, hb1⟩
  have B1 := Lib.hid (below_next BnI.out hb1)
  have XI1 := Lib.hid (XI0.out.step hb1)
  clear hb1
  have XI1_lt := XI1.out.lt
  have XI1_i0 := XI1.out.i0
  have XI1_i1 := XI1.out.i1
  have XI1_i2 := XI1.out.i2
  have XI1_i3 := XI1.out.i3
  have XI1_i4 := XI1.out.i4
  have XI1' := Lib.hid (XI1.out.alloc (.cells #[.string (rowOf op).f0, .string (rowOf op).f1, .int .i64 (rowOf op).f2, .int .i64 (rowOf op).f3, .string (rowOf op).f4, .string (rowOf op).f5] 71))
  have XR1 := Lib.hid (RwF.newAt op (w1) (w1.heap.size) (by simp))
  have BxR1 := Lib.hid (below_new B1.out (.cells #[.string (rowOf op).f0, .string (rowOf op).f1, .int .i64 (rowOf op).f2, .int .i64 (rowOf op).f3, .string (rowOf op).f4, .string (rowOf op).f5] 71))
  go_wp2_with fail
  refine (Hv.out _).mono ?_
  rintro e w2 ⟨rfl, hb2⟩
  have B2 := Lib.hid (below_next BxR1.out hb2)
  have XI2 := Lib.hid (XI1'.out.step hb2)
  have XR2 := Lib.hid (XR1.out.step hb2)
  clear hb2
  have XI2_lt := XI2.out.lt
  have XI2_i0 := XI2.out.i0
  have XI2_i1 := XI2.out.i1
  have XI2_i2 := XI2.out.i2
  have XI2_i3 := XI2.out.i3
  have XI2_i4 := XI2.out.i4
  have XR2_lt := XR2.out.lt
  have XR2_r0 := XR2.out.r0
  have XR2_r1 := XR2.out.r1
  have XR2_r2 := XR2.out.r2
  have XR2_r3 := XR2.out.r3
  have XR2_r4 := XR2.out.r4
  have XR2_r5 := XR2.out.r5
  go_wp2_with fail
  go_ret2
  exact ⟨rfl, B2.out⟩
/-- the register that isa.Writes gives, or 0 -/
def wrV (op a b c m : Int) : Int := if wrOK op a b c m = true then a else 0
theorem writes_any (op a b c m : Int) (h0 : 0 ≤ op) (h1 : op ≤ 255) (r : Int) (ok : Bool) (hr : wrV op a b c m = r) (hok : wrOK op a b c m = ok) (w : World) :
    Calls Try.prog 34 #[.agg #[.int .u8 op, .int .i64 a, .int .i64 b, .int .i64 c, .int .i64 m]] w fun e w' => e = .returned (.tuple #[.int .i64 r, .bool ok]) ∧ Below w.heap.size w w' := by
  subst hr hok
  unfold wrV wrOK wrB
  cases hv : validB op a b c m
  · exact writes_bad op a b c m h0 h1 hv w
  · cases he : (rowOf op).f5.toList.isEmpty
    · by_cases ha : a = 0
      · subst ha; exact writes_zero op 0 b c m h0 h1 hv he rfl w
      · have hz : (a == 0) = false := by simpa using ha
        rw [hz]; exact writes_reg op a b c m h0 h1 hv he ha w
    · exact writes_none op a b c m h0 h1 hv he w
theorem wrB_fin : ∀ n : Fin 30, wrB (n.1 : Int) = (decide (2 ≤ (n.1 : Int)) && decide ((n.1 : Int) ≤ 18) || ((n.1 : Int) == 20 || (n.1 : Int) == 26)) := by decide +kernel
theorem wrB_eq (op : Int) (h0 : 0 ≤ op) (h1 : op < 30) : wrB op = (decide (2 ≤ op) && decide (op ≤ 18) || (op == 20 || op == 26)) := by
  obtain ⟨n, rfl⟩ := Int.eq_ofNat_of_zero_le h0
  exact wrB_fin ⟨n, by omega⟩
set_option maxRecDepth 100000 in
set_option maxHeartbeats 2000000 in
theorem ref_writes_bad (op a b c m : Int) (h0 : 0 ≤ op) (h1 : op ≤ 255) (hv : validB op a b c m = false) (w : World) :
    Calls Try.prog 35 #[.agg #[.int .u8 op, .int .i64 a, .int .i64 b, .int .i64 c, .int .i64 m]] w fun e w' => e = .returned (.int .i64 0) ∧ Below w.heap.size w w' := by
  have hr := fun W => ref_valid_any op a b c m h0 h1 W
  rw [hv] at hr
  have Hr := Lib.hid hr
  clear hr hv
  go_enter Try.func35, Try.ntmps35
  go_wp2_with fail
  have XI0 := Lib.hid (IF.newAt (op) (a) (b) (c) (m) (w) (w.heap.size) (by simp))
  have BnI := Lib.hid (below_new (Below.refl w.heap.size w) (.cells #[.int .u8 (op), .int .i64 (a), .int .i64 (b), .int .i64 (c), .int .i64 (m)] 23))
  refine (Hr.out _).mono ?_
  rintro e w1 ⟨rfl, hb1⟩
  have B1 := Lib.hid (below_next BnI.out hb1)
  have XI1 := Lib.hid (XI0.out.step hb1)
  clear hb1
  have XI1_lt := XI1.out.lt
  have XI1_i0 := XI1.out.i0
  have XI1_i1 := XI1.out.i1
  have XI1_i2 := XI1.out.i2
  have XI1_i3 := XI1.out.i3
  have XI1_i4 := XI1.out.i4
  go_wp2_with fail
  go_ret
  exact ⟨rfl, B1.out⟩
set_option maxRecDepth 100000 in
set_option maxHeartbeats 2000000 in
theorem ref_writes_in (op a b c m : Int) (h0 : 0 ≤ op) (h1 : op ≤ 255) (hv : validB op a b c m = true) (hc : 2 ≤ op ∧ op ≤ 18) (w : World) :
    Calls Try.prog 35 #[.agg #[.int .u8 op, .int .i64 a, .int .i64 b, .int .i64 c, .int .i64 m]] w fun e w' => e = .returned (.int .i64 a) ∧ Below w.heap.size w w' := by
  have hr := fun W => ref_valid_any op a b c m h0 h1 W
  rw [hv] at hr
  have Hr := Lib.hid hr
  have q2 : decide (2 ≤ op) = true := decide_eq_true hc.1
  have q18 : decide (op ≤ 18) = true := decide_eq_true hc.2
  clear hr hv hc
  go_enter Try.func35, Try.ntmps35
  go_wp2_with fail
  have XI0 := Lib.hid (IF.newAt (op) (a) (b) (c) (m) (w) (w.heap.size) (by simp))
  have BnI := Lib.hid (below_new (Below.refl w.heap.size w) (.cells #[.int .u8 (op), .int .i64 (a), .int .i64 (b), .int .i64 (c), .int .i64 (m)] 23))
  refine (Hr.out _).mono ?_
  rintro e w1 ⟨rfl, hb1⟩
  have B1 := Lib.hid (below_next BnI.out hb1)
  have XI1 := Lib.hid (XI0.out.step hb1)
  clear hb1
  have XI1_lt := XI1.out.lt
  have XI1_i0 := XI1.out.i0
  have XI1_i1 := XI1.out.i1
  have XI1_i2 := XI1.out.i2
  have XI1_i3 := XI1.out.i3
  have XI1_i4 := XI1.out.i4
  go_wp2_with fail
  go_ret
  exact ⟨rfl, B1.out⟩
set_option maxRecDepth 100000 in
set_option maxHeartbeats 2000000 in
theorem ref_writes_c20 (op a b c m : Int) (h0 : 0 ≤ op) (h1 : op ≤ 255) (hv : validB op a b c m = true) (hc : op = 20) (w : World) :
    Calls Try.prog 35 #[.agg #[.int .u8 op, .int .i64 a, .int .i64 b, .int .i64 c, .int .i64 m]] w fun e w' => e = .returned (.int .i64 a) ∧ Below w.heap.size w w' := by
  have hr := fun W => ref_valid_any op a b c m h0 h1 W
  rw [hv] at hr
  have Hr := Lib.hid hr
  have q2 : decide (2 ≤ op) = true := decide_eq_true (by omega)
  have q18 : decide (op ≤ 18) = false := decide_eq_false (by omega)
  have q20 : (op == 20) = true := by subst hc; decide
  have q26 : (op == 26) = false := by subst hc; decide
  clear hr hv hc
  go_enter Try.func35, Try.ntmps35
  go_wp2_with fail
  have XI0 := Lib.hid (IF.newAt (op) (a) (b) (c) (m) (w) (w.heap.size) (by simp))
  have BnI := Lib.hid (below_new (Below.refl w.heap.size w) (.cells #[.int .u8 (op), .int .i64 (a), .int .i64 (b), .int .i64 (c), .int .i64 (m)] 23))
  refine (Hr.out _).mono ?_
  rintro e w1 ⟨rfl, hb1⟩
  have B1 := Lib.hid (below_next BnI.out hb1)
  have XI1 := Lib.hid (XI0.out.step hb1)
  clear hb1
  have XI1_lt := XI1.out.lt
  have XI1_i0 := XI1.out.i0
  have XI1_i1 := XI1.out.i1
  have XI1_i2 := XI1.out.i2
  have XI1_i3 := XI1.out.i3
  have XI1_i4 := XI1.out.i4
  go_wp2_with fail
  go_ret
  exact ⟨rfl, B1.out⟩
set_option maxRecDepth 100000 in
set_option maxHeartbeats 2000000 in
theorem ref_writes_c26 (op a b c m : Int) (h0 : 0 ≤ op) (h1 : op ≤ 255) (hv : validB op a b c m = true) (hc : op = 26) (w : World) :
    Calls Try.prog 35 #[.agg #[.int .u8 op, .int .i64 a, .int .i64 b, .int .i64 c, .int .i64 m]] w fun e w' => e = .returned (.int .i64 a) ∧ Below w.heap.size w w' := by
  have hr := fun W => ref_valid_any op a b c m h0 h1 W
  rw [hv] at hr
  have Hr := Lib.hid hr
  have q2 : decide (2 ≤ op) = true := decide_eq_true (by omega)
  have q18 : decide (op ≤ 18) = false := decide_eq_false (by omega)
  have q20 : (op == 20) = false := by subst hc; decide
  have q26 : (op == 26) = true := by subst hc; decide
  clear hr hv hc
  go_enter Try.func35, Try.ntmps35
  go_wp2_with fail
  have XI0 := Lib.hid (IF.newAt (op) (a) (b) (c) (m) (w) (w.heap.size) (by simp))
  have BnI := Lib.hid (below_new (Below.refl w.heap.size w) (.cells #[.int .u8 (op), .int .i64 (a), .int .i64 (b), .int .i64 (c), .int .i64 (m)] 23))
  refine (Hr.out _).mono ?_
  rintro e w1 ⟨rfl, hb1⟩
  have B1 := Lib.hid (below_next BnI.out hb1)
  have XI1 := Lib.hid (XI0.out.step hb1)
  clear hb1
  have XI1_lt := XI1.out.lt
  have XI1_i0 := XI1.out.i0
  have XI1_i1 := XI1.out.i1
  have XI1_i2 := XI1.out.i2
  have XI1_i3 := XI1.out.i3
  have XI1_i4 := XI1.out.i4
  go_wp2_with fail
  go_ret
  exact ⟨rfl, B1.out⟩
set_option maxRecDepth 100000 in
set_option maxHeartbeats 2000000 in
theorem ref_writes_out (op a b c m : Int) (h0 : 0 ≤ op) (h1 : op ≤ 255) (hv : validB op a b c m = true) (hc : (op < 2 ∨ 18 < op) ∧ op ≠ 20 ∧ op ≠ 26) (w : World) :
    Calls Try.prog 35 #[.agg #[.int .u8 op, .int .i64 a, .int .i64 b, .int .i64 c, .int .i64 m]] w fun e w' => e = .returned (.int .i64 0) ∧ Below w.heap.size w w' := by
  have hr := fun W => ref_valid_any op a b c m h0 h1 W
  rw [hv] at hr
  have Hr := Lib.hid hr
  have q20 : (op == 20) = false := by simpa using hc.2.1
  have q26 : (op == 26) = false := by simpa using hc.2.2
  by_cases h2 : op < 2
  · have q2 : decide (2 ≤ op) = false := decide_eq_false (by omega)
    clear hr hv hc h2
    go_enter Try.func35, Try.ntmps35
    go_wp2_with fail
    have XI0 := Lib.hid (IF.newAt (op) (a) (b) (c) (m) (w) (w.heap.size) (by simp))
    have BnI := Lib.hid (below_new (Below.refl w.heap.size w) (.cells #[.int .u8 (op), .int .i64 (a), .int .i64 (b), .int .i64 (c), .int .i64 (m)] 23))
    refine (Hr.out _).mono ?_
    rintro e w1 ⟨rfl, hb1⟩
    have B1 := Lib.hid (below_next BnI.out hb1)
    have XI1 := Lib.hid (XI0.out.step hb1)
    clear hb1
    have XI1_lt := XI1.out.lt
    have XI1_i0 := XI1.out.i0
    have XI1_i1 := XI1.out.i1
    have XI1_i2 := XI1.out.i2
    have XI1_i3 := XI1.out.i3
    have XI1_i4 := XI1.out.i4
    go_wp2_with fail
    go_ret
    exact ⟨rfl, B1.out⟩
  · have q2 : decide (2 ≤ op) = true := decide_eq_true (by omega)
    have q18 : decide (op ≤ 18) = false := decide_eq_false (by omega)
    clear hr hv hc h2
    go_enter Try.func35, Try.ntmps35
    go_wp2_with fail
    have XI0 := Lib.hid (IF.newAt (op) (a) (b) (c) (m) (w) (w.heap.size) (by simp))
    have BnI := Lib.hid (below_new (Below.refl w.heap.size w) (.cells #[.int .u8 (op), .int .i64 (a), .int .i64 (b), .int .i64 (c), .int .i64 (m)] 23))
    refine (Hr.out _).mono ?_
    rintro e w1 ⟨rfl, hb1⟩
    have B1 := Lib.hid (below_next BnI.out hb1)
    have XI1 := Lib.hid (XI0.out.step hb1)
    clear hb1
    have XI1_lt := XI1.out.lt
    have XI1_i0 := XI1.out.i0
    have XI1_i1 := XI1.out.i1
    have XI1_i2 := XI1.out.i2
    have XI1_i3 := XI1.out.i3
    have XI1_i4 := XI1.out.i4
    go_wp2_with fail
    go_ret
    exact ⟨rfl, B1.out⟩
theorem ref_writes_any (op a b c m : Int) (h0 : 0 ≤ op) (h1 : op ≤ 255) (r : Int) (hr : wrV op a b c m = r) (w : World) :
    Calls Try.prog 35 #[.agg #[.int .u8 op, .int .i64 a, .int .i64 b, .int .i64 c, .int .i64 m]] w fun e w' => e = .returned (.int .i64 r) ∧ Below w.heap.size w w' := by
  subst hr
  cases hv : validB op a b c m
  · have e : wrV op a b c m = 0 := by unfold wrV wrOK; rw [hv]; rfl
    rw [e]; exact ref_writes_bad op a b c m h0 h1 hv w
  · have hop := (okay h0 hv).1.op.2
    have hw := wrB_eq op h0 hop
    have ha : wrB op = true → wrV op a b c m = a := fun h => by
      unfold wrV wrOK; rw [hv, h]
      by_cases e : a = 0
      · subst e; rfl
      · have hz : (a == 0) = false := by simpa using e
        rw [hz]; rfl
    by_cases c1 : 2 ≤ op ∧ op ≤ 18
    · rw [ha (by rw [hw, decide_eq_true c1.1, decide_eq_true c1.2]; rfl)]; exact ref_writes_in op a b c m h0 h1 hv c1 w
    by_cases c2 : op = 20
    · rw [ha (by rw [hw, c2]; decide)]; exact ref_writes_c20 op a b c m h0 h1 hv c2 w
    by_cases c3 : op = 26
    · rw [ha (by rw [hw, c3]; decide)]; exact ref_writes_c26 op a b c m h0 h1 hv c3 w
    have e : wrV op a b c m = 0 := by
      unfold wrV wrOK
      have hb : wrB op = false := by rw [hw]; simp [c2, c3]; omega
      rw [hb]; simp
    rw [e]; exact ref_writes_out op a b c m h0 h1 hv ⟨by omega, c2, c3⟩ w
/-- whether an opcode loads -/
def ldB (op : Int) : Bool := op == 18 || (op == 20 || op == 26)
/-- the pipeline state after an instruction -/
def nextV (op a b c m : Int) : Int := if ldB op = true then wrV op a b c m else 0
set_option maxRecDepth 100000 in
set_option maxHeartbeats 2000000 in
theorem next_18 (op a b c m : Int) (h0 : 0 ≤ op) (h1 : op ≤ 255) (hc : op = 18) (w : World) :
    Calls Try.prog 39 #[.agg #[.int .u8 op, .int .i64 a, .int .i64 b, .int .i64 c, .int .i64 m]] w fun e w' => e = .returned (.int .i64 (wrV op a b c m)) ∧ Below w.heap.size w w' := by
  obtain ⟨r, hr⟩ : ∃ r, wrV op a b c m = r := ⟨_, rfl⟩
  obtain ⟨ok, hok⟩ : ∃ r, wrOK op a b c m = r := ⟨_, rfl⟩
  have Hw := Lib.hid (fun W => writes_any op a b c m h0 h1 r ok hr hok W)
  have Hr := Lib.hid hr
  have q18 : (op == 18) = true := by subst hc; decide
  have n18 : (op != 18) = false := by subst hc; decide
  have q20 : (op == 20) = false := by subst hc; decide
  have n20 : (op != 20) = true := by subst hc; decide
  have q26 : (op == 26) = false := by subst hc; decide
  have n26 : (op != 26) = true := by subst hc; decide
  rw [hr]
  clear hc hok hr h0 h1
  go_enter Try.func39, Try.ntmps39
  go_wp2_with fail
  have XI0 := Lib.hid (IF.newAt (op) (a) (b) (c) (m) (w) (w.heap.size) (by simp))
  have BnI := Lib.hid (below_new (Below.refl w.heap.size w) (.cells #[.int .u8 (op), .int .i64 (a), .int .i64 (b), .int .i64 (c), .int .i64 (m)] 23))
  refine (Hw.out _).mono ?_
  rintro e w1 ⟨rfl, hb1⟩
  have B1 := Lib.hid (below_next BnI.out hb1)
  have XI1 := Lib.hid (XI0.out.step hb1)
  clear hb1
  have XI1_lt := XI1.out.lt
  have XI1_i0 := XI1.out.i0
  have XI1_i1 := XI1.out.i1
  have XI1_i2 := XI1.out.i2
  have XI1_i3 := XI1.out.i3
  have XI1_i4 := XI1.out.i4
  go_wp2_with fail
  go_ret
  exact ⟨rfl, B1.out⟩
set_option maxRecDepth 100000 in
set_option maxHeartbeats 2000000 in
theorem next_20 (op a b c m : Int) (h0 : 0 ≤ op) (h1 : op ≤ 255) (hc : op = 20) (w : World) :
    Calls Try.prog 39 #[.agg #[.int .u8 op, .int .i64 a, .int .i64 b, .int .i64 c, .int .i64 m]] w fun e w' => e = .returned (.int .i64 (wrV op a b c m)) ∧ Below w.heap.size w w' := by
  obtain ⟨r, hr⟩ : ∃ r, wrV op a b c m = r := ⟨_, rfl⟩
  obtain ⟨ok, hok⟩ : ∃ r, wrOK op a b c m = r := ⟨_, rfl⟩
  have Hw := Lib.hid (fun W => writes_any op a b c m h0 h1 r ok hr hok W)
  have Hr := Lib.hid hr
  have q18 : (op == 18) = false := by subst hc; decide
  have n18 : (op != 18) = true := by subst hc; decide
  have q20 : (op == 20) = true := by subst hc; decide
  have n20 : (op != 20) = false := by subst hc; decide
  have q26 : (op == 26) = false := by subst hc; decide
  have n26 : (op != 26) = true := by subst hc; decide
  rw [hr]
  clear hc hok hr h0 h1
  go_enter Try.func39, Try.ntmps39
  go_wp2_with fail
  have XI0 := Lib.hid (IF.newAt (op) (a) (b) (c) (m) (w) (w.heap.size) (by simp))
  have BnI := Lib.hid (below_new (Below.refl w.heap.size w) (.cells #[.int .u8 (op), .int .i64 (a), .int .i64 (b), .int .i64 (c), .int .i64 (m)] 23))
  refine (Hw.out _).mono ?_
  rintro e w1 ⟨rfl, hb1⟩
  have B1 := Lib.hid (below_next BnI.out hb1)
  have XI1 := Lib.hid (XI0.out.step hb1)
  clear hb1
  have XI1_lt := XI1.out.lt
  have XI1_i0 := XI1.out.i0
  have XI1_i1 := XI1.out.i1
  have XI1_i2 := XI1.out.i2
  have XI1_i3 := XI1.out.i3
  have XI1_i4 := XI1.out.i4
  go_wp2_with fail
  go_ret
  exact ⟨rfl, B1.out⟩
set_option maxRecDepth 100000 in
set_option maxHeartbeats 2000000 in
theorem next_26 (op a b c m : Int) (h0 : 0 ≤ op) (h1 : op ≤ 255) (hc : op = 26) (w : World) :
    Calls Try.prog 39 #[.agg #[.int .u8 op, .int .i64 a, .int .i64 b, .int .i64 c, .int .i64 m]] w fun e w' => e = .returned (.int .i64 (wrV op a b c m)) ∧ Below w.heap.size w w' := by
  obtain ⟨r, hr⟩ : ∃ r, wrV op a b c m = r := ⟨_, rfl⟩
  obtain ⟨ok, hok⟩ : ∃ r, wrOK op a b c m = r := ⟨_, rfl⟩
  have Hw := Lib.hid (fun W => writes_any op a b c m h0 h1 r ok hr hok W)
  have Hr := Lib.hid hr
  have q18 : (op == 18) = false := by subst hc; decide
  have n18 : (op != 18) = true := by subst hc; decide
  have q20 : (op == 20) = false := by subst hc; decide
  have n20 : (op != 20) = true := by subst hc; decide
  have q26 : (op == 26) = true := by subst hc; decide
  have n26 : (op != 26) = false := by subst hc; decide
  rw [hr]
  clear hc hok hr h0 h1
  go_enter Try.func39, Try.ntmps39
  go_wp2_with fail
  have XI0 := Lib.hid (IF.newAt (op) (a) (b) (c) (m) (w) (w.heap.size) (by simp))
  have BnI := Lib.hid (below_new (Below.refl w.heap.size w) (.cells #[.int .u8 (op), .int .i64 (a), .int .i64 (b), .int .i64 (c), .int .i64 (m)] 23))
  refine (Hw.out _).mono ?_
  rintro e w1 ⟨rfl, hb1⟩
  have B1 := Lib.hid (below_next BnI.out hb1)
  have XI1 := Lib.hid (XI0.out.step hb1)
  clear hb1
  have XI1_lt := XI1.out.lt
  have XI1_i0 := XI1.out.i0
  have XI1_i1 := XI1.out.i1
  have XI1_i2 := XI1.out.i2
  have XI1_i3 := XI1.out.i3
  have XI1_i4 := XI1.out.i4
  go_wp2_with fail
  go_ret
  exact ⟨rfl, B1.out⟩
set_option maxRecDepth 100000 in
set_option maxHeartbeats 2000000 in
theorem next_no (op a b c m : Int) (h0 : 0 ≤ op) (h1 : op ≤ 255) (hc : op ≠ 18 ∧ op ≠ 20 ∧ op ≠ 26) (w : World) :
    Calls Try.prog 39 #[.agg #[.int .u8 op, .int .i64 a, .int .i64 b, .int .i64 c, .int .i64 m]] w fun e w' => e = .returned (.int .i64 0) ∧ Below w.heap.size w w' := by
  have q18 : (op == 18) = false := by simpa using hc.1
  have n18 : (op != 18) = true := by simpa using hc.1
  have q20 : (op == 20) = false := by simpa using hc.2.1
  have n20 : (op != 20) = true := by simpa using hc.2.1
  have q26 : (op == 26) = false := by simpa using hc.2.2
  have n26 : (op != 26) = true := by simpa using hc.2.2
  clear hc h0 h1
  go_enter Try.func39, Try.ntmps39
  go_wp2_with fail
  go_ret
  exact ⟨rfl, below_new (Below.refl _ _) _⟩
theorem next_any (op a b c m : Int) (h0 : 0 ≤ op) (h1 : op ≤ 255) (r : Int) (hr : nextV op a b c m = r) (w : World) :
    Calls Try.prog 39 #[.agg #[.int .u8 op, .int .i64 a, .int .i64 b, .int .i64 c, .int .i64 m]] w fun e w' => e = .returned (.int .i64 r) ∧ Below w.heap.size w w' := by
  subst hr
  unfold nextV ldB
  by_cases c1 : op = 18
  · subst c1; exact next_18 18 a b c m h0 h1 rfl w
  by_cases c2 : op = 20
  · subst c2; exact next_20 20 a b c m h0 h1 rfl w
  by_cases c3 : op = 26
  · subst c3; exact next_26 26 a b c m h0 h1 rfl w
  have e : (op == 18 || (op == 20 || op == 26)) = false := by simp [c1, c2, c3]
  rw [e]; exact next_no op a b c m h0 h1 ⟨c1, c2, c3⟩ w
set_option maxRecDepth 100000 in
set_option maxHeartbeats 2000000 in
theorem ref_next_18 (op a b c m : Int) (h0 : 0 ≤ op) (h1 : op ≤ 255) (hc : op = 18) (w : World) :
    Calls Try.prog 40 #[.agg #[.int .u8 op, .int .i64 a, .int .i64 b, .int .i64 c, .int .i64 m]] w fun e w' => e = .returned (.int .i64 (wrV op a b c m)) ∧ Below w.heap.size w w' := by
  obtain ⟨r, hr⟩ : ∃ r, wrV op a b c m = r := ⟨_, rfl⟩
  obtain ⟨ok, hok⟩ : ∃ r, wrOK op a b c m = r := ⟨_, rfl⟩
  have Hw := Lib.hid (fun W => ref_writes_any op a b c m h0 h1 r hr W)
  have Hr := Lib.hid hr
  have q18 : (op == 18) = true := by subst hc; decide
  have n18 : (op != 18) = false := by subst hc; decide
  have q20 : (op == 20) = false := by subst hc; decide
  have n20 : (op != 20) = true := by subst hc; decide
  have q26 : (op == 26) = false := by subst hc; decide
  have n26 : (op != 26) = true := by subst hc; decide
  rw [hr]
  clear hc hok hr h0 h1
  go_enter Try.func40, Try.ntmps40
  go_wp2_with fail
  have XI0 := Lib.hid (IF.newAt (op) (a) (b) (c) (m) (w) (w.heap.size) (by simp))
  have BnI := Lib.hid (below_new (Below.refl w.heap.size w) (.cells #[.int .u8 (op), .int .i64 (a), .int .i64 (b), .int .i64 (c), .int .i64 (m)] 23))
  refine (Hw.out _).mono ?_
  rintro e w1 ⟨rfl, hb1⟩
  have B1 := Lib.hid (below_next BnI.out hb1)
  have XI1 := Lib.hid (XI0.out.step hb1)
  clear hb1
  have XI1_lt := XI1.out.lt
  have XI1_i0 := XI1.out.i0
  have XI1_i1 := XI1.out.i1
  have XI1_i2 := XI1.out.i2
  have XI1_i3 := XI1.out.i3
  have XI1_i4 := XI1.out.i4
  go_wp2_with fail
  go_ret
  exact ⟨rfl, B1.out⟩
set_option maxRecDepth 100000 in
set_option maxHeartbeats 2000000 in
theorem ref_next_20 (op a b c m : Int) (h0 : 0 ≤ op) (h1 : op ≤ 255) (hc : op = 20) (w : World) :
    Calls Try.prog 40 #[.agg #[.int .u8 op, .int .i64 a, .int .i64 b, .int .i64 c, .int .i64 m]] w fun e w' => e = .returned (.int .i64 (wrV op a b c m)) ∧ Below w.heap.size w w' := by
  obtain ⟨r, hr⟩ : ∃ r, wrV op a b c m = r := ⟨_, rfl⟩
  obtain ⟨ok, hok⟩ : ∃ r, wrOK op a b c m = r := ⟨_, rfl⟩
  have Hw := Lib.hid (fun W => ref_writes_any op a b c m h0 h1 r hr W)
  have Hr := Lib.hid hr
  have q18 : (op == 18) = false := by subst hc; decide
  have n18 : (op != 18) = true := by subst hc; decide
  have q20 : (op == 20) = true := by subst hc; decide
  have n20 : (op != 20) = false := by subst hc; decide
  have q26 : (op == 26) = false := by subst hc; decide
  have n26 : (op != 26) = true := by subst hc; decide
  rw [hr]
  clear hc hok hr h0 h1
  go_enter Try.func40, Try.ntmps40
  go_wp2_with fail
  have XI0 := Lib.hid (IF.newAt (op) (a) (b) (c) (m) (w) (w.heap.size) (by simp))
  have BnI := Lib.hid (below_new (Below.refl w.heap.size w) (.cells #[.int .u8 (op), .int .i64 (a), .int .i64 (b), .int .i64 (c), .int .i64 (m)] 23))
  refine (Hw.out _).mono ?_
  rintro e w1 ⟨rfl, hb1⟩
  have B1 := Lib.hid (below_next BnI.out hb1)
  have XI1 := Lib.hid (XI0.out.step hb1)
  clear hb1
  have XI1_lt := XI1.out.lt
  have XI1_i0 := XI1.out.i0
  have XI1_i1 := XI1.out.i1
  have XI1_i2 := XI1.out.i2
  have XI1_i3 := XI1.out.i3
  have XI1_i4 := XI1.out.i4
  go_wp2_with fail
  go_ret
  exact ⟨rfl, B1.out⟩
set_option maxRecDepth 100000 in
set_option maxHeartbeats 2000000 in
theorem ref_next_26 (op a b c m : Int) (h0 : 0 ≤ op) (h1 : op ≤ 255) (hc : op = 26) (w : World) :
    Calls Try.prog 40 #[.agg #[.int .u8 op, .int .i64 a, .int .i64 b, .int .i64 c, .int .i64 m]] w fun e w' => e = .returned (.int .i64 (wrV op a b c m)) ∧ Below w.heap.size w w' := by
  obtain ⟨r, hr⟩ : ∃ r, wrV op a b c m = r := ⟨_, rfl⟩
  obtain ⟨ok, hok⟩ : ∃ r, wrOK op a b c m = r := ⟨_, rfl⟩
  have Hw := Lib.hid (fun W => ref_writes_any op a b c m h0 h1 r hr W)
  have Hr := Lib.hid hr
  have q18 : (op == 18) = false := by subst hc; decide
  have n18 : (op != 18) = true := by subst hc; decide
  have q20 : (op == 20) = false := by subst hc; decide
  have n20 : (op != 20) = true := by subst hc; decide
  have q26 : (op == 26) = true := by subst hc; decide
  have n26 : (op != 26) = false := by subst hc; decide
  rw [hr]
  clear hc hok hr h0 h1
  go_enter Try.func40, Try.ntmps40
  go_wp2_with fail
  have XI0 := Lib.hid (IF.newAt (op) (a) (b) (c) (m) (w) (w.heap.size) (by simp))
  have BnI := Lib.hid (below_new (Below.refl w.heap.size w) (.cells #[.int .u8 (op), .int .i64 (a), .int .i64 (b), .int .i64 (c), .int .i64 (m)] 23))
  refine (Hw.out _).mono ?_
  rintro e w1 ⟨rfl, hb1⟩
  have B1 := Lib.hid (below_next BnI.out hb1)
  have XI1 := Lib.hid (XI0.out.step hb1)
  clear hb1
  have XI1_lt := XI1.out.lt
  have XI1_i0 := XI1.out.i0
  have XI1_i1 := XI1.out.i1
  have XI1_i2 := XI1.out.i2
  have XI1_i3 := XI1.out.i3
  have XI1_i4 := XI1.out.i4
  go_wp2_with fail
  go_ret
  exact ⟨rfl, B1.out⟩
set_option maxRecDepth 100000 in
set_option maxHeartbeats 2000000 in
theorem ref_next_no (op a b c m : Int) (h0 : 0 ≤ op) (h1 : op ≤ 255) (hc : op ≠ 18 ∧ op ≠ 20 ∧ op ≠ 26) (w : World) :
    Calls Try.prog 40 #[.agg #[.int .u8 op, .int .i64 a, .int .i64 b, .int .i64 c, .int .i64 m]] w fun e w' => e = .returned (.int .i64 0) ∧ Below w.heap.size w w' := by
  have q18 : (op == 18) = false := by simpa using hc.1
  have n18 : (op != 18) = true := by simpa using hc.1
  have q20 : (op == 20) = false := by simpa using hc.2.1
  have n20 : (op != 20) = true := by simpa using hc.2.1
  have q26 : (op == 26) = false := by simpa using hc.2.2
  have n26 : (op != 26) = true := by simpa using hc.2.2
  clear hc h0 h1
  go_enter Try.func40, Try.ntmps40
  go_wp2_with fail
  go_ret
  exact ⟨rfl, below_new (Below.refl _ _) _⟩
theorem ref_next_any (op a b c m : Int) (h0 : 0 ≤ op) (h1 : op ≤ 255) (r : Int) (hr : nextV op a b c m = r) (w : World) :
    Calls Try.prog 40 #[.agg #[.int .u8 op, .int .i64 a, .int .i64 b, .int .i64 c, .int .i64 m]] w fun e w' => e = .returned (.int .i64 r) ∧ Below w.heap.size w w' := by
  subst hr
  unfold nextV ldB
  by_cases c1 : op = 18
  · subst c1; exact ref_next_18 18 a b c m h0 h1 rfl w
  by_cases c2 : op = 20
  · subst c2; exact ref_next_20 20 a b c m h0 h1 rfl w
  by_cases c3 : op = 26
  · subst c3; exact ref_next_26 26 a b c m h0 h1 rfl w
  have e : (op == 18 || (op == 20 || op == 26)) = false := by simp [c1, c2, c3]
  rw [e]; exact ref_next_no op a b c m h0 h1 ⟨c1, c2, c3⟩ w
end Go.Proofs.Ytgjpenhfechhcaa
