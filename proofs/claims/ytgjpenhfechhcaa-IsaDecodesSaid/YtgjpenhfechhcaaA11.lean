/- The contract of the reference's Decode, form by form of the operands. -/
import Derived.Test.YtgjpenhfechhcaaA10
namespace Go.Proofs.Ytgjpenhfechhcaa
open Go.RowKit Go.Proofs.YtgjpenhfechhcaaW.PrintWords Go.Proofs.YtgjpenhfechhcaaW.PrintLast Go.Proofs.YtgjpenhfechhcaaW.PrintMore
open PIsaDecodes

/-- what Decode of the reference gives -/
def decRes (good : Bool) (op a b c m : Int) : Value := if good then .tuple #[.agg #[.int .u8 op, .int .i64 a, .int .i64 b, .int .i64 c, .int .i64 m], .bool true] else .tuple #[.agg #[.int .u8 0, .int .i64 0, .int .i64 0, .int .i64 0, .int .i64 0], .bool false]
def goodB (op a b c m v : Int) : Bool := validB op a b c m && decide (encE op a b c m = v)

set_option maxRecDepth 100000 in
set_option maxHeartbeats 4000000 in
theorem rdec_none (v op : Int) (h0 : 0 ≤ v) (h1 : v < 4294967296) (hop : v / 67108864 = op) (hop1 : op < 30) (k1 : decide ((1 : Int) < ((fS op).size : Int)) = false) (k2 : decide ((2 : Int) < ((fS op).size : Int)) = false) (k3 : fHi op < fLo op) (w : World) :
    Calls Try.prog 26 #[.int .u32 v] w fun e w' => e = .returned (decRes (goodB op (v / 4194304 % 16) (0) (0) (0) v) op (v / 4194304 % 16) (0) (0) (0)) ∧ Below w.heap.size w w' := by
  have hop0 : 0 ≤ op := by omega
  obtain ⟨rA, hA⟩ : ∃ x, v / 4194304 % 16 = x := ⟨_, rfl⟩
  have ha0 : 0 ≤ rA := by omega
  have ha1 : rA ≤ 15 := by omega
  rw [hA]
  have hf := fun W => format_any op hop0 (by omega) W
  rw [decide_eq_true hop1] at hf
  have Hf := Lib.hid hf
  have hrv := fun W => ref_valid_any (op) (rA) (0) (0) (0) hop0 (by omega) W
  clear hf
  cases hv : validB (op) (rA) (0) (0) (0)
  · rw [hv] at hrv
    have Hrv := Lib.hid hrv
    have Hv := Lib.hid hv
    clear hrv hv
    go_enter Try.func26, Try.ntmps26
    go_wp2_with fail
    refine (Hf.out _).mono ?_
    rintro e w1 ⟨rfl, hb1⟩
    have Z1 := Lib.hid ((ZF.mk (by simp) (by show (w.heap.push _)[w.heap.size]? = _; simp) : ZF w.heap.size (w.alloc (.cells #[.int .u8 0, .int .i64 0, .int .i64 0, .int .i64 0, .int .i64 0] 23))).step hb1)
    have B1 := Lib.hid (below_next (below_new (Below.refl w.heap.size w) _) hb1)
    have Z1lt := Z1.out.lt
    clear hb1
    go_wp2_with fail
    have X1 := Lib.hid (IF.newAt (op) (rA) (0) (0) (0) w1 w1.heap.size rfl)
    have B1' := Lib.hid (below_new B1.out (.cells #[.int .u8 op, .int .i64 (rA), .int .i64 (0), .int .i64 (0), .int .i64 (0)] 23))
    have Z1' := Lib.hid (Z1.out.step ((Below.refl _ _).alloc (Nat.le_refl _) (.cells #[.int .u8 op, .int .i64 (rA), .int .i64 (0), .int .i64 (0), .int .i64 (0)] 23)))
    refine (Hrv.out _).mono ?_
    rintro e w2 ⟨rfl, hb2⟩
    have X2 := Lib.hid (X1.out.step hb2)
    have B2 := Lib.hid (below_next B1'.out hb2)
    have Z2 := Lib.hid (Z1'.out.step hb2)
    clear hb2
    have X2_lt := X2.out.lt
    have X2_i0 := X2.out.i0
    have X2_i1 := X2.out.i1
    have X2_i2 := X2.out.i2
    have X2_i3 := X2.out.i3
    have X2_i4 := X2.out.i4
    have z_lt := Z2.out.lt
    have z0 : w2.cell? ⟨w.heap.size, 0, none⟩ = some (.int .u8 0) := blk_cell Z2.out.blk 0
    have z1 : w2.cell? ⟨w.heap.size, 1, none⟩ = some (.int .i64 0) := blk_cell Z2.out.blk 1
    have z2 : w2.cell? ⟨w.heap.size, 2, none⟩ = some (.int .i64 0) := blk_cell Z2.out.blk 2
    have z3 : w2.cell? ⟨w.heap.size, 3, none⟩ = some (.int .i64 0) := blk_cell Z2.out.blk 3
    have z4 : w2.cell? ⟨w.heap.size, 4, none⟩ = some (.int .i64 0) := blk_cell Z2.out.blk 4
    have zf0 := blk_frozen Z2.out.blk 0
    have zf1 := blk_frozen Z2.out.blk 1
    have zf2 := blk_frozen Z2.out.blk 2
    have zf3 := blk_frozen Z2.out.blk 3
    have zf4 := blk_frozen Z2.out.blk 4
    go_wp2_with fail
    refine bodyPost_ret (v := .tuple #[.agg #[.int .u8 0, .int .i64 0, .int .i64 0, .int .i64 0, .int .i64 0], .bool false]) (by simp [results, Try.results26, go_sem, z0, z1, z2, z3, z4, zf0, zf1, zf2, zf3, zf4]) rfl ⟨by unfold decRes goodB; rw [Hv.out]; rfl, ?_⟩
    exact ((((B2.out.setCell (Nat.le_refl _) _).setCell (Nat.le_refl _) _).setCell (Nat.le_refl _) _).setCell (Nat.le_refl _) _).setCell (Nat.le_refl _) _
  · rw [hv] at hrv
    have Hrv := Lib.hid hrv
    have hre := fun W => ref_encode_any (op) (rA) (0) (0) (0) hop0 hv W
    obtain ⟨ev, hev⟩ : ∃ ev, encE (op) (rA) (0) (0) (0) = ev := ⟨_, rfl⟩
    rw [hev] at hre
    have Hre := Lib.hid hre
    have Hv := Lib.hid hv
    by_cases hw : ev = v
    · subst hw
      have Hw := Lib.hid hev
      clear hrv hv hre hev
      go_enter Try.func26, Try.ntmps26
      go_wp2_with fail
      refine (Hf.out _).mono ?_
      rintro e w1 ⟨rfl, hb1⟩
      have Z1 := Lib.hid ((ZF.mk (by simp) (by show (w.heap.push _)[w.heap.size]? = _; simp) : ZF w.heap.size (w.alloc (.cells #[.int .u8 0, .int .i64 0, .int .i64 0, .int .i64 0, .int .i64 0] 23))).step hb1)
      have B1 := Lib.hid (below_next (below_new (Below.refl w.heap.size w) _) hb1)
      have Z1lt := Z1.out.lt
      clear hb1
      go_wp2_with fail
      have X1 := Lib.hid (IF.newAt (op) (rA) (0) (0) (0) w1 w1.heap.size rfl)
      have B1' := Lib.hid (below_new B1.out (.cells #[.int .u8 op, .int .i64 (rA), .int .i64 (0), .int .i64 (0), .int .i64 (0)] 23))
      have Z1' := Lib.hid (Z1.out.step ((Below.refl _ _).alloc (Nat.le_refl _) (.cells #[.int .u8 op, .int .i64 (rA), .int .i64 (0), .int .i64 (0), .int .i64 (0)] 23)))
      refine (Hrv.out _).mono ?_
      rintro e w2 ⟨rfl, hb2⟩
      have X2 := Lib.hid (X1.out.step hb2)
      have B2 := Lib.hid (below_next B1'.out hb2)
      have Z2 := Lib.hid (Z1'.out.step hb2)
      clear hb2
      have X2_lt := X2.out.lt
      have X2_i0 := X2.out.i0
      have X2_i1 := X2.out.i1
      have X2_i2 := X2.out.i2
      have X2_i3 := X2.out.i3
      have X2_i4 := X2.out.i4
      go_wp2_with fail
      refine (Hre.out _).mono ?_
      rintro e w3 ⟨rfl, hb3⟩
      have X3 := Lib.hid (X2.out.step hb3)
      have B3 := Lib.hid (below_next B2.out hb3)
      have Z3 := Lib.hid (Z2.out.step hb3)
      clear hb3
      have X3_lt := X3.out.lt
      have X3_i0 := X3.out.i0
      have X3_i1 := X3.out.i1
      have X3_i2 := X3.out.i2
      have X3_i3 := X3.out.i3
      have X3_i4 := X3.out.i4
      have z_lt := Z3.out.lt
      have z0 : w3.cell? ⟨w.heap.size, 0, none⟩ = some (.int .u8 0) := blk_cell Z3.out.blk 0
      have z1 : w3.cell? ⟨w.heap.size, 1, none⟩ = some (.int .i64 0) := blk_cell Z3.out.blk 1
      have z2 : w3.cell? ⟨w.heap.size, 2, none⟩ = some (.int .i64 0) := blk_cell Z3.out.blk 2
      have z3 : w3.cell? ⟨w.heap.size, 3, none⟩ = some (.int .i64 0) := blk_cell Z3.out.blk 3
      have z4 : w3.cell? ⟨w.heap.size, 4, none⟩ = some (.int .i64 0) := blk_cell Z3.out.blk 4
      have zf0 := blk_frozen Z3.out.blk 0
      have zf1 := blk_frozen Z3.out.blk 1
      have zf2 := blk_frozen Z3.out.blk 2
      have zf3 := blk_frozen Z3.out.blk 3
      have zf4 := blk_frozen Z3.out.blk 4
      go_wp2_with fail
      refine bodyPost_ret (v := .tuple #[.agg #[.int .u8 op, .int .i64 (rA), .int .i64 (0), .int .i64 (0), .int .i64 (0)], .bool true]) (by simp [results, Try.results26, go_sem, z0, z1, z2, z3, z4, zf0, zf1, zf2, zf3, zf4]) rfl ⟨by unfold decRes goodB; rw [Hv.out, Hw.out, decide_eq_true rfl]; rfl, ?_⟩
      exact ((((B3.out.setCell (Nat.le_refl _) _).setCell (Nat.le_refl _) _).setCell (Nat.le_refl _) _).setCell (Nat.le_refl _) _).setCell (Nat.le_refl _) _
    · have hne : (ev != v) = true := by simpa using hw
      have Hw := Lib.hid hev
      have Hne := Lib.hid hw
      clear hrv hv hre hev hw
      go_enter Try.func26, Try.ntmps26
      go_wp2_with fail
      refine (Hf.out _).mono ?_
      rintro e w1 ⟨rfl, hb1⟩
      have Z1 := Lib.hid ((ZF.mk (by simp) (by show (w.heap.push _)[w.heap.size]? = _; simp) : ZF w.heap.size (w.alloc (.cells #[.int .u8 0, .int .i64 0, .int .i64 0, .int .i64 0, .int .i64 0] 23))).step hb1)
      have B1 := Lib.hid (below_next (below_new (Below.refl w.heap.size w) _) hb1)
      have Z1lt := Z1.out.lt
      clear hb1
      go_wp2_with fail
      have X1 := Lib.hid (IF.newAt (op) (rA) (0) (0) (0) w1 w1.heap.size rfl)
      have B1' := Lib.hid (below_new B1.out (.cells #[.int .u8 op, .int .i64 (rA), .int .i64 (0), .int .i64 (0), .int .i64 (0)] 23))
      have Z1' := Lib.hid (Z1.out.step ((Below.refl _ _).alloc (Nat.le_refl _) (.cells #[.int .u8 op, .int .i64 (rA), .int .i64 (0), .int .i64 (0), .int .i64 (0)] 23)))
      refine (Hrv.out _).mono ?_
      rintro e w2 ⟨rfl, hb2⟩
      have X2 := Lib.hid (X1.out.step hb2)
      have B2 := Lib.hid (below_next B1'.out hb2)
      have Z2 := Lib.hid (Z1'.out.step hb2)
      clear hb2
      have X2_lt := X2.out.lt
      have X2_i0 := X2.out.i0
      have X2_i1 := X2.out.i1
      have X2_i2 := X2.out.i2
      have X2_i3 := X2.out.i3
      have X2_i4 := X2.out.i4
      go_wp2_with fail
      refine (Hre.out _).mono ?_
      rintro e w3 ⟨rfl, hb3⟩
      have X3 := Lib.hid (X2.out.step hb3)
      have B3 := Lib.hid (below_next B2.out hb3)
      have Z3 := Lib.hid (Z2.out.step hb3)
      clear hb3
      have X3_lt := X3.out.lt
      have X3_i0 := X3.out.i0
      have X3_i1 := X3.out.i1
      have X3_i2 := X3.out.i2
      have X3_i3 := X3.out.i3
      have X3_i4 := X3.out.i4
      have z_lt := Z3.out.lt
      have z0 : w3.cell? ⟨w.heap.size, 0, none⟩ = some (.int .u8 0) := blk_cell Z3.out.blk 0
      have z1 : w3.cell? ⟨w.heap.size, 1, none⟩ = some (.int .i64 0) := blk_cell Z3.out.blk 1
      have z2 : w3.cell? ⟨w.heap.size, 2, none⟩ = some (.int .i64 0) := blk_cell Z3.out.blk 2
      have z3 : w3.cell? ⟨w.heap.size, 3, none⟩ = some (.int .i64 0) := blk_cell Z3.out.blk 3
      have z4 : w3.cell? ⟨w.heap.size, 4, none⟩ = some (.int .i64 0) := blk_cell Z3.out.blk 4
      have zf0 := blk_frozen Z3.out.blk 0
      have zf1 := blk_frozen Z3.out.blk 1
      have zf2 := blk_frozen Z3.out.blk 2
      have zf3 := blk_frozen Z3.out.blk 3
      have zf4 := blk_frozen Z3.out.blk 4
      go_wp2_with fail
      refine bodyPost_ret (v := .tuple #[.agg #[.int .u8 0, .int .i64 0, .int .i64 0, .int .i64 0, .int .i64 0], .bool false]) (by simp [results, Try.results26, go_sem, z0, z1, z2, z3, z4, zf0, zf1, zf2, zf3, zf4]) rfl ⟨by unfold decRes goodB; rw [Hv.out, Hw.out, decide_eq_false Hne.out]; rfl, ?_⟩
      exact ((((B3.out.setCell (Nat.le_refl _) _).setCell (Nat.le_refl _) _).setCell (Nat.le_refl _) _).setCell (Nat.le_refl _) _).setCell (Nat.le_refl _) _

set_option maxRecDepth 100000 in
set_option maxHeartbeats 4000000 in
theorem rdec_abc (v op : Int) (h0 : 0 ≤ v) (h1 : v < 4294967296) (hop : v / 67108864 = op) (hop1 : op < 30) (k1 : decide ((1 : Int) < ((fS op).size : Int)) = true) (k2 : decide ((2 : Int) < ((fS op).size : Int)) = true) (k3 : fHi op < fLo op) (w : World) :
    Calls Try.prog 26 #[.int .u32 v] w fun e w' => e = .returned (decRes (goodB op (v / 4194304 % 16) (v / 262144 % 16) (v / 16384 % 16) (0) v) op (v / 4194304 % 16) (v / 262144 % 16) (v / 16384 % 16) (0)) ∧ Below w.heap.size w w' := by
  have hop0 : 0 ≤ op := by omega
  obtain ⟨rA, hA⟩ : ∃ x, v / 4194304 % 16 = x := ⟨_, rfl⟩
  obtain ⟨rB, hB⟩ : ∃ x, v / 262144 % 16 = x := ⟨_, rfl⟩
  obtain ⟨rC, hC⟩ : ∃ x, v / 16384 % 16 = x := ⟨_, rfl⟩
  have ha0 : 0 ≤ rA := by omega
  have ha1 : rA ≤ 15 := by omega
  have hb0 : 0 ≤ rB := by omega
  have hb1 : rB ≤ 15 := by omega
  have hc0 : 0 ≤ rC := by omega
  have hc1 : rC ≤ 15 := by omega
  rw [hA]
  rw [hB]
  rw [hC]
  have hf := fun W => format_any op hop0 (by omega) W
  rw [decide_eq_true hop1] at hf
  have Hf := Lib.hid hf
  have hrv := fun W => ref_valid_any (op) (rA) (rB) (rC) (0) hop0 (by omega) W
  clear hf
  cases hv : validB (op) (rA) (rB) (rC) (0)
  · rw [hv] at hrv
    have Hrv := Lib.hid hrv
    have Hv := Lib.hid hv
    clear hrv hv
    go_enter Try.func26, Try.ntmps26
    go_wp2_with fail
    refine (Hf.out _).mono ?_
    rintro e w1 ⟨rfl, hb1⟩
    have Z1 := Lib.hid ((ZF.mk (by simp) (by show (w.heap.push _)[w.heap.size]? = _; simp) : ZF w.heap.size (w.alloc (.cells #[.int .u8 0, .int .i64 0, .int .i64 0, .int .i64 0, .int .i64 0] 23))).step hb1)
    have B1 := Lib.hid (below_next (below_new (Below.refl w.heap.size w) _) hb1)
    have Z1lt := Z1.out.lt
    clear hb1
    go_wp2_with fail
    have X1 := Lib.hid (IF.newAt (op) (rA) (rB) (rC) (0) w1 w1.heap.size rfl)
    have B1' := Lib.hid (below_new B1.out (.cells #[.int .u8 op, .int .i64 (rA), .int .i64 (rB), .int .i64 (rC), .int .i64 (0)] 23))
    have Z1' := Lib.hid (Z1.out.step ((Below.refl _ _).alloc (Nat.le_refl _) (.cells #[.int .u8 op, .int .i64 (rA), .int .i64 (rB), .int .i64 (rC), .int .i64 (0)] 23)))
    refine (Hrv.out _).mono ?_
    rintro e w2 ⟨rfl, hb2⟩
    have X2 := Lib.hid (X1.out.step hb2)
    have B2 := Lib.hid (below_next B1'.out hb2)
    have Z2 := Lib.hid (Z1'.out.step hb2)
    clear hb2
    have X2_lt := X2.out.lt
    have X2_i0 := X2.out.i0
    have X2_i1 := X2.out.i1
    have X2_i2 := X2.out.i2
    have X2_i3 := X2.out.i3
    have X2_i4 := X2.out.i4
    have z_lt := Z2.out.lt
    have z0 : w2.cell? ⟨w.heap.size, 0, none⟩ = some (.int .u8 0) := blk_cell Z2.out.blk 0
    have z1 : w2.cell? ⟨w.heap.size, 1, none⟩ = some (.int .i64 0) := blk_cell Z2.out.blk 1
    have z2 : w2.cell? ⟨w.heap.size, 2, none⟩ = some (.int .i64 0) := blk_cell Z2.out.blk 2
    have z3 : w2.cell? ⟨w.heap.size, 3, none⟩ = some (.int .i64 0) := blk_cell Z2.out.blk 3
    have z4 : w2.cell? ⟨w.heap.size, 4, none⟩ = some (.int .i64 0) := blk_cell Z2.out.blk 4
    have zf0 := blk_frozen Z2.out.blk 0
    have zf1 := blk_frozen Z2.out.blk 1
    have zf2 := blk_frozen Z2.out.blk 2
    have zf3 := blk_frozen Z2.out.blk 3
    have zf4 := blk_frozen Z2.out.blk 4
    go_wp2_with fail
    refine bodyPost_ret (v := .tuple #[.agg #[.int .u8 0, .int .i64 0, .int .i64 0, .int .i64 0, .int .i64 0], .bool false]) (by simp [results, Try.results26, go_sem, z0, z1, z2, z3, z4, zf0, zf1, zf2, zf3, zf4]) rfl ⟨by unfold decRes goodB; rw [Hv.out]; rfl, ?_⟩
    exact ((((B2.out.setCell (Nat.le_refl _) _).setCell (Nat.le_refl _) _).setCell (Nat.le_refl _) _).setCell (Nat.le_refl _) _).setCell (Nat.le_refl _) _
  · rw [hv] at hrv
    have Hrv := Lib.hid hrv
    have hre := fun W => ref_encode_any (op) (rA) (rB) (rC) (0) hop0 hv W
    obtain ⟨ev, hev⟩ : ∃ ev, encE (op) (rA) (rB) (rC) (0) = ev := ⟨_, rfl⟩
    rw [hev] at hre
    have Hre := Lib.hid hre
    have Hv := Lib.hid hv
    by_cases hw : ev = v
    · subst hw
      have Hw := Lib.hid hev
      clear hrv hv hre hev
      go_enter Try.func26, Try.ntmps26
      go_wp2_with fail
      refine (Hf.out _).mono ?_
      rintro e w1 ⟨rfl, hb1⟩
      have Z1 := Lib.hid ((ZF.mk (by simp) (by show (w.heap.push _)[w.heap.size]? = _; simp) : ZF w.heap.size (w.alloc (.cells #[.int .u8 0, .int .i64 0, .int .i64 0, .int .i64 0, .int .i64 0] 23))).step hb1)
      have B1 := Lib.hid (below_next (below_new (Below.refl w.heap.size w) _) hb1)
      have Z1lt := Z1.out.lt
      clear hb1
      go_wp2_with fail
      have X1 := Lib.hid (IF.newAt (op) (rA) (rB) (rC) (0) w1 w1.heap.size rfl)
      have B1' := Lib.hid (below_new B1.out (.cells #[.int .u8 op, .int .i64 (rA), .int .i64 (rB), .int .i64 (rC), .int .i64 (0)] 23))
      have Z1' := Lib.hid (Z1.out.step ((Below.refl _ _).alloc (Nat.le_refl _) (.cells #[.int .u8 op, .int .i64 (rA), .int .i64 (rB), .int .i64 (rC), .int .i64 (0)] 23)))
      refine (Hrv.out _).mono ?_
      rintro e w2 ⟨rfl, hb2⟩
      have X2 := Lib.hid (X1.out.step hb2)
      have B2 := Lib.hid (below_next B1'.out hb2)
      have Z2 := Lib.hid (Z1'.out.step hb2)
      clear hb2
      have X2_lt := X2.out.lt
      have X2_i0 := X2.out.i0
      have X2_i1 := X2.out.i1
      have X2_i2 := X2.out.i2
      have X2_i3 := X2.out.i3
      have X2_i4 := X2.out.i4
      go_wp2_with fail
      refine (Hre.out _).mono ?_
      rintro e w3 ⟨rfl, hb3⟩
      have X3 := Lib.hid (X2.out.step hb3)
      have B3 := Lib.hid (below_next B2.out hb3)
      have Z3 := Lib.hid (Z2.out.step hb3)
      clear hb3
      have X3_lt := X3.out.lt
      have X3_i0 := X3.out.i0
      have X3_i1 := X3.out.i1
      have X3_i2 := X3.out.i2
      have X3_i3 := X3.out.i3
      have X3_i4 := X3.out.i4
      have z_lt := Z3.out.lt
      have z0 : w3.cell? ⟨w.heap.size, 0, none⟩ = some (.int .u8 0) := blk_cell Z3.out.blk 0
      have z1 : w3.cell? ⟨w.heap.size, 1, none⟩ = some (.int .i64 0) := blk_cell Z3.out.blk 1
      have z2 : w3.cell? ⟨w.heap.size, 2, none⟩ = some (.int .i64 0) := blk_cell Z3.out.blk 2
      have z3 : w3.cell? ⟨w.heap.size, 3, none⟩ = some (.int .i64 0) := blk_cell Z3.out.blk 3
      have z4 : w3.cell? ⟨w.heap.size, 4, none⟩ = some (.int .i64 0) := blk_cell Z3.out.blk 4
      have zf0 := blk_frozen Z3.out.blk 0
      have zf1 := blk_frozen Z3.out.blk 1
      have zf2 := blk_frozen Z3.out.blk 2
      have zf3 := blk_frozen Z3.out.blk 3
      have zf4 := blk_frozen Z3.out.blk 4
      go_wp2_with fail
      refine bodyPost_ret (v := .tuple #[.agg #[.int .u8 op, .int .i64 (rA), .int .i64 (rB), .int .i64 (rC), .int .i64 (0)], .bool true]) (by simp [results, Try.results26, go_sem, z0, z1, z2, z3, z4, zf0, zf1, zf2, zf3, zf4]) rfl ⟨by unfold decRes goodB; rw [Hv.out, Hw.out, decide_eq_true rfl]; rfl, ?_⟩
      exact ((((B3.out.setCell (Nat.le_refl _) _).setCell (Nat.le_refl _) _).setCell (Nat.le_refl _) _).setCell (Nat.le_refl _) _).setCell (Nat.le_refl _) _
    · have hne : (ev != v) = true := by simpa using hw
      have Hw := Lib.hid hev
      have Hne := Lib.hid hw
      clear hrv hv hre hev hw
      go_enter Try.func26, Try.ntmps26
      go_wp2_with fail
      refine (Hf.out _).mono ?_
      rintro e w1 ⟨rfl, hb1⟩
      have Z1 := Lib.hid ((ZF.mk (by simp) (by show (w.heap.push _)[w.heap.size]? = _; simp) : ZF w.heap.size (w.alloc (.cells #[.int .u8 0, .int .i64 0, .int .i64 0, .int .i64 0, .int .i64 0] 23))).step hb1)
      have B1 := Lib.hid (below_next (below_new (Below.refl w.heap.size w) _) hb1)
      have Z1lt := Z1.out.lt
      clear hb1
      go_wp2_with fail
      have X1 := Lib.hid (IF.newAt (op) (rA) (rB) (rC) (0) w1 w1.heap.size rfl)
      have B1' := Lib.hid (below_new B1.out (.cells #[.int .u8 op, .int .i64 (rA), .int .i64 (rB), .int .i64 (rC), .int .i64 (0)] 23))
      have Z1' := Lib.hid (Z1.out.step ((Below.refl _ _).alloc (Nat.le_refl _) (.cells #[.int .u8 op, .int .i64 (rA), .int .i64 (rB), .int .i64 (rC), .int .i64 (0)] 23)))
      refine (Hrv.out _).mono ?_
      rintro e w2 ⟨rfl, hb2⟩
      have X2 := Lib.hid (X1.out.step hb2)
      have B2 := Lib.hid (below_next B1'.out hb2)
      have Z2 := Lib.hid (Z1'.out.step hb2)
      clear hb2
      have X2_lt := X2.out.lt
      have X2_i0 := X2.out.i0
      have X2_i1 := X2.out.i1
      have X2_i2 := X2.out.i2
      have X2_i3 := X2.out.i3
      have X2_i4 := X2.out.i4
      go_wp2_with fail
      refine (Hre.out _).mono ?_
      rintro e w3 ⟨rfl, hb3⟩
      have X3 := Lib.hid (X2.out.step hb3)
      have B3 := Lib.hid (below_next B2.out hb3)
      have Z3 := Lib.hid (Z2.out.step hb3)
      clear hb3
      have X3_lt := X3.out.lt
      have X3_i0 := X3.out.i0
      have X3_i1 := X3.out.i1
      have X3_i2 := X3.out.i2
      have X3_i3 := X3.out.i3
      have X3_i4 := X3.out.i4
      have z_lt := Z3.out.lt
      have z0 : w3.cell? ⟨w.heap.size, 0, none⟩ = some (.int .u8 0) := blk_cell Z3.out.blk 0
      have z1 : w3.cell? ⟨w.heap.size, 1, none⟩ = some (.int .i64 0) := blk_cell Z3.out.blk 1
      have z2 : w3.cell? ⟨w.heap.size, 2, none⟩ = some (.int .i64 0) := blk_cell Z3.out.blk 2
      have z3 : w3.cell? ⟨w.heap.size, 3, none⟩ = some (.int .i64 0) := blk_cell Z3.out.blk 3
      have z4 : w3.cell? ⟨w.heap.size, 4, none⟩ = some (.int .i64 0) := blk_cell Z3.out.blk 4
      have zf0 := blk_frozen Z3.out.blk 0
      have zf1 := blk_frozen Z3.out.blk 1
      have zf2 := blk_frozen Z3.out.blk 2
      have zf3 := blk_frozen Z3.out.blk 3
      have zf4 := blk_frozen Z3.out.blk 4
      go_wp2_with fail
      refine bodyPost_ret (v := .tuple #[.agg #[.int .u8 0, .int .i64 0, .int .i64 0, .int .i64 0, .int .i64 0], .bool false]) (by simp [results, Try.results26, go_sem, z0, z1, z2, z3, z4, zf0, zf1, zf2, zf3, zf4]) rfl ⟨by unfold decRes goodB; rw [Hv.out, Hw.out, decide_eq_false Hne.out]; rfl, ?_⟩
      exact ((((B3.out.setCell (Nat.le_refl _) _).setCell (Nat.le_refl _) _).setCell (Nat.le_refl _) _).setCell (Nat.le_refl _) _).setCell (Nat.le_refl _) _

set_option maxRecDepth 100000 in
set_option maxHeartbeats 4000000 in
theorem rdec_ip (v op : Int) (h0 : 0 ≤ v) (h1 : v < 4294967296) (hop : v / 67108864 = op) (hop1 : op < 30) (k1 : decide ((1 : Int) < ((fS op).size : Int)) = false) (k2 : decide ((2 : Int) < ((fS op).size : Int)) = false) (k3 : fLo op ≤ fHi op) (ks : v % 262144 ≤ 131071) (w : World) :
    Calls Try.prog 26 #[.int .u32 v] w fun e w' => e = .returned (decRes (goodB op (v / 4194304 % 16) (0) (0) (v % 262144) v) op (v / 4194304 % 16) (0) (0) (v % 262144)) ∧ Below w.heap.size w w' := by
  have hop0 : 0 ≤ op := by omega
  obtain ⟨rA, hA⟩ : ∃ x, v / 4194304 % 16 = x := ⟨_, rfl⟩
  obtain ⟨rM, hM⟩ : ∃ x, v % 262144 = x := ⟨_, rfl⟩
  have hm0 : 0 ≤ rM := by omega
  have hm1 : rM < 262144 := by omega
  rw [hM] at ks
  have ha0 : 0 ≤ rA := by omega
  have ha1 : rA ≤ 15 := by omega
  rw [hA]
  rw [hM]
  have hf := fun W => format_any op hop0 (by omega) W
  rw [decide_eq_true hop1] at hf
  have Hf := Lib.hid hf
  have hrv := fun W => ref_valid_any (op) (rA) (0) (0) (rM) hop0 (by omega) W
  clear hf
  cases hv : validB (op) (rA) (0) (0) (rM)
  · rw [hv] at hrv
    have Hrv := Lib.hid hrv
    have Hv := Lib.hid hv
    clear hrv hv
    go_enter Try.func26, Try.ntmps26
    go_wp2_with fail
    refine (Hf.out _).mono ?_
    rintro e w1 ⟨rfl, hb1⟩
    have Z1 := Lib.hid ((ZF.mk (by simp) (by show (w.heap.push _)[w.heap.size]? = _; simp) : ZF w.heap.size (w.alloc (.cells #[.int .u8 0, .int .i64 0, .int .i64 0, .int .i64 0, .int .i64 0] 23))).step hb1)
    have B1 := Lib.hid (below_next (below_new (Below.refl w.heap.size w) _) hb1)
    have Z1lt := Z1.out.lt
    clear hb1
    go_wp2_with fail
    have X1 := Lib.hid (IF.newAt (op) (rA) (0) (0) (rM) w1 w1.heap.size rfl)
    have B1' := Lib.hid (below_new B1.out (.cells #[.int .u8 op, .int .i64 (rA), .int .i64 (0), .int .i64 (0), .int .i64 (rM)] 23))
    have Z1' := Lib.hid (Z1.out.step ((Below.refl _ _).alloc (Nat.le_refl _) (.cells #[.int .u8 op, .int .i64 (rA), .int .i64 (0), .int .i64 (0), .int .i64 (rM)] 23)))
    refine (Hrv.out _).mono ?_
    rintro e w2 ⟨rfl, hb2⟩
    have X2 := Lib.hid (X1.out.step hb2)
    have B2 := Lib.hid (below_next B1'.out hb2)
    have Z2 := Lib.hid (Z1'.out.step hb2)
    clear hb2
    have X2_lt := X2.out.lt
    have X2_i0 := X2.out.i0
    have X2_i1 := X2.out.i1
    have X2_i2 := X2.out.i2
    have X2_i3 := X2.out.i3
    have X2_i4 := X2.out.i4
    have z_lt := Z2.out.lt
    have z0 : w2.cell? ⟨w.heap.size, 0, none⟩ = some (.int .u8 0) := blk_cell Z2.out.blk 0
    have z1 : w2.cell? ⟨w.heap.size, 1, none⟩ = some (.int .i64 0) := blk_cell Z2.out.blk 1
    have z2 : w2.cell? ⟨w.heap.size, 2, none⟩ = some (.int .i64 0) := blk_cell Z2.out.blk 2
    have z3 : w2.cell? ⟨w.heap.size, 3, none⟩ = some (.int .i64 0) := blk_cell Z2.out.blk 3
    have z4 : w2.cell? ⟨w.heap.size, 4, none⟩ = some (.int .i64 0) := blk_cell Z2.out.blk 4
    have zf0 := blk_frozen Z2.out.blk 0
    have zf1 := blk_frozen Z2.out.blk 1
    have zf2 := blk_frozen Z2.out.blk 2
    have zf3 := blk_frozen Z2.out.blk 3
    have zf4 := blk_frozen Z2.out.blk 4
    go_wp2_with fail
    refine bodyPost_ret (v := .tuple #[.agg #[.int .u8 0, .int .i64 0, .int .i64 0, .int .i64 0, .int .i64 0], .bool false]) (by simp [results, Try.results26, go_sem, z0, z1, z2, z3, z4, zf0, zf1, zf2, zf3, zf4]) rfl ⟨by unfold decRes goodB; rw [Hv.out]; rfl, ?_⟩
    exact ((((B2.out.setCell (Nat.le_refl _) _).setCell (Nat.le_refl _) _).setCell (Nat.le_refl _) _).setCell (Nat.le_refl _) _).setCell (Nat.le_refl _) _
  · rw [hv] at hrv
    have Hrv := Lib.hid hrv
    have hre := fun W => ref_encode_any (op) (rA) (0) (0) (rM) hop0 hv W
    obtain ⟨ev, hev⟩ : ∃ ev, encE (op) (rA) (0) (0) (rM) = ev := ⟨_, rfl⟩
    rw [hev] at hre
    have Hre := Lib.hid hre
    have Hv := Lib.hid hv
    by_cases hw : ev = v
    · subst hw
      have Hw := Lib.hid hev
      clear hrv hv hre hev
      go_enter Try.func26, Try.ntmps26
      go_wp2_with fail
      refine (Hf.out _).mono ?_
      rintro e w1 ⟨rfl, hb1⟩
      have Z1 := Lib.hid ((ZF.mk (by simp) (by show (w.heap.push _)[w.heap.size]? = _; simp) : ZF w.heap.size (w.alloc (.cells #[.int .u8 0, .int .i64 0, .int .i64 0, .int .i64 0, .int .i64 0] 23))).step hb1)
      have B1 := Lib.hid (below_next (below_new (Below.refl w.heap.size w) _) hb1)
      have Z1lt := Z1.out.lt
      clear hb1
      go_wp2_with fail
      have X1 := Lib.hid (IF.newAt (op) (rA) (0) (0) (rM) w1 w1.heap.size rfl)
      have B1' := Lib.hid (below_new B1.out (.cells #[.int .u8 op, .int .i64 (rA), .int .i64 (0), .int .i64 (0), .int .i64 (rM)] 23))
      have Z1' := Lib.hid (Z1.out.step ((Below.refl _ _).alloc (Nat.le_refl _) (.cells #[.int .u8 op, .int .i64 (rA), .int .i64 (0), .int .i64 (0), .int .i64 (rM)] 23)))
      refine (Hrv.out _).mono ?_
      rintro e w2 ⟨rfl, hb2⟩
      have X2 := Lib.hid (X1.out.step hb2)
      have B2 := Lib.hid (below_next B1'.out hb2)
      have Z2 := Lib.hid (Z1'.out.step hb2)
      clear hb2
      have X2_lt := X2.out.lt
      have X2_i0 := X2.out.i0
      have X2_i1 := X2.out.i1
      have X2_i2 := X2.out.i2
      have X2_i3 := X2.out.i3
      have X2_i4 := X2.out.i4
      go_wp2_with fail
      refine (Hre.out _).mono ?_
      rintro e w3 ⟨rfl, hb3⟩
      have X3 := Lib.hid (X2.out.step hb3)
      have B3 := Lib.hid (below_next B2.out hb3)
      have Z3 := Lib.hid (Z2.out.step hb3)
      clear hb3
      have X3_lt := X3.out.lt
      have X3_i0 := X3.out.i0
      have X3_i1 := X3.out.i1
      have X3_i2 := X3.out.i2
      have X3_i3 := X3.out.i3
      have X3_i4 := X3.out.i4
      have z_lt := Z3.out.lt
      have z0 : w3.cell? ⟨w.heap.size, 0, none⟩ = some (.int .u8 0) := blk_cell Z3.out.blk 0
      have z1 : w3.cell? ⟨w.heap.size, 1, none⟩ = some (.int .i64 0) := blk_cell Z3.out.blk 1
      have z2 : w3.cell? ⟨w.heap.size, 2, none⟩ = some (.int .i64 0) := blk_cell Z3.out.blk 2
      have z3 : w3.cell? ⟨w.heap.size, 3, none⟩ = some (.int .i64 0) := blk_cell Z3.out.blk 3
      have z4 : w3.cell? ⟨w.heap.size, 4, none⟩ = some (.int .i64 0) := blk_cell Z3.out.blk 4
      have zf0 := blk_frozen Z3.out.blk 0
      have zf1 := blk_frozen Z3.out.blk 1
      have zf2 := blk_frozen Z3.out.blk 2
      have zf3 := blk_frozen Z3.out.blk 3
      have zf4 := blk_frozen Z3.out.blk 4
      go_wp2_with fail
      refine bodyPost_ret (v := .tuple #[.agg #[.int .u8 op, .int .i64 (rA), .int .i64 (0), .int .i64 (0), .int .i64 (rM)], .bool true]) (by simp [results, Try.results26, go_sem, z0, z1, z2, z3, z4, zf0, zf1, zf2, zf3, zf4]) rfl ⟨by unfold decRes goodB; rw [Hv.out, Hw.out, decide_eq_true rfl]; rfl, ?_⟩
      exact ((((B3.out.setCell (Nat.le_refl _) _).setCell (Nat.le_refl _) _).setCell (Nat.le_refl _) _).setCell (Nat.le_refl _) _).setCell (Nat.le_refl _) _
    · have hne : (ev != v) = true := by simpa using hw
      have Hw := Lib.hid hev
      have Hne := Lib.hid hw
      clear hrv hv hre hev hw
      go_enter Try.func26, Try.ntmps26
      go_wp2_with fail
      refine (Hf.out _).mono ?_
      rintro e w1 ⟨rfl, hb1⟩
      have Z1 := Lib.hid ((ZF.mk (by simp) (by show (w.heap.push _)[w.heap.size]? = _; simp) : ZF w.heap.size (w.alloc (.cells #[.int .u8 0, .int .i64 0, .int .i64 0, .int .i64 0, .int .i64 0] 23))).step hb1)
      have B1 := Lib.hid (below_next (below_new (Below.refl w.heap.size w) _) hb1)
      have Z1lt := Z1.out.lt
      clear hb1
      go_wp2_with fail
      have X1 := Lib.hid (IF.newAt (op) (rA) (0) (0) (rM) w1 w1.heap.size rfl)
      have B1' := Lib.hid (below_new B1.out (.cells #[.int .u8 op, .int .i64 (rA), .int .i64 (0), .int .i64 (0), .int .i64 (rM)] 23))
      have Z1' := Lib.hid (Z1.out.step ((Below.refl _ _).alloc (Nat.le_refl _) (.cells #[.int .u8 op, .int .i64 (rA), .int .i64 (0), .int .i64 (0), .int .i64 (rM)] 23)))
      refine (Hrv.out _).mono ?_
      rintro e w2 ⟨rfl, hb2⟩
      have X2 := Lib.hid (X1.out.step hb2)
      have B2 := Lib.hid (below_next B1'.out hb2)
      have Z2 := Lib.hid (Z1'.out.step hb2)
      clear hb2
      have X2_lt := X2.out.lt
      have X2_i0 := X2.out.i0
      have X2_i1 := X2.out.i1
      have X2_i2 := X2.out.i2
      have X2_i3 := X2.out.i3
      have X2_i4 := X2.out.i4
      go_wp2_with fail
      refine (Hre.out _).mono ?_
      rintro e w3 ⟨rfl, hb3⟩
      have X3 := Lib.hid (X2.out.step hb3)
      have B3 := Lib.hid (below_next B2.out hb3)
      have Z3 := Lib.hid (Z2.out.step hb3)
      clear hb3
      have X3_lt := X3.out.lt
      have X3_i0 := X3.out.i0
      have X3_i1 := X3.out.i1
      have X3_i2 := X3.out.i2
      have X3_i3 := X3.out.i3
      have X3_i4 := X3.out.i4
      have z_lt := Z3.out.lt
      have z0 : w3.cell? ⟨w.heap.size, 0, none⟩ = some (.int .u8 0) := blk_cell Z3.out.blk 0
      have z1 : w3.cell? ⟨w.heap.size, 1, none⟩ = some (.int .i64 0) := blk_cell Z3.out.blk 1
      have z2 : w3.cell? ⟨w.heap.size, 2, none⟩ = some (.int .i64 0) := blk_cell Z3.out.blk 2
      have z3 : w3.cell? ⟨w.heap.size, 3, none⟩ = some (.int .i64 0) := blk_cell Z3.out.blk 3
      have z4 : w3.cell? ⟨w.heap.size, 4, none⟩ = some (.int .i64 0) := blk_cell Z3.out.blk 4
      have zf0 := blk_frozen Z3.out.blk 0
      have zf1 := blk_frozen Z3.out.blk 1
      have zf2 := blk_frozen Z3.out.blk 2
      have zf3 := blk_frozen Z3.out.blk 3
      have zf4 := blk_frozen Z3.out.blk 4
      go_wp2_with fail
      refine bodyPost_ret (v := .tuple #[.agg #[.int .u8 0, .int .i64 0, .int .i64 0, .int .i64 0, .int .i64 0], .bool false]) (by simp [results, Try.results26, go_sem, z0, z1, z2, z3, z4, zf0, zf1, zf2, zf3, zf4]) rfl ⟨by unfold decRes goodB; rw [Hv.out, Hw.out, decide_eq_false Hne.out]; rfl, ?_⟩
      exact ((((B3.out.setCell (Nat.le_refl _) _).setCell (Nat.le_refl _) _).setCell (Nat.le_refl _) _).setCell (Nat.le_refl _) _).setCell (Nat.le_refl _) _

set_option maxRecDepth 100000 in
set_option maxHeartbeats 4000000 in
theorem rdec_in (v op : Int) (h0 : 0 ≤ v) (h1 : v < 4294967296) (hop : v / 67108864 = op) (hop1 : op < 30) (k1 : decide ((1 : Int) < ((fS op).size : Int)) = false) (k2 : decide ((2 : Int) < ((fS op).size : Int)) = false) (k3 : fLo op ≤ fHi op) (ks : 131071 < v % 262144) (w : World) :
    Calls Try.prog 26 #[.int .u32 v] w fun e w' => e = .returned (decRes (goodB op (v / 4194304 % 16) (0) (0) (v % 262144 - 262144) v) op (v / 4194304 % 16) (0) (0) (v % 262144 - 262144)) ∧ Below w.heap.size w w' := by
  have hop0 : 0 ≤ op := by omega
  obtain ⟨rA, hA⟩ : ∃ x, v / 4194304 % 16 = x := ⟨_, rfl⟩
  obtain ⟨rM, hM⟩ : ∃ x, v % 262144 = x := ⟨_, rfl⟩
  have hm0 : 0 ≤ rM := by omega
  have hm1 : rM < 262144 := by omega
  rw [hM] at ks
  have ha0 : 0 ≤ rA := by omega
  have ha1 : rA ≤ 15 := by omega
  rw [hA]
  rw [hM]
  have hf := fun W => format_any op hop0 (by omega) W
  rw [decide_eq_true hop1] at hf
  have Hf := Lib.hid hf
  have hrv := fun W => ref_valid_any (op) (rA) (0) (0) (rM - 262144) hop0 (by omega) W
  clear hf
  cases hv : validB (op) (rA) (0) (0) (rM - 262144)
  · rw [hv] at hrv
    have Hrv := Lib.hid hrv
    have Hv := Lib.hid hv
    clear hrv hv
    go_enter Try.func26, Try.ntmps26
    go_wp2_with fail
    refine (Hf.out _).mono ?_
    rintro e w1 ⟨rfl, hb1⟩
    have Z1 := Lib.hid ((ZF.mk (by simp) (by show (w.heap.push _)[w.heap.size]? = _; simp) : ZF w.heap.size (w.alloc (.cells #[.int .u8 0, .int .i64 0, .int .i64 0, .int .i64 0, .int .i64 0] 23))).step hb1)
    have B1 := Lib.hid (below_next (below_new (Below.refl w.heap.size w) _) hb1)
    have Z1lt := Z1.out.lt
    clear hb1
    go_wp2_with fail
    have X1 := Lib.hid (IF.newAt (op) (rA) (0) (0) (rM - 262144) w1 w1.heap.size rfl)
    have B1' := Lib.hid (below_new B1.out (.cells #[.int .u8 op, .int .i64 (rA), .int .i64 (0), .int .i64 (0), .int .i64 (rM - 262144)] 23))
    have Z1' := Lib.hid (Z1.out.step ((Below.refl _ _).alloc (Nat.le_refl _) (.cells #[.int .u8 op, .int .i64 (rA), .int .i64 (0), .int .i64 (0), .int .i64 (rM - 262144)] 23)))
    refine (Hrv.out _).mono ?_
    rintro e w2 ⟨rfl, hb2⟩
    have X2 := Lib.hid (X1.out.step hb2)
    have B2 := Lib.hid (below_next B1'.out hb2)
    have Z2 := Lib.hid (Z1'.out.step hb2)
    clear hb2
    have X2_lt := X2.out.lt
    have X2_i0 := X2.out.i0
    have X2_i1 := X2.out.i1
    have X2_i2 := X2.out.i2
    have X2_i3 := X2.out.i3
    have X2_i4 := X2.out.i4
    have z_lt := Z2.out.lt
    have z0 : w2.cell? ⟨w.heap.size, 0, none⟩ = some (.int .u8 0) := blk_cell Z2.out.blk 0
    have z1 : w2.cell? ⟨w.heap.size, 1, none⟩ = some (.int .i64 0) := blk_cell Z2.out.blk 1
    have z2 : w2.cell? ⟨w.heap.size, 2, none⟩ = some (.int .i64 0) := blk_cell Z2.out.blk 2
    have z3 : w2.cell? ⟨w.heap.size, 3, none⟩ = some (.int .i64 0) := blk_cell Z2.out.blk 3
    have z4 : w2.cell? ⟨w.heap.size, 4, none⟩ = some (.int .i64 0) := blk_cell Z2.out.blk 4
    have zf0 := blk_frozen Z2.out.blk 0
    have zf1 := blk_frozen Z2.out.blk 1
    have zf2 := blk_frozen Z2.out.blk 2
    have zf3 := blk_frozen Z2.out.blk 3
    have zf4 := blk_frozen Z2.out.blk 4
    go_wp2_with fail
    refine bodyPost_ret (v := .tuple #[.agg #[.int .u8 0, .int .i64 0, .int .i64 0, .int .i64 0, .int .i64 0], .bool false]) (by simp [results, Try.results26, go_sem, z0, z1, z2, z3, z4, zf0, zf1, zf2, zf3, zf4]) rfl ⟨by unfold decRes goodB; rw [Hv.out]; rfl, ?_⟩
    exact ((((B2.out.setCell (Nat.le_refl _) _).setCell (Nat.le_refl _) _).setCell (Nat.le_refl _) _).setCell (Nat.le_refl _) _).setCell (Nat.le_refl _) _
  · rw [hv] at hrv
    have Hrv := Lib.hid hrv
    have hre := fun W => ref_encode_any (op) (rA) (0) (0) (rM - 262144) hop0 hv W
    obtain ⟨ev, hev⟩ : ∃ ev, encE (op) (rA) (0) (0) (rM - 262144) = ev := ⟨_, rfl⟩
    rw [hev] at hre
    have Hre := Lib.hid hre
    have Hv := Lib.hid hv
    by_cases hw : ev = v
    · subst hw
      have Hw := Lib.hid hev
      clear hrv hv hre hev
      go_enter Try.func26, Try.ntmps26
      go_wp2_with fail
      refine (Hf.out _).mono ?_
      rintro e w1 ⟨rfl, hb1⟩
      have Z1 := Lib.hid ((ZF.mk (by simp) (by show (w.heap.push _)[w.heap.size]? = _; simp) : ZF w.heap.size (w.alloc (.cells #[.int .u8 0, .int .i64 0, .int .i64 0, .int .i64 0, .int .i64 0] 23))).step hb1)
      have B1 := Lib.hid (below_next (below_new (Below.refl w.heap.size w) _) hb1)
      have Z1lt := Z1.out.lt
      clear hb1
      go_wp2_with fail
      have X1 := Lib.hid (IF.newAt (op) (rA) (0) (0) (rM - 262144) w1 w1.heap.size rfl)
      have B1' := Lib.hid (below_new B1.out (.cells #[.int .u8 op, .int .i64 (rA), .int .i64 (0), .int .i64 (0), .int .i64 (rM - 262144)] 23))
      have Z1' := Lib.hid (Z1.out.step ((Below.refl _ _).alloc (Nat.le_refl _) (.cells #[.int .u8 op, .int .i64 (rA), .int .i64 (0), .int .i64 (0), .int .i64 (rM - 262144)] 23)))
      refine (Hrv.out _).mono ?_
      rintro e w2 ⟨rfl, hb2⟩
      have X2 := Lib.hid (X1.out.step hb2)
      have B2 := Lib.hid (below_next B1'.out hb2)
      have Z2 := Lib.hid (Z1'.out.step hb2)
      clear hb2
      have X2_lt := X2.out.lt
      have X2_i0 := X2.out.i0
      have X2_i1 := X2.out.i1
      have X2_i2 := X2.out.i2
      have X2_i3 := X2.out.i3
      have X2_i4 := X2.out.i4
      go_wp2_with fail
      refine (Hre.out _).mono ?_
      rintro e w3 ⟨rfl, hb3⟩
      have X3 := Lib.hid (X2.out.step hb3)
      have B3 := Lib.hid (below_next B2.out hb3)
      have Z3 := Lib.hid (Z2.out.step hb3)
      clear hb3
      have X3_lt := X3.out.lt
      have X3_i0 := X3.out.i0
      have X3_i1 := X3.out.i1
      have X3_i2 := X3.out.i2
      have X3_i3 := X3.out.i3
      have X3_i4 := X3.out.i4
      have z_lt := Z3.out.lt
      have z0 : w3.cell? ⟨w.heap.size, 0, none⟩ = some (.int .u8 0) := blk_cell Z3.out.blk 0
      have z1 : w3.cell? ⟨w.heap.size, 1, none⟩ = some (.int .i64 0) := blk_cell Z3.out.blk 1
      have z2 : w3.cell? ⟨w.heap.size, 2, none⟩ = some (.int .i64 0) := blk_cell Z3.out.blk 2
      have z3 : w3.cell? ⟨w.heap.size, 3, none⟩ = some (.int .i64 0) := blk_cell Z3.out.blk 3
      have z4 : w3.cell? ⟨w.heap.size, 4, none⟩ = some (.int .i64 0) := blk_cell Z3.out.blk 4
      have zf0 := blk_frozen Z3.out.blk 0
      have zf1 := blk_frozen Z3.out.blk 1
      have zf2 := blk_frozen Z3.out.blk 2
      have zf3 := blk_frozen Z3.out.blk 3
      have zf4 := blk_frozen Z3.out.blk 4
      go_wp2_with fail
      refine bodyPost_ret (v := .tuple #[.agg #[.int .u8 op, .int .i64 (rA), .int .i64 (0), .int .i64 (0), .int .i64 (rM - 262144)], .bool true]) (by simp [results, Try.results26, go_sem, z0, z1, z2, z3, z4, zf0, zf1, zf2, zf3, zf4]) rfl ⟨by unfold decRes goodB; rw [Hv.out, Hw.out, decide_eq_true rfl]; rfl, ?_⟩
      exact ((((B3.out.setCell (Nat.le_refl _) _).setCell (Nat.le_refl _) _).setCell (Nat.le_refl _) _).setCell (Nat.le_refl _) _).setCell (Nat.le_refl _) _
    · have hne : (ev != v) = true := by simpa using hw
      have Hw := Lib.hid hev
      have Hne := Lib.hid hw
      clear hrv hv hre hev hw
      go_enter Try.func26, Try.ntmps26
      go_wp2_with fail
      refine (Hf.out _).mono ?_
      rintro e w1 ⟨rfl, hb1⟩
      have Z1 := Lib.hid ((ZF.mk (by simp) (by show (w.heap.push _)[w.heap.size]? = _; simp) : ZF w.heap.size (w.alloc (.cells #[.int .u8 0, .int .i64 0, .int .i64 0, .int .i64 0, .int .i64 0] 23))).step hb1)
      have B1 := Lib.hid (below_next (below_new (Below.refl w.heap.size w) _) hb1)
      have Z1lt := Z1.out.lt
      clear hb1
      go_wp2_with fail
      have X1 := Lib.hid (IF.newAt (op) (rA) (0) (0) (rM - 262144) w1 w1.heap.size rfl)
      have B1' := Lib.hid (below_new B1.out (.cells #[.int .u8 op, .int .i64 (rA), .int .i64 (0), .int .i64 (0), .int .i64 (rM - 262144)] 23))
      have Z1' := Lib.hid (Z1.out.step ((Below.refl _ _).alloc (Nat.le_refl _) (.cells #[.int .u8 op, .int .i64 (rA), .int .i64 (0), .int .i64 (0), .int .i64 (rM - 262144)] 23)))
      refine (Hrv.out _).mono ?_
      rintro e w2 ⟨rfl, hb2⟩
      have X2 := Lib.hid (X1.out.step hb2)
      have B2 := Lib.hid (below_next B1'.out hb2)
      have Z2 := Lib.hid (Z1'.out.step hb2)
      clear hb2
      have X2_lt := X2.out.lt
      have X2_i0 := X2.out.i0
      have X2_i1 := X2.out.i1
      have X2_i2 := X2.out.i2
      have X2_i3 := X2.out.i3
      have X2_i4 := X2.out.i4
      go_wp2_with fail
      refine (Hre.out _).mono ?_
      rintro e w3 ⟨rfl, hb3⟩
      have X3 := Lib.hid (X2.out.step hb3)
      have B3 := Lib.hid (below_next B2.out hb3)
      have Z3 := Lib.hid (Z2.out.step hb3)
      clear hb3
      have X3_lt := X3.out.lt
      have X3_i0 := X3.out.i0
      have X3_i1 := X3.out.i1
      have X3_i2 := X3.out.i2
      have X3_i3 := X3.out.i3
      have X3_i4 := X3.out.i4
      have z_lt := Z3.out.lt
      have z0 : w3.cell? ⟨w.heap.size, 0, none⟩ = some (.int .u8 0) := blk_cell Z3.out.blk 0
      have z1 : w3.cell? ⟨w.heap.size, 1, none⟩ = some (.int .i64 0) := blk_cell Z3.out.blk 1
      have z2 : w3.cell? ⟨w.heap.size, 2, none⟩ = some (.int .i64 0) := blk_cell Z3.out.blk 2
      have z3 : w3.cell? ⟨w.heap.size, 3, none⟩ = some (.int .i64 0) := blk_cell Z3.out.blk 3
      have z4 : w3.cell? ⟨w.heap.size, 4, none⟩ = some (.int .i64 0) := blk_cell Z3.out.blk 4
      have zf0 := blk_frozen Z3.out.blk 0
      have zf1 := blk_frozen Z3.out.blk 1
      have zf2 := blk_frozen Z3.out.blk 2
      have zf3 := blk_frozen Z3.out.blk 3
      have zf4 := blk_frozen Z3.out.blk 4
      go_wp2_with fail
      refine bodyPost_ret (v := .tuple #[.agg #[.int .u8 0, .int .i64 0, .int .i64 0, .int .i64 0, .int .i64 0], .bool false]) (by simp [results, Try.results26, go_sem, z0, z1, z2, z3, z4, zf0, zf1, zf2, zf3, zf4]) rfl ⟨by unfold decRes goodB; rw [Hv.out, Hw.out, decide_eq_false Hne.out]; rfl, ?_⟩
      exact ((((B3.out.setCell (Nat.le_refl _) _).setCell (Nat.le_refl _) _).setCell (Nat.le_refl _) _).setCell (Nat.le_refl _) _).setCell (Nat.le_refl _) _

set_option maxRecDepth 100000 in
set_option maxHeartbeats 4000000 in
theorem rdec_bp (v op : Int) (h0 : 0 ≤ v) (h1 : v < 4294967296) (hop : v / 67108864 = op) (hop1 : op < 30) (k1 : decide ((1 : Int) < ((fS op).size : Int)) = true) (k2 : decide ((2 : Int) < ((fS op).size : Int)) = false) (k3 : fLo op ≤ fHi op) (ks : v % 262144 ≤ 131071) (w : World) :
    Calls Try.prog 26 #[.int .u32 v] w fun e w' => e = .returned (decRes (goodB op (v / 4194304 % 16) (v / 262144 % 16) (0) (v % 262144) v) op (v / 4194304 % 16) (v / 262144 % 16) (0) (v % 262144)) ∧ Below w.heap.size w w' := by
  have hop0 : 0 ≤ op := by omega
  obtain ⟨rA, hA⟩ : ∃ x, v / 4194304 % 16 = x := ⟨_, rfl⟩
  obtain ⟨rB, hB⟩ : ∃ x, v / 262144 % 16 = x := ⟨_, rfl⟩
  obtain ⟨rM, hM⟩ : ∃ x, v % 262144 = x := ⟨_, rfl⟩
  have hm0 : 0 ≤ rM := by omega
  have hm1 : rM < 262144 := by omega
  rw [hM] at ks
  have ha0 : 0 ≤ rA := by omega
  have ha1 : rA ≤ 15 := by omega
  have hb0 : 0 ≤ rB := by omega
  have hb1 : rB ≤ 15 := by omega
  rw [hA]
  rw [hB]
  rw [hM]
  have hf := fun W => format_any op hop0 (by omega) W
  rw [decide_eq_true hop1] at hf
  have Hf := Lib.hid hf
  have hrv := fun W => ref_valid_any (op) (rA) (rB) (0) (rM) hop0 (by omega) W
  clear hf
  cases hv : validB (op) (rA) (rB) (0) (rM)
  · rw [hv] at hrv
    have Hrv := Lib.hid hrv
    have Hv := Lib.hid hv
    clear hrv hv
    go_enter Try.func26, Try.ntmps26
    go_wp2_with fail
    refine (Hf.out _).mono ?_
    rintro e w1 ⟨rfl, hb1⟩
    have Z1 := Lib.hid ((ZF.mk (by simp) (by show (w.heap.push _)[w.heap.size]? = _; simp) : ZF w.heap.size (w.alloc (.cells #[.int .u8 0, .int .i64 0, .int .i64 0, .int .i64 0, .int .i64 0] 23))).step hb1)
    have B1 := Lib.hid (below_next (below_new (Below.refl w.heap.size w) _) hb1)
    have Z1lt := Z1.out.lt
    clear hb1
    go_wp2_with fail
    have X1 := Lib.hid (IF.newAt (op) (rA) (rB) (0) (rM) w1 w1.heap.size rfl)
    have B1' := Lib.hid (below_new B1.out (.cells #[.int .u8 op, .int .i64 (rA), .int .i64 (rB), .int .i64 (0), .int .i64 (rM)] 23))
    have Z1' := Lib.hid (Z1.out.step ((Below.refl _ _).alloc (Nat.le_refl _) (.cells #[.int .u8 op, .int .i64 (rA), .int .i64 (rB), .int .i64 (0), .int .i64 (rM)] 23)))
    refine (Hrv.out _).mono ?_
    rintro e w2 ⟨rfl, hb2⟩
    have X2 := Lib.hid (X1.out.step hb2)
    have B2 := Lib.hid (below_next B1'.out hb2)
    have Z2 := Lib.hid (Z1'.out.step hb2)
    clear hb2
    have X2_lt := X2.out.lt
    have X2_i0 := X2.out.i0
    have X2_i1 := X2.out.i1
    have X2_i2 := X2.out.i2
    have X2_i3 := X2.out.i3
    have X2_i4 := X2.out.i4
    have z_lt := Z2.out.lt
    have z0 : w2.cell? ⟨w.heap.size, 0, none⟩ = some (.int .u8 0) := blk_cell Z2.out.blk 0
    have z1 : w2.cell? ⟨w.heap.size, 1, none⟩ = some (.int .i64 0) := blk_cell Z2.out.blk 1
    have z2 : w2.cell? ⟨w.heap.size, 2, none⟩ = some (.int .i64 0) := blk_cell Z2.out.blk 2
    have z3 : w2.cell? ⟨w.heap.size, 3, none⟩ = some (.int .i64 0) := blk_cell Z2.out.blk 3
    have z4 : w2.cell? ⟨w.heap.size, 4, none⟩ = some (.int .i64 0) := blk_cell Z2.out.blk 4
    have zf0 := blk_frozen Z2.out.blk 0
    have zf1 := blk_frozen Z2.out.blk 1
    have zf2 := blk_frozen Z2.out.blk 2
    have zf3 := blk_frozen Z2.out.blk 3
    have zf4 := blk_frozen Z2.out.blk 4
    go_wp2_with fail
    refine bodyPost_ret (v := .tuple #[.agg #[.int .u8 0, .int .i64 0, .int .i64 0, .int .i64 0, .int .i64 0], .bool false]) (by simp [results, Try.results26, go_sem, z0, z1, z2, z3, z4, zf0, zf1, zf2, zf3, zf4]) rfl ⟨by unfold decRes goodB; rw [Hv.out]; rfl, ?_⟩
    exact ((((B2.out.setCell (Nat.le_refl _) _).setCell (Nat.le_refl _) _).setCell (Nat.le_refl _) _).setCell (Nat.le_refl _) _).setCell (Nat.le_refl _) _
  · rw [hv] at hrv
    have Hrv := Lib.hid hrv
    have hre := fun W => ref_encode_any (op) (rA) (rB) (0) (rM) hop0 hv W
    obtain ⟨ev, hev⟩ : ∃ ev, encE (op) (rA) (rB) (0) (rM) = ev := ⟨_, rfl⟩
    rw [hev] at hre
    have Hre := Lib.hid hre
    have Hv := Lib.hid hv
    by_cases hw : ev = v
    · subst hw
      have Hw := Lib.hid hev
      clear hrv hv hre hev
      go_enter Try.func26, Try.ntmps26
      go_wp2_with fail
      refine (Hf.out _).mono ?_
      rintro e w1 ⟨rfl, hb1⟩
      have Z1 := Lib.hid ((ZF.mk (by simp) (by show (w.heap.push _)[w.heap.size]? = _; simp) : ZF w.heap.size (w.alloc (.cells #[.int .u8 0, .int .i64 0, .int .i64 0, .int .i64 0, .int .i64 0] 23))).step hb1)
      have B1 := Lib.hid (below_next (below_new (Below.refl w.heap.size w) _) hb1)
      have Z1lt := Z1.out.lt
      clear hb1
      go_wp2_with fail
      have X1 := Lib.hid (IF.newAt (op) (rA) (rB) (0) (rM) w1 w1.heap.size rfl)
      have B1' := Lib.hid (below_new B1.out (.cells #[.int .u8 op, .int .i64 (rA), .int .i64 (rB), .int .i64 (0), .int .i64 (rM)] 23))
      have Z1' := Lib.hid (Z1.out.step ((Below.refl _ _).alloc (Nat.le_refl _) (.cells #[.int .u8 op, .int .i64 (rA), .int .i64 (rB), .int .i64 (0), .int .i64 (rM)] 23)))
      refine (Hrv.out _).mono ?_
      rintro e w2 ⟨rfl, hb2⟩
      have X2 := Lib.hid (X1.out.step hb2)
      have B2 := Lib.hid (below_next B1'.out hb2)
      have Z2 := Lib.hid (Z1'.out.step hb2)
      clear hb2
      have X2_lt := X2.out.lt
      have X2_i0 := X2.out.i0
      have X2_i1 := X2.out.i1
      have X2_i2 := X2.out.i2
      have X2_i3 := X2.out.i3
      have X2_i4 := X2.out.i4
      go_wp2_with fail
      refine (Hre.out _).mono ?_
      rintro e w3 ⟨rfl, hb3⟩
      have X3 := Lib.hid (X2.out.step hb3)
      have B3 := Lib.hid (below_next B2.out hb3)
      have Z3 := Lib.hid (Z2.out.step hb3)
      clear hb3
      have X3_lt := X3.out.lt
      have X3_i0 := X3.out.i0
      have X3_i1 := X3.out.i1
      have X3_i2 := X3.out.i2
      have X3_i3 := X3.out.i3
      have X3_i4 := X3.out.i4
      have z_lt := Z3.out.lt
      have z0 : w3.cell? ⟨w.heap.size, 0, none⟩ = some (.int .u8 0) := blk_cell Z3.out.blk 0
      have z1 : w3.cell? ⟨w.heap.size, 1, none⟩ = some (.int .i64 0) := blk_cell Z3.out.blk 1
      have z2 : w3.cell? ⟨w.heap.size, 2, none⟩ = some (.int .i64 0) := blk_cell Z3.out.blk 2
      have z3 : w3.cell? ⟨w.heap.size, 3, none⟩ = some (.int .i64 0) := blk_cell Z3.out.blk 3
      have z4 : w3.cell? ⟨w.heap.size, 4, none⟩ = some (.int .i64 0) := blk_cell Z3.out.blk 4
      have zf0 := blk_frozen Z3.out.blk 0
      have zf1 := blk_frozen Z3.out.blk 1
      have zf2 := blk_frozen Z3.out.blk 2
      have zf3 := blk_frozen Z3.out.blk 3
      have zf4 := blk_frozen Z3.out.blk 4
      go_wp2_with fail
      refine bodyPost_ret (v := .tuple #[.agg #[.int .u8 op, .int .i64 (rA), .int .i64 (rB), .int .i64 (0), .int .i64 (rM)], .bool true]) (by simp [results, Try.results26, go_sem, z0, z1, z2, z3, z4, zf0, zf1, zf2, zf3, zf4]) rfl ⟨by unfold decRes goodB; rw [Hv.out, Hw.out, decide_eq_true rfl]; rfl, ?_⟩
      exact ((((B3.out.setCell (Nat.le_refl _) _).setCell (Nat.le_refl _) _).setCell (Nat.le_refl _) _).setCell (Nat.le_refl _) _).setCell (Nat.le_refl _) _
    · have hne : (ev != v) = true := by simpa using hw
      have Hw := Lib.hid hev
      have Hne := Lib.hid hw
      clear hrv hv hre hev hw
      go_enter Try.func26, Try.ntmps26
      go_wp2_with fail
      refine (Hf.out _).mono ?_
      rintro e w1 ⟨rfl, hb1⟩
      have Z1 := Lib.hid ((ZF.mk (by simp) (by show (w.heap.push _)[w.heap.size]? = _; simp) : ZF w.heap.size (w.alloc (.cells #[.int .u8 0, .int .i64 0, .int .i64 0, .int .i64 0, .int .i64 0] 23))).step hb1)
      have B1 := Lib.hid (below_next (below_new (Below.refl w.heap.size w) _) hb1)
      have Z1lt := Z1.out.lt
      clear hb1
      go_wp2_with fail
      have X1 := Lib.hid (IF.newAt (op) (rA) (rB) (0) (rM) w1 w1.heap.size rfl)
      have B1' := Lib.hid (below_new B1.out (.cells #[.int .u8 op, .int .i64 (rA), .int .i64 (rB), .int .i64 (0), .int .i64 (rM)] 23))
      have Z1' := Lib.hid (Z1.out.step ((Below.refl _ _).alloc (Nat.le_refl _) (.cells #[.int .u8 op, .int .i64 (rA), .int .i64 (rB), .int .i64 (0), .int .i64 (rM)] 23)))
      refine (Hrv.out _).mono ?_
      rintro e w2 ⟨rfl, hb2⟩
      have X2 := Lib.hid (X1.out.step hb2)
      have B2 := Lib.hid (below_next B1'.out hb2)
      have Z2 := Lib.hid (Z1'.out.step hb2)
      clear hb2
      have X2_lt := X2.out.lt
      have X2_i0 := X2.out.i0
      have X2_i1 := X2.out.i1
      have X2_i2 := X2.out.i2
      have X2_i3 := X2.out.i3
      have X2_i4 := X2.out.i4
      go_wp2_with fail
      refine (Hre.out _).mono ?_
      rintro e w3 ⟨rfl, hb3⟩
      have X3 := Lib.hid (X2.out.step hb3)
      have B3 := Lib.hid (below_next B2.out hb3)
      have Z3 := Lib.hid (Z2.out.step hb3)
      clear hb3
      have X3_lt := X3.out.lt
      have X3_i0 := X3.out.i0
      have X3_i1 := X3.out.i1
      have X3_i2 := X3.out.i2
      have X3_i3 := X3.out.i3
      have X3_i4 := X3.out.i4
      have z_lt := Z3.out.lt
      have z0 : w3.cell? ⟨w.heap.size, 0, none⟩ = some (.int .u8 0) := blk_cell Z3.out.blk 0
      have z1 : w3.cell? ⟨w.heap.size, 1, none⟩ = some (.int .i64 0) := blk_cell Z3.out.blk 1
      have z2 : w3.cell? ⟨w.heap.size, 2, none⟩ = some (.int .i64 0) := blk_cell Z3.out.blk 2
      have z3 : w3.cell? ⟨w.heap.size, 3, none⟩ = some (.int .i64 0) := blk_cell Z3.out.blk 3
      have z4 : w3.cell? ⟨w.heap.size, 4, none⟩ = some (.int .i64 0) := blk_cell Z3.out.blk 4
      have zf0 := blk_frozen Z3.out.blk 0
      have zf1 := blk_frozen Z3.out.blk 1
      have zf2 := blk_frozen Z3.out.blk 2
      have zf3 := blk_frozen Z3.out.blk 3
      have zf4 := blk_frozen Z3.out.blk 4
      go_wp2_with fail
      refine bodyPost_ret (v := .tuple #[.agg #[.int .u8 0, .int .i64 0, .int .i64 0, .int .i64 0, .int .i64 0], .bool false]) (by simp [results, Try.results26, go_sem, z0, z1, z2, z3, z4, zf0, zf1, zf2, zf3, zf4]) rfl ⟨by unfold decRes goodB; rw [Hv.out, Hw.out, decide_eq_false Hne.out]; rfl, ?_⟩
      exact ((((B3.out.setCell (Nat.le_refl _) _).setCell (Nat.le_refl _) _).setCell (Nat.le_refl _) _).setCell (Nat.le_refl _) _).setCell (Nat.le_refl _) _

set_option maxRecDepth 100000 in
set_option maxHeartbeats 4000000 in
theorem rdec_bn (v op : Int) (h0 : 0 ≤ v) (h1 : v < 4294967296) (hop : v / 67108864 = op) (hop1 : op < 30) (k1 : decide ((1 : Int) < ((fS op).size : Int)) = true) (k2 : decide ((2 : Int) < ((fS op).size : Int)) = false) (k3 : fLo op ≤ fHi op) (ks : 131071 < v % 262144) (w : World) :
    Calls Try.prog 26 #[.int .u32 v] w fun e w' => e = .returned (decRes (goodB op (v / 4194304 % 16) (v / 262144 % 16) (0) (v % 262144 - 262144) v) op (v / 4194304 % 16) (v / 262144 % 16) (0) (v % 262144 - 262144)) ∧ Below w.heap.size w w' := by
  have hop0 : 0 ≤ op := by omega
  obtain ⟨rA, hA⟩ : ∃ x, v / 4194304 % 16 = x := ⟨_, rfl⟩
  obtain ⟨rB, hB⟩ : ∃ x, v / 262144 % 16 = x := ⟨_, rfl⟩
  obtain ⟨rM, hM⟩ : ∃ x, v % 262144 = x := ⟨_, rfl⟩
  have hm0 : 0 ≤ rM := by omega
  have hm1 : rM < 262144 := by omega
  rw [hM] at ks
  have ha0 : 0 ≤ rA := by omega
  have ha1 : rA ≤ 15 := by omega
  have hb0 : 0 ≤ rB := by omega
  have hb1 : rB ≤ 15 := by omega
  rw [hA]
  rw [hB]
  rw [hM]
  have hf := fun W => format_any op hop0 (by omega) W
  rw [decide_eq_true hop1] at hf
  have Hf := Lib.hid hf
  have hrv := fun W => ref_valid_any (op) (rA) (rB) (0) (rM - 262144) hop0 (by omega) W
  clear hf
  cases hv : validB (op) (rA) (rB) (0) (rM - 262144)
  · rw [hv] at hrv
    have Hrv := Lib.hid hrv
    have Hv := Lib.hid hv
    clear hrv hv
    go_enter Try.func26, Try.ntmps26
    go_wp2_with fail
    refine (Hf.out _).mono ?_
    rintro e w1 ⟨rfl, hb1⟩
    have Z1 := Lib.hid ((ZF.mk (by simp) (by show (w.heap.push _)[w.heap.size]? = _; simp) : ZF w.heap.size (w.alloc (.cells #[.int .u8 0, .int .i64 0, .int .i64 0, .int .i64 0, .int .i64 0] 23))).step hb1)
    have B1 := Lib.hid (below_next (below_new (Below.refl w.heap.size w) _) hb1)
    have Z1lt := Z1.out.lt
    clear hb1
    go_wp2_with fail
    have X1 := Lib.hid (IF.newAt (op) (rA) (rB) (0) (rM - 262144) w1 w1.heap.size rfl)
    have B1' := Lib.hid (below_new B1.out (.cells #[.int .u8 op, .int .i64 (rA), .int .i64 (rB), .int .i64 (0), .int .i64 (rM - 262144)] 23))
    have Z1' := Lib.hid (Z1.out.step ((Below.refl _ _).alloc (Nat.le_refl _) (.cells #[.int .u8 op, .int .i64 (rA), .int .i64 (rB), .int .i64 (0), .int .i64 (rM - 262144)] 23)))
    refine (Hrv.out _).mono ?_
    rintro e w2 ⟨rfl, hb2⟩
    have X2 := Lib.hid (X1.out.step hb2)
    have B2 := Lib.hid (below_next B1'.out hb2)
    have Z2 := Lib.hid (Z1'.out.step hb2)
    clear hb2
    have X2_lt := X2.out.lt
    have X2_i0 := X2.out.i0
    have X2_i1 := X2.out.i1
    have X2_i2 := X2.out.i2
    have X2_i3 := X2.out.i3
    have X2_i4 := X2.out.i4
    have z_lt := Z2.out.lt
    have z0 : w2.cell? ⟨w.heap.size, 0, none⟩ = some (.int .u8 0) := blk_cell Z2.out.blk 0
    have z1 : w2.cell? ⟨w.heap.size, 1, none⟩ = some (.int .i64 0) := blk_cell Z2.out.blk 1
    have z2 : w2.cell? ⟨w.heap.size, 2, none⟩ = some (.int .i64 0) := blk_cell Z2.out.blk 2
    have z3 : w2.cell? ⟨w.heap.size, 3, none⟩ = some (.int .i64 0) := blk_cell Z2.out.blk 3
    have z4 : w2.cell? ⟨w.heap.size, 4, none⟩ = some (.int .i64 0) := blk_cell Z2.out.blk 4
    have zf0 := blk_frozen Z2.out.blk 0
    have zf1 := blk_frozen Z2.out.blk 1
    have zf2 := blk_frozen Z2.out.blk 2
    have zf3 := blk_frozen Z2.out.blk 3
    have zf4 := blk_frozen Z2.out.blk 4
    go_wp2_with fail
    refine bodyPost_ret (v := .tuple #[.agg #[.int .u8 0, .int .i64 0, .int .i64 0, .int .i64 0, .int .i64 0], .bool false]) (by simp [results, Try.results26, go_sem, z0, z1, z2, z3, z4, zf0, zf1, zf2, zf3, zf4]) rfl ⟨by unfold decRes goodB; rw [Hv.out]; rfl, ?_⟩
    exact ((((B2.out.setCell (Nat.le_refl _) _).setCell (Nat.le_refl _) _).setCell (Nat.le_refl _) _).setCell (Nat.le_refl _) _).setCell (Nat.le_refl _) _
  · rw [hv] at hrv
    have Hrv := Lib.hid hrv
    have hre := fun W => ref_encode_any (op) (rA) (rB) (0) (rM - 262144) hop0 hv W
    obtain ⟨ev, hev⟩ : ∃ ev, encE (op) (rA) (rB) (0) (rM - 262144) = ev := ⟨_, rfl⟩
    rw [hev] at hre
    have Hre := Lib.hid hre
    have Hv := Lib.hid hv
    by_cases hw : ev = v
    · subst hw
      have Hw := Lib.hid hev
      clear hrv hv hre hev
      go_enter Try.func26, Try.ntmps26
      go_wp2_with fail
      refine (Hf.out _).mono ?_
      rintro e w1 ⟨rfl, hb1⟩
      have Z1 := Lib.hid ((ZF.mk (by simp) (by show (w.heap.push _)[w.heap.size]? = _; simp) : ZF w.heap.size (w.alloc (.cells #[.int .u8 0, .int .i64 0, .int .i64 0, .int .i64 0, .int .i64 0] 23))).step hb1)
      have B1 := Lib.hid (below_next (below_new (Below.refl w.heap.size w) _) hb1)
      have Z1lt := Z1.out.lt
      clear hb1
      go_wp2_with fail
      have X1 := Lib.hid (IF.newAt (op) (rA) (rB) (0) (rM - 262144) w1 w1.heap.size rfl)
      have B1' := Lib.hid (below_new B1.out (.cells #[.int .u8 op, .int .i64 (rA), .int .i64 (rB), .int .i64 (0), .int .i64 (rM - 262144)] 23))
      have Z1' := Lib.hid (Z1.out.step ((Below.refl _ _).alloc (Nat.le_refl _) (.cells #[.int .u8 op, .int .i64 (rA), .int .i64 (rB), .int .i64 (0), .int .i64 (rM - 262144)] 23)))
      refine (Hrv.out _).mono ?_
      rintro e w2 ⟨rfl, hb2⟩
      have X2 := Lib.hid (X1.out.step hb2)
      have B2 := Lib.hid (below_next B1'.out hb2)
      have Z2 := Lib.hid (Z1'.out.step hb2)
      clear hb2
      have X2_lt := X2.out.lt
      have X2_i0 := X2.out.i0
      have X2_i1 := X2.out.i1
      have X2_i2 := X2.out.i2
      have X2_i3 := X2.out.i3
      have X2_i4 := X2.out.i4
      go_wp2_with fail
      refine (Hre.out _).mono ?_
      rintro e w3 ⟨rfl, hb3⟩
      have X3 := Lib.hid (X2.out.step hb3)
      have B3 := Lib.hid (below_next B2.out hb3)
      have Z3 := Lib.hid (Z2.out.step hb3)
      clear hb3
      have X3_lt := X3.out.lt
      have X3_i0 := X3.out.i0
      have X3_i1 := X3.out.i1
      have X3_i2 := X3.out.i2
      have X3_i3 := X3.out.i3
      have X3_i4 := X3.out.i4
      have z_lt := Z3.out.lt
      have z0 : w3.cell? ⟨w.heap.size, 0, none⟩ = some (.int .u8 0) := blk_cell Z3.out.blk 0
      have z1 : w3.cell? ⟨w.heap.size, 1, none⟩ = some (.int .i64 0) := blk_cell Z3.out.blk 1
      have z2 : w3.cell? ⟨w.heap.size, 2, none⟩ = some (.int .i64 0) := blk_cell Z3.out.blk 2
      have z3 : w3.cell? ⟨w.heap.size, 3, none⟩ = some (.int .i64 0) := blk_cell Z3.out.blk 3
      have z4 : w3.cell? ⟨w.heap.size, 4, none⟩ = some (.int .i64 0) := blk_cell Z3.out.blk 4
      have zf0 := blk_frozen Z3.out.blk 0
      have zf1 := blk_frozen Z3.out.blk 1
      have zf2 := blk_frozen Z3.out.blk 2
      have zf3 := blk_frozen Z3.out.blk 3
      have zf4 := blk_frozen Z3.out.blk 4
      go_wp2_with fail
      refine bodyPost_ret (v := .tuple #[.agg #[.int .u8 op, .int .i64 (rA), .int .i64 (rB), .int .i64 (0), .int .i64 (rM - 262144)], .bool true]) (by simp [results, Try.results26, go_sem, z0, z1, z2, z3, z4, zf0, zf1, zf2, zf3, zf4]) rfl ⟨by unfold decRes goodB; rw [Hv.out, Hw.out, decide_eq_true rfl]; rfl, ?_⟩
      exact ((((B3.out.setCell (Nat.le_refl _) _).setCell (Nat.le_refl _) _).setCell (Nat.le_refl _) _).setCell (Nat.le_refl _) _).setCell (Nat.le_refl _) _
    · have hne : (ev != v) = true := by simpa using hw
      have Hw := Lib.hid hev
      have Hne := Lib.hid hw
      clear hrv hv hre hev hw
      go_enter Try.func26, Try.ntmps26
      go_wp2_with fail
      refine (Hf.out _).mono ?_
      rintro e w1 ⟨rfl, hb1⟩
      have Z1 := Lib.hid ((ZF.mk (by simp) (by show (w.heap.push _)[w.heap.size]? = _; simp) : ZF w.heap.size (w.alloc (.cells #[.int .u8 0, .int .i64 0, .int .i64 0, .int .i64 0, .int .i64 0] 23))).step hb1)
      have B1 := Lib.hid (below_next (below_new (Below.refl w.heap.size w) _) hb1)
      have Z1lt := Z1.out.lt
      clear hb1
      go_wp2_with fail
      have X1 := Lib.hid (IF.newAt (op) (rA) (rB) (0) (rM - 262144) w1 w1.heap.size rfl)
      have B1' := Lib.hid (below_new B1.out (.cells #[.int .u8 op, .int .i64 (rA), .int .i64 (rB), .int .i64 (0), .int .i64 (rM - 262144)] 23))
      have Z1' := Lib.hid (Z1.out.step ((Below.refl _ _).alloc (Nat.le_refl _) (.cells #[.int .u8 op, .int .i64 (rA), .int .i64 (rB), .int .i64 (0), .int .i64 (rM - 262144)] 23)))
      refine (Hrv.out _).mono ?_
      rintro e w2 ⟨rfl, hb2⟩
      have X2 := Lib.hid (X1.out.step hb2)
      have B2 := Lib.hid (below_next B1'.out hb2)
      have Z2 := Lib.hid (Z1'.out.step hb2)
      clear hb2
      have X2_lt := X2.out.lt
      have X2_i0 := X2.out.i0
      have X2_i1 := X2.out.i1
      have X2_i2 := X2.out.i2
      have X2_i3 := X2.out.i3
      have X2_i4 := X2.out.i4
      go_wp2_with fail
      refine (Hre.out _).mono ?_
      rintro e w3 ⟨rfl, hb3⟩
      have X3 := Lib.hid (X2.out.step hb3)
      have B3 := Lib.hid (below_next B2.out hb3)
      have Z3 := Lib.hid (Z2.out.step hb3)
      clear hb3
      have X3_lt := X3.out.lt
      have X3_i0 := X3.out.i0
      have X3_i1 := X3.out.i1
      have X3_i2 := X3.out.i2
      have X3_i3 := X3.out.i3
      have X3_i4 := X3.out.i4
      have z_lt := Z3.out.lt
      have z0 : w3.cell? ⟨w.heap.size, 0, none⟩ = some (.int .u8 0) := blk_cell Z3.out.blk 0
      have z1 : w3.cell? ⟨w.heap.size, 1, none⟩ = some (.int .i64 0) := blk_cell Z3.out.blk 1
      have z2 : w3.cell? ⟨w.heap.size, 2, none⟩ = some (.int .i64 0) := blk_cell Z3.out.blk 2
      have z3 : w3.cell? ⟨w.heap.size, 3, none⟩ = some (.int .i64 0) := blk_cell Z3.out.blk 3
      have z4 : w3.cell? ⟨w.heap.size, 4, none⟩ = some (.int .i64 0) := blk_cell Z3.out.blk 4
      have zf0 := blk_frozen Z3.out.blk 0
      have zf1 := blk_frozen Z3.out.blk 1
      have zf2 := blk_frozen Z3.out.blk 2
      have zf3 := blk_frozen Z3.out.blk 3
      have zf4 := blk_frozen Z3.out.blk 4
      go_wp2_with fail
      refine bodyPost_ret (v := .tuple #[.agg #[.int .u8 0, .int .i64 0, .int .i64 0, .int .i64 0, .int .i64 0], .bool false]) (by simp [results, Try.results26, go_sem, z0, z1, z2, z3, z4, zf0, zf1, zf2, zf3, zf4]) rfl ⟨by unfold decRes goodB; rw [Hv.out, Hw.out, decide_eq_false Hne.out]; rfl, ?_⟩
      exact ((((B3.out.setCell (Nat.le_refl _) _).setCell (Nat.le_refl _) _).setCell (Nat.le_refl _) _).setCell (Nat.le_refl _) _).setCell (Nat.le_refl _) _
end Go.Proofs.Ytgjpenhfechhcaa
