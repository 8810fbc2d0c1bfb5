/- The contracts of the reference of layer 4: Format, reg, Valid and Encode; Valid agrees with isa.Valid, Encode with the encoding of a valid instruction. -/
import Derived.Test.YtgjpenhfechhcaaIF
import Derived.Test.YtgjpenhfechhcaaPIsaDecodesx2
namespace Go.Proofs.Ytgjpenhfechhcaa
open Go.RowKit Go.Proofs.YtgjpenhfechhcaaW.PrintWords Go.Proofs.YtgjpenhfechhcaaW.PrintLast Go.Proofs.YtgjpenhfechhcaaW.PrintMore
open PIsaDecodes

theorem ret_int {k : IntKind} {a b : Int} (h : a = b) : Ending.returned (.int k a) = .returned (.int k b) := by rw [h]
theorem ret_bool {a b : Bool} (h : a = b) : Ending.returned (.bool a) = .returned (.bool b) := by rw [h]
/-- what the reference's Format gives -/
def fmt (op : Int) : ByteArray × Int × Int × Bool := (ontimeref04_Format.f 8 op).getD (⟨#[]⟩, 1, 0, false)
def fS (op : Int) : ByteArray := (fmt op).1
def fLo (op : Int) : Int := (fmt op).2.1
def fHi (op : Int) : Int := (fmt op).2.2.1
theorem fmt_fin : ∀ n : Fin 256, (ontimeref04_Format.f 8 (n.1 : Int)).isSome = true ∧ (fmt (n.1 : Int)).2.2.2 = decide ((n.1 : Int) < 30) := by decide +kernel
theorem fmt_tells (op : Int) (h0 : 0 ≤ op) (h1 : op ≤ 255) : ontimeref04_Format.f 8 op = some (fS op, fLo op, fHi op, decide (op < 30)) := by
  obtain ⟨n, rfl⟩ := Int.eq_ofNat_of_zero_le h0
  obtain ⟨h, k⟩ := fmt_fin ⟨n, by omega⟩
  simp only at h k
  rw [← k]
  obtain ⟨x, hx⟩ := Option.isSome_iff_exists.1 h
  unfold fS fLo fHi fmt
  rw [hx]; rfl
theorem below_drawn0 {w w' : World} (h : Drawn0 w w') : Below w.heap.size w w' := h.below
theorem format_any (op : Int) (h0 : 0 ≤ op) (h1 : op ≤ 255) (w : World) :
    Calls Try.prog 54 #[.int .u8 op] w fun e w' => e = .returned (.tuple #[.string (fS op), .int .i64 (fLo op), .int .i64 (fHi op), .bool (decide (op < 30))]) ∧ Below w.heap.size w w' :=
  (ontimeref04_Format.calls 8 op _ _ _ _ w (fmt_tells op h0 h1)).mono fun _ _ h => ⟨h.1, h.2.below⟩

/-- how the reference's format stands to the row of the table -/
theorem fmt_row_fin : ∀ n : Fin 30, decide (0 < (fS (n.1 : Int)).size) = hasB (opnds (n.1 : Int)) 97 ∧ decide (1 < (fS (n.1 : Int)).size) = hasB (opnds (n.1 : Int)) 98 ∧ decide (2 < (fS (n.1 : Int)).size) = hasB (opnds (n.1 : Int)) 99 ∧
    decide (fLo (n.1 : Int) ≤ fHi (n.1 : Int)) = hasB (opnds (n.1 : Int)) 105 ∧ (hasB (opnds (n.1 : Int)) 105 = true → fLo (n.1 : Int) = (rowOf (n.1 : Int)).f2 ∧ fHi (n.1 : Int) = (rowOf (n.1 : Int)).f3) := by decide +kernel
theorem fmt_row (op : Int) (h0 : 0 ≤ op) (h1 : op < 30) : decide (0 < (fS op).size) = hasB (opnds op) 97 ∧ decide (1 < (fS op).size) = hasB (opnds op) 98 ∧ decide (2 < (fS op).size) = hasB (opnds op) 99 ∧
    decide (fLo op ≤ fHi op) = hasB (opnds op) 105 ∧ (hasB (opnds op) 105 = true → fLo op = (rowOf op).f2 ∧ fHi op = (rowOf op).f3) := by
  obtain ⟨n, rfl⟩ := Int.eq_ofNat_of_zero_le h0
  exact fmt_row_fin ⟨n, by omega⟩

theorem reg_tells (op ch x : Int) (hch : ch ≠ 105) : ontimeref04_reg.f x (hasB (opnds op) ch) = some (chk op ch x) := by
  unfold ontimeref04_reg.f chk lowOf highOf
  rw [decide_eq_false hch, if_neg hch]
  cases hasB (opnds op) ch
  · simp
    by_cases h : x = 0
    · simp [h]
    · have : (x == 0) = false := by simpa using h
      rw [this]; simp; omega
  · simp
    by_cases h : 0 ≤ x
    · simp [h]; omega
    · simp [h]
theorem reg_at (op ch x : Int) (hch : ch ≠ 105) (u v : Bool) (hu : hasB (opnds op) ch = u) (hv : chk op ch x = v) (w : World) :
    Calls Try.prog 55 #[.int .i64 x, .bool u] w fun e w' => e = .returned (.bool v) ∧ Below w.heap.size w w' := by
  subst hu hv
  exact (ontimeref04_reg.calls x _ _ w (reg_tells op ch x hch)).mono fun _ _ h => ⟨h.1, h.2.below⟩
theorem chk_imm_yes (op m : Int) (h0 : 0 ≤ op) (h1 : op < 30) (h : hasB (opnds op) 105 = true) : chk op 105 m = (decide (fLo op ≤ m) && decide (m ≤ fHi op)) := by
  obtain ⟨_, _, _, _, h5⟩ := fmt_row op h0 h1
  obtain ⟨e1, e2⟩ := h5 h
  unfold chk lowOf highOf
  rw [h, e1, e2]; rfl
theorem chk_imm_no (op m : Int) (h : hasB (opnds op) 105 = false) : chk op 105 m = (m == 0) := by
  unfold chk lowOf highOf
  rw [h]
  by_cases e : m = 0
  · simp [e]
  · have : (m == 0) = false := by simpa using e
    rw [this]; simp; omega

set_option maxRecDepth 100000 in
set_option maxHeartbeats 1000000 in
theorem ref_encode_any (op a b c m : Int) (h0 : 0 ≤ op) (hv : validB op a b c m = true) (w : World) :
    Calls Try.prog 24 #[.agg #[.int .u8 op, .int .i64 a, .int .i64 b, .int .i64 c, .int .i64 m]] w fun e w' => e = .returned (.int .u32 (encE op a b c m)) ∧ Below w.heap.size w w' := by
  obtain ⟨⟨⟨_, hop⟩, ⟨ha, ha'⟩, ⟨hb, hb'⟩, ⟨hc, hc'⟩, ⟨hm, hm'⟩⟩, _, _, zc, zm⟩ := okay h0 hv
  have hcm : c = 0 ∨ m = 0 := (not_both op h0 hop).elim (fun h => .inl (zc h)) (fun h => .inr (zm h))
  have hf := fun W => format_any op h0 (by omega) W
  rw [decide_eq_true hop] at hf
  have Hf := Lib.hid hf
  obtain ⟨_, _, _, k3, _⟩ := fmt_row op h0 hop
  have Hz := Lib.hid zm
  clear hf hv zc zm
  cases h5 : hasB (opnds op) 105
  · rw [h5] at k3
    have hlo : fHi op < fLo op := by have := of_decide_eq_false k3; omega
    have hm0 := Hz.out h5
    subst hm0
    clear k3 h5 Hz hcm
    go_enter Try.func24, Try.ntmps24
    go_wp2_with fail
    have XI0 := Lib.hid (IF.newAt (op) (a) (b) (c) (0) (w) (w.heap.size) (by simp))
    have BnI := Lib.hid (below_new (Below.refl w.heap.size w) (.cells #[.int .u8 (op), .int .i64 (a), .int .i64 (b), .int .i64 (c), .int .i64 (0)] 23))
    refine (Hf.out _).mono ?_
    rintro e w1 ⟨rfl, hb1⟩
    have B1 := Lib.hid (below_next BnI.out hb1)
    have XI1 := Lib.hid (XI0.out.step hb1)
    clear hb1
    have XI1_lt := XI1.out.lt
    have XI1_i0 := XI1.out.i0
    have XI1_i1 := XI1.out.i1
    have XI1_i2 := XI1.out.i2
    have XI1_i3 := XI1.out.i3
    have XI1_i4 := XI1.out.i4
    go_wp2_with fail
    go_ret
    exact ⟨ret_int (by unfold encE; omega), B1.out⟩
  · rw [h5] at k3
    have hlo : fLo op ≤ fHi op := of_decide_eq_true k3
    clear k3 h5 Hz
    by_cases hneg : m < 0
    · go_enter Try.func24, Try.ntmps24
      go_wp2_with fail
      have XI0 := Lib.hid (IF.newAt (op) (a) (b) (c) (m) (w) (w.heap.size) (by simp))
      have BnI := Lib.hid (below_new (Below.refl w.heap.size w) (.cells #[.int .u8 (op), .int .i64 (a), .int .i64 (b), .int .i64 (c), .int .i64 (m)] 23))
      refine (Hf.out _).mono ?_
      rintro e w1 ⟨rfl, hb1⟩
      have B1 := Lib.hid (below_next BnI.out hb1)
      have XI1 := Lib.hid (XI0.out.step hb1)
      clear hb1
      have XI1_lt := XI1.out.lt
      have XI1_i0 := XI1.out.i0
      have XI1_i1 := XI1.out.i1
      have XI1_i2 := XI1.out.i2
      have XI1_i3 := XI1.out.i3
      have XI1_i4 := XI1.out.i4
      go_wp2_with fail
      go_ret
      exact ⟨ret_int (by unfold encE; rcases hcm with rfl | rfl <;> omega), B1.out⟩
    · go_enter Try.func24, Try.ntmps24
      go_wp2_with fail
      have XI0 := Lib.hid (IF.newAt (op) (a) (b) (c) (m) (w) (w.heap.size) (by simp))
      have BnI := Lib.hid (below_new (Below.refl w.heap.size w) (.cells #[.int .u8 (op), .int .i64 (a), .int .i64 (b), .int .i64 (c), .int .i64 (m)] 23))
      refine (Hf.out _).mono ?_
      rintro e w1 ⟨rfl, hb1⟩
      have B1 := Lib.hid (below_next BnI.out hb1)
      have XI1 := Lib.hid (XI0.out.step hb1)
      clear hb1
      have XI1_lt := XI1.out.lt
      have XI1_i0 := XI1.out.i0
      have XI1_i1 := XI1.out.i1
      have XI1_i2 := XI1.out.i2
      have XI1_i3 := XI1.out.i3
      have XI1_i4 := XI1.out.i4
      go_wp2_with fail
      go_ret
      exact ⟨ret_int (by unfold encE; rcases hcm with rfl | rfl <;> omega), B1.out⟩
end Go.Proofs.Ytgjpenhfechhcaa
