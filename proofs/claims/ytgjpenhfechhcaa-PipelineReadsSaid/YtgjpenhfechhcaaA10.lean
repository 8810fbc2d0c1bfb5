/- The contract of the reference's Valid: it agrees with isa.Valid. -/
import Derived.Test.YtgjpenhfechhcaaA9
namespace Go.Proofs.Ytgjpenhfechhcaa
open Go.RowKit Go.Proofs.YtgjpenhfechhcaaW.PrintWords Go.Proofs.YtgjpenhfechhcaaW.PrintLast Go.Proofs.YtgjpenhfechhcaaW.PrintMore
open PIsaDecodes

theorem dec_cast1 {n : Nat} {u : Bool} (h : decide (1 < n) = u) : decide ((1 : Int) < (n : Int)) = u := by rw [← h]; congr 1; simp only [eq_iff_iff]; omega
theorem dec_cast2 {n : Nat} {u : Bool} (h : decide (2 < n) = u) : decide ((2 : Int) < (n : Int)) = u := by rw [← h]; congr 1; simp only [eq_iff_iff]; omega

set_option maxRecDepth 100000 in
set_option maxHeartbeats 4000000 in
theorem ref_valid_any (op a b c m : Int) (h0 : 0 ≤ op) (h1 : op ≤ 255) (w : World) :
    Calls Try.prog 22 #[.agg #[.int .u8 op, .int .i64 a, .int .i64 b, .int .i64 c, .int .i64 m]] w fun e w' => e = .returned (.bool (validB op a b c m)) ∧ Below w.heap.size w w' := by
  by_cases hop : op < 30
  · have hf := fun W => format_any op h0 h1 W
    rw [decide_eq_true hop] at hf
    have Hf := Lib.hid hf
    obtain ⟨k0, k1, k2, k3, _⟩ := fmt_row op h0 hop
    obtain ⟨u0, hu0⟩ : ∃ u, hasB (opnds op) 97 = u := ⟨_, rfl⟩
    obtain ⟨u1, hu1⟩ : ∃ u, hasB (opnds op) 98 = u := ⟨_, rfl⟩
    obtain ⟨u2, hu2⟩ : ∃ u, hasB (opnds op) 99 = u := ⟨_, rfl⟩
    rw [hu0] at k0
    rw [hu1] at k1
    rw [hu2] at k2
    have k1 := dec_cast1 k1
    have k2 := dec_cast2 k2
    obtain ⟨q0, hq0⟩ : ∃ u, chk op 97 a = u := ⟨_, rfl⟩
    obtain ⟨q1, hq1⟩ : ∃ u, chk op 98 b = u := ⟨_, rfl⟩
    obtain ⟨q2, hq2⟩ : ∃ u, chk op 99 c = u := ⟨_, rfl⟩
    obtain ⟨q3, hq3⟩ : ∃ u, chk op 105 m = u := ⟨_, rfl⟩
    have Hfin := Lib.hid (show validB op a b c m = (q0 && q1 && q2 && q3) by unfold validB; rw [hq0, hq1, hq2, hq3, decide_eq_true hop]; rfl)
    have R0 := Lib.hid (fun W => reg_at op 97 a (by decide) u0 q0 hu0 hq0 W)
    have R1 := Lib.hid (fun W => reg_at op 98 b (by decide) u1 q1 hu1 hq1 W)
    have R2 := Lib.hid (fun W => reg_at op 99 c (by decide) u2 q2 hu2 hq2 W)
    have hop' := Lib.hid hop
    clear hf hop hq0 hq1 hq2 hu0 hu1 hu2
    cases q0
    · clear hq3 k1 k2 k3
      go_enter Try.func22, Try.ntmps22
      go_wp2_with fail
      have XI0 := Lib.hid (IF.newAt (op) (a) (b) (c) (m) (w) (w.heap.size) (by simp))
      have BnI := Lib.hid (below_new (Below.refl w.heap.size w) (.cells #[.int .u8 (op), .int .i64 (a), .int .i64 (b), .int .i64 (c), .int .i64 (m)] 23))
      refine (Hf.out _).mono ?_
      rintro e w1 ⟨rfl, hb1⟩
      have B1 := Lib.hid (below_next BnI.out hb1)
      have XI1 := Lib.hid (XI0.out.step hb1)
      clear hb1
      have XI1_lt := XI1.out.lt
      have XI1_i0 := XI1.out.i0
      have XI1_i1 := XI1.out.i1
      have XI1_i2 := XI1.out.i2
      have XI1_i3 := XI1.out.i3
      have XI1_i4 := XI1.out.i4
      go_wp2_with fail
      refine (R0.out _).mono ?_
      rintro e w2 ⟨rfl, hb2⟩
      have B2 := Lib.hid (below_next B1.out hb2)
      have XI2 := Lib.hid (XI1.out.step hb2)
      clear hb2
      have XI2_lt := XI2.out.lt
      have XI2_i0 := XI2.out.i0
      have XI2_i1 := XI2.out.i1
      have XI2_i2 := XI2.out.i2
      have XI2_i3 := XI2.out.i3
      have XI2_i4 := XI2.out.i4
      go_wp2_with fail
      go_ret
      exact ⟨by rw [Hfin.out]; simp, B2.out⟩
    cases q1
    · clear hq3 k2 k3
      go_enter Try.func22, Try.ntmps22
      go_wp2_with fail
      have XI0 := Lib.hid (IF.newAt (op) (a) (b) (c) (m) (w) (w.heap.size) (by simp))
      have BnI := Lib.hid (below_new (Below.refl w.heap.size w) (.cells #[.int .u8 (op), .int .i64 (a), .int .i64 (b), .int .i64 (c), .int .i64 (m)] 23))
      refine (Hf.out _).mono ?_
      rintro e w1 ⟨rfl, hb1⟩
      have B1 := Lib.hid (below_next BnI.out hb1)
      have XI1 := Lib.hid (XI0.out.step hb1)
      clear hb1
      have XI1_lt := XI1.out.lt
      have XI1_i0 := XI1.out.i0
      have XI1_i1 := XI1.out.i1
      have XI1_i2 := XI1.out.i2
      have XI1_i3 := XI1.out.i3
      have XI1_i4 := XI1.out.i4
      go_wp2_with fail
      refine (R0.out _).mono ?_
      rintro e w2 ⟨rfl, hb2⟩
      have B2 := Lib.hid (below_next B1.out hb2)
      have XI2 := Lib.hid (XI1.out.step hb2)
      clear hb2
      have XI2_lt := XI2.out.lt
      have XI2_i0 := XI2.out.i0
      have XI2_i1 := XI2.out.i1
      have XI2_i2 := XI2.out.i2
      have XI2_i3 := XI2.out.i3
      have XI2_i4 := XI2.out.i4
      go_wp2_with fail
      refine (R1.out _).mono ?_
      rintro e w3 ⟨rfl, hb3⟩
      have B3 := Lib.hid (below_next B2.out hb3)
      have XI3 := Lib.hid (XI2.out.step hb3)
      clear hb3
      have XI3_lt := XI3.out.lt
      have XI3_i0 := XI3.out.i0
      have XI3_i1 := XI3.out.i1
      have XI3_i2 := XI3.out.i2
      have XI3_i3 := XI3.out.i3
      have XI3_i4 := XI3.out.i4
      go_wp2_with fail
      go_ret
      exact ⟨by rw [Hfin.out]; simp, B3.out⟩
    cases q2
    · clear hq3 k3
      go_enter Try.func22, Try.ntmps22
      go_wp2_with fail
      have XI0 := Lib.hid (IF.newAt (op) (a) (b) (c) (m) (w) (w.heap.size) (by simp))
      have BnI := Lib.hid (below_new (Below.refl w.heap.size w) (.cells #[.int .u8 (op), .int .i64 (a), .int .i64 (b), .int .i64 (c), .int .i64 (m)] 23))
      refine (Hf.out _).mono ?_
      rintro e w1 ⟨rfl, hb1⟩
      have B1 := Lib.hid (below_next BnI.out hb1)
      have XI1 := Lib.hid (XI0.out.step hb1)
      clear hb1
      have XI1_lt := XI1.out.lt
      have XI1_i0 := XI1.out.i0
      have XI1_i1 := XI1.out.i1
      have XI1_i2 := XI1.out.i2
      have XI1_i3 := XI1.out.i3
      have XI1_i4 := XI1.out.i4
      go_wp2_with fail
      refine (R0.out _).mono ?_
      rintro e w2 ⟨rfl, hb2⟩
      have B2 := Lib.hid (below_next B1.out hb2)
      have XI2 := Lib.hid (XI1.out.step hb2)
      clear hb2
      have XI2_lt := XI2.out.lt
      have XI2_i0 := XI2.out.i0
      have XI2_i1 := XI2.out.i1
      have XI2_i2 := XI2.out.i2
      have XI2_i3 := XI2.out.i3
      have XI2_i4 := XI2.out.i4
      go_wp2_with fail
      refine (R1.out _).mono ?_
      rintro e w3 ⟨rfl, hb3⟩
      have B3 := Lib.hid (below_next B2.out hb3)
      have XI3 := Lib.hid (XI2.out.step hb3)
      clear hb3
      have XI3_lt := XI3.out.lt
      have XI3_i0 := XI3.out.i0
      have XI3_i1 := XI3.out.i1
      have XI3_i2 := XI3.out.i2
      have XI3_i3 := XI3.out.i3
      have XI3_i4 := XI3.out.i4
      go_wp2_with fail
      refine (R2.out _).mono ?_
      rintro e w4 ⟨rfl, hb4⟩
      have B4 := Lib.hid (below_next B3.out hb4)
      have XI4 := Lib.hid (XI3.out.step hb4)
      clear hb4
      have XI4_lt := XI4.out.lt
      have XI4_i0 := XI4.out.i0
      have XI4_i1 := XI4.out.i1
      have XI4_i2 := XI4.out.i2
      have XI4_i3 := XI4.out.i3
      have XI4_i4 := XI4.out.i4
      go_wp2_with fail
      go_ret
      exact ⟨by rw [Hfin.out]; simp, B4.out⟩
    cases h5 : hasB (opnds op) 105
    · rw [h5] at k3
      have hlo : fHi op < fLo op := by have := of_decide_eq_false k3; omega
      have e := chk_imm_no op m h5
      rw [hq3] at e
      have E := Lib.hid e
      clear hq3 e k3 h5
      go_enter Try.func22, Try.ntmps22
      go_wp2_with fail
      have XI0 := Lib.hid (IF.newAt (op) (a) (b) (c) (m) (w) (w.heap.size) (by simp))
      have BnI := Lib.hid (below_new (Below.refl w.heap.size w) (.cells #[.int .u8 (op), .int .i64 (a), .int .i64 (b), .int .i64 (c), .int .i64 (m)] 23))
      refine (Hf.out _).mono ?_
      rintro e w1 ⟨rfl, hb1⟩
      have B1 := Lib.hid (below_next BnI.out hb1)
      have XI1 := Lib.hid (XI0.out.step hb1)
      clear hb1
      have XI1_lt := XI1.out.lt
      have XI1_i0 := XI1.out.i0
      have XI1_i1 := XI1.out.i1
      have XI1_i2 := XI1.out.i2
      have XI1_i3 := XI1.out.i3
      have XI1_i4 := XI1.out.i4
      go_wp2_with fail
      refine (R0.out _).mono ?_
      rintro e w2 ⟨rfl, hb2⟩
      have B2 := Lib.hid (below_next B1.out hb2)
      have XI2 := Lib.hid (XI1.out.step hb2)
      clear hb2
      have XI2_lt := XI2.out.lt
      have XI2_i0 := XI2.out.i0
      have XI2_i1 := XI2.out.i1
      have XI2_i2 := XI2.out.i2
      have XI2_i3 := XI2.out.i3
      have XI2_i4 := XI2.out.i4
      go_wp2_with fail
      refine (R1.out _).mono ?_
      rintro e w3 ⟨rfl, hb3⟩
      have B3 := Lib.hid (below_next B2.out hb3)
      have XI3 := Lib.hid (XI2.out.step hb3)
      clear hb3
      have XI3_lt := XI3.out.lt
      have XI3_i0 := XI3.out.i0
      have XI3_i1 := XI3.out.i1
      have XI3_i2 := XI3.out.i2
      have XI3_i3 := XI3.out.i3
      have XI3_i4 := XI3.out.i4
      go_wp2_with fail
      refine (R2.out _).mono ?_
      rintro e w4 ⟨rfl, hb4⟩
      have B4 := Lib.hid (below_next B3.out hb4)
      have XI4 := Lib.hid (XI3.out.step hb4)
      clear hb4
      have XI4_lt := XI4.out.lt
      have XI4_i0 := XI4.out.i0
      have XI4_i1 := XI4.out.i1
      have XI4_i2 := XI4.out.i2
      have XI4_i3 := XI4.out.i3
      have XI4_i4 := XI4.out.i4
      go_wp2_with fail
      go_ret
      exact ⟨by rw [Hfin.out, E.out]; simp, B4.out⟩
    · rw [h5] at k3
      have hlo : fLo op ≤ fHi op := of_decide_eq_true k3
      have e := chk_imm_yes op m h0 hop'.out h5
      rw [hq3] at e
      have E := Lib.hid e
      clear hq3 e k3 h5
      by_cases hm1 : fLo op ≤ m
      · go_enter Try.func22, Try.ntmps22
        go_wp2_with fail
        have XI0 := Lib.hid (IF.newAt (op) (a) (b) (c) (m) (w) (w.heap.size) (by simp))
        have BnI := Lib.hid (below_new (Below.refl w.heap.size w) (.cells #[.int .u8 (op), .int .i64 (a), .int .i64 (b), .int .i64 (c), .int .i64 (m)] 23))
        refine (Hf.out _).mono ?_
        rintro e w1 ⟨rfl, hb1⟩
        have B1 := Lib.hid (below_next BnI.out hb1)
        have XI1 := Lib.hid (XI0.out.step hb1)
        clear hb1
        have XI1_lt := XI1.out.lt
        have XI1_i0 := XI1.out.i0
        have XI1_i1 := XI1.out.i1
        have XI1_i2 := XI1.out.i2
        have XI1_i3 := XI1.out.i3
        have XI1_i4 := XI1.out.i4
        go_wp2_with fail
        refine (R0.out _).mono ?_
        rintro e w2 ⟨rfl, hb2⟩
        have B2 := Lib.hid (below_next B1.out hb2)
        have XI2 := Lib.hid (XI1.out.step hb2)
        clear hb2
        have XI2_lt := XI2.out.lt
        have XI2_i0 := XI2.out.i0
        have XI2_i1 := XI2.out.i1
        have XI2_i2 := XI2.out.i2
        have XI2_i3 := XI2.out.i3
        have XI2_i4 := XI2.out.i4
        go_wp2_with fail
        refine (R1.out _).mono ?_
        rintro e w3 ⟨rfl, hb3⟩
        have B3 := Lib.hid (below_next B2.out hb3)
        have XI3 := Lib.hid (XI2.out.step hb3)
        clear hb3
        have XI3_lt := XI3.out.lt
        have XI3_i0 := XI3.out.i0
        have XI3_i1 := XI3.out.i1
        have XI3_i2 := XI3.out.i2
        have XI3_i3 := XI3.out.i3
        have XI3_i4 := XI3.out.i4
        go_wp2_with fail
        refine (R2.out _).mono ?_
        rintro e w4 ⟨rfl, hb4⟩
        have B4 := Lib.hid (below_next B3.out hb4)
        have XI4 := Lib.hid (XI3.out.step hb4)
        clear hb4
        have XI4_lt := XI4.out.lt
        have XI4_i0 := XI4.out.i0
        have XI4_i1 := XI4.out.i1
        have XI4_i2 := XI4.out.i2
        have XI4_i3 := XI4.out.i3
        have XI4_i4 := XI4.out.i4
        go_wp2_with fail
        go_ret
        exact ⟨by rw [Hfin.out, E.out]; simp; try omega, B4.out⟩
      · go_enter Try.func22, Try.ntmps22
        go_wp2_with fail
        have XI0 := Lib.hid (IF.newAt (op) (a) (b) (c) (m) (w) (w.heap.size) (by simp))
        have BnI := Lib.hid (below_new (Below.refl w.heap.size w) (.cells #[.int .u8 (op), .int .i64 (a), .int .i64 (b), .int .i64 (c), .int .i64 (m)] 23))
        refine (Hf.out _).mono ?_
        rintro e w1 ⟨rfl, hb1⟩
        have B1 := Lib.hid (below_next BnI.out hb1)
        have XI1 := Lib.hid (XI0.out.step hb1)
        clear hb1
        have XI1_lt := XI1.out.lt
        have XI1_i0 := XI1.out.i0
        have XI1_i1 := XI1.out.i1
        have XI1_i2 := XI1.out.i2
        have XI1_i3 := XI1.out.i3
        have XI1_i4 := XI1.out.i4
        go_wp2_with fail
        refine (R0.out _).mono ?_
        rintro e w2 ⟨rfl, hb2⟩
        have B2 := Lib.hid (below_next B1.out hb2)
        have XI2 := Lib.hid (XI1.out.step hb2)
        clear hb2
        have XI2_lt := XI2.out.lt
        have XI2_i0 := XI2.out.i0
        have XI2_i1 := XI2.out.i1
        have XI2_i2 := XI2.out.i2
        have XI2_i3 := XI2.out.i3
        have XI2_i4 := XI2.out.i4
        go_wp2_with fail
        refine (R1.out _).mono ?_
        rintro e w3 ⟨rfl, hb3⟩
        have B3 := Lib.hid (below_next B2.out hb3)
        have XI3 := Lib.hid (XI2.out.step hb3)
        clear hb3
        have XI3_lt := XI3.out.lt
        have XI3_i0 := XI3.out.i0
        have XI3_i1 := XI3.out.i1
        have XI3_i2 := XI3.out.i2
        have XI3_i3 := XI3.out.i3
        have XI3_i4 := XI3.out.i4
        go_wp2_with fail
        refine (R2.out _).mono ?_
        rintro e w4 ⟨rfl, hb4⟩
        have B4 := Lib.hid (below_next B3.out hb4)
        have XI4 := Lib.hid (XI3.out.step hb4)
        clear hb4
        have XI4_lt := XI4.out.lt
        have XI4_i0 := XI4.out.i0
        have XI4_i1 := XI4.out.i1
        have XI4_i2 := XI4.out.i2
        have XI4_i3 := XI4.out.i3
        have XI4_i4 := XI4.out.i4
        go_wp2_with fail
        go_ret
        exact ⟨by rw [Hfin.out, E.out]; simp; try omega, B4.out⟩
  · have hf := fun W => format_any op h0 h1 W
    rw [decide_eq_false hop] at hf
    have Hf := Lib.hid hf
    have Hfin := Lib.hid (show validB op a b c m = false by unfold validB; rw [decide_eq_false hop]; rfl)
    clear hf hop
    go_enter Try.func22, Try.ntmps22
    go_wp2_with fail
    have XI0 := Lib.hid (IF.newAt (op) (a) (b) (c) (m) (w) (w.heap.size) (by simp))
    have BnI := Lib.hid (below_new (Below.refl w.heap.size w) (.cells #[.int .u8 (op), .int .i64 (a), .int .i64 (b), .int .i64 (c), .int .i64 (m)] 23))
    refine (Hf.out _).mono ?_
    rintro e w1 ⟨rfl, hb1⟩
    have B1 := Lib.hid (below_next BnI.out hb1)
    have XI1 := Lib.hid (XI0.out.step hb1)
    clear hb1
    have XI1_lt := XI1.out.lt
    have XI1_i0 := XI1.out.i0
    have XI1_i1 := XI1.out.i1
    have XI1_i2 := XI1.out.i2
    have XI1_i3 := XI1.out.i3
    have XI1_i4 := XI1.out.i4
    go_wp2_with fail
    go_ret
    exact ⟨by rw [Hfin.out]; rfl, B1.out⟩

end Go.Proofs.Ytgjpenhfechhcaa
