/- The walk of IsaDistinct: it returns true whatever the input. -/
import Derived.Test.YtgjpenhfechhcaaIF
namespace Go.Proofs.Ytgjpenhfechhcaa
open Go.RowKit Go.Proofs.YtgjpenhfechhcaaW.PrintWords Go.Proofs.YtgjpenhfechhcaaW.PrintLast Go.Proofs.YtgjpenhfechhcaaW.PrintMore
open PIsaDecodes
theorem enc_inj {op a b c m op' a' b' c' m' : Int} (h0 : 0 ≤ op) (h0' : 0 ≤ op') (h : validB op a b c m = true) (h' : validB op' a' b' c' m' = true) : (encW op a b c m == encW op' a' b' c' m') = eqI op a b c m op' a' b' c' m' := by
  obtain ⟨_, _, g2, g3, g4, g5, g6⟩ := dec_enc h0 h
  obtain ⟨_, _, k2, k3, k4, k5, k6⟩ := dec_enc h0' h'
  by_cases e : encW op a b c m = encW op' a' b' c' m'
  · rw [e] at g2 g3 g4 g5 g6
    have e2 := g2.symm.trans k2
    have e3 := g3.symm.trans k3
    have e4 := g4.symm.trans k4
    have e5 := g5.symm.trans k5
    have e6 := g6.symm.trans k6
    subst e2 e3 e4 e5 e6
    simp [eqI]
  · have h1 : (encW op a b c m == encW op' a' b' c' m') = false := by simpa using e
    rw [h1]
    cases hq : eqI op a b c m op' a' b' c' m'
    · rfl
    · exfalso
      simp only [eqI, Bool.and_eq_true, beq_iff_eq] at hq
      obtain ⟨rfl, rfl, rfl, rfl, rfl⟩ := hq
      exact e rfl
set_option maxRecDepth 100000 in
set_option maxHeartbeats 2000000 in
theorem walk_IsaDistinct (op a b c m : Int) (w00 : (Lit.int .u8 op).wf = true) (w01 : (Lit.int .i64 a).wf = true) (w02 : (Lit.int .i64 b).wf = true) (w03 : (Lit.int .i64 c).wf = true) (w04 : (Lit.int .i64 m).wf = true) (op' a' b' c' m' : Int) (w10 : (Lit.int .u8 op').wf = true) (w11 : (Lit.int .i64 a').wf = true) (w12 : (Lit.int .i64 b').wf = true) (w13 : (Lit.int .i64 c').wf = true) (w14 : (Lit.int .i64 m').wf = true) (w : World) :
    Calls Try.prog 7 #[.agg #[.int .u8 op, .int .i64 a, .int .i64 b, .int .i64 c, .int .i64 m], .agg #[.int .u8 op', .int .i64 a', .int .i64 b', .int .i64 c', .int .i64 m']] w fun e w' => e = .returned (.bool true) ∧ Below w.heap.size w w' := by
  obtain ⟨h0, h1⟩ := u8_bounds w00
  obtain ⟨h0', h1'⟩ := u8_bounds w10
  clear w00 w01 w02 w03 w04 w10 w11 w12 w13 w14
  cases hv : validB op a b c m
  · cases hv' : validB op' a' b' c' m'
    · have he := fun W => encode_no op a b c m hv h0 h1 W
      have He := Lib.hid he
      clear he
      have he2 := fun W => encode_no op' a' b' c' m' hv' h0' h1' W
      have He2 := Lib.hid he2
      clear he2
      clear hv hv'
      go_enter Try.func7, Try.ntmps7
      go_wp2_with fail
      have XI0 := Lib.hid (IF.newAt (op) (a) (b) (c) (m) (w) (w.heap.size) (by simp))
      have BnI := Lib.hid (below_new (Below.refl w.heap.size w) (.cells #[.int .u8 (op), .int .i64 (a), .int .i64 (b), .int .i64 (c), .int .i64 (m)] 23))
      have XI0' := Lib.hid (XI0.out.alloc (.cells #[.int .u8 op', .int .i64 a', .int .i64 b', .int .i64 c', .int .i64 m'] 23))
      have XJ0 := Lib.hid (IF.newAt (op') (a') (b') (c') (m') ((w).alloc (.cells #[.int .u8 (op), .int .i64 (a), .int .i64 (b), .int .i64 (c), .int .i64 (m)] 23)) (w.heap.size + 1) (by simp))
      have BnJ := Lib.hid (below_new BnI.out (.cells #[.int .u8 (op'), .int .i64 (a'), .int .i64 (b'), .int .i64 (c'), .int .i64 (m')] 23))
      refine (awake_any _).mono ?_
      rintro e w1 ⟨rfl, hb1⟩
      have B1 := Lib.hid (below_next BnJ.out hb1)
      have XI1 := Lib.hid (XI0'.out.step hb1)
      have XJ1 := Lib.hid (XJ0.out.step hb1)
      clear hb1
      have XI1_lt := XI1.out.lt
      have XI1_i0 := XI1.out.i0
      have XI1_i1 := XI1.out.i1
      have XI1_i2 := XI1.out.i2
      have XI1_i3 := XI1.out.i3
      have XI1_i4 := XI1.out.i4
      have XJ1_lt := XJ1.out.lt
      have XJ1_i0 := XJ1.out.i0
      have XJ1_i1 := XJ1.out.i1
      have XJ1_i2 := XJ1.out.i2
      have XJ1_i3 := XJ1.out.i3
      have XJ1_i4 := XJ1.out.i4
      go_wp2_with fail
      refine (He.out _).mono ?_
      rintro e w2 ⟨rfl, hb2⟩
      have B2 := Lib.hid (below_next B1.out hb2)
      have XI2 := Lib.hid (XI1.out.step hb2)
      have XJ2 := Lib.hid (XJ1.out.step hb2)
      clear hb2
      have XI2_lt := XI2.out.lt
      have XI2_i0 := XI2.out.i0
      have XI2_i1 := XI2.out.i1
      have XI2_i2 := XI2.out.i2
      have XI2_i3 := XI2.out.i3
      have XI2_i4 := XI2.out.i4
      have XJ2_lt := XJ2.out.lt
      have XJ2_i0 := XJ2.out.i0
      have XJ2_i1 := XJ2.out.i1
      have XJ2_i2 := XJ2.out.i2
      have XJ2_i3 := XJ2.out.i3
      have XJ2_i4 := XJ2.out.i4
      go_wp2_with fail
      refine (He2.out _).mono ?_
      rintro e w3 ⟨rfl, hb3⟩
      have B3 := Lib.hid (below_next B2.out hb3)
      have XI3 := Lib.hid (XI2.out.step hb3)
      have XJ3 := Lib.hid (XJ2.out.step hb3)
      clear hb3
      have XI3_lt := XI3.out.lt
      have XI3_i0 := XI3.out.i0
      have XI3_i1 := XI3.out.i1
      have XI3_i2 := XI3.out.i2
      have XI3_i3 := XI3.out.i3
      have XI3_i4 := XI3.out.i4
      have XJ3_lt := XJ3.out.lt
      have XJ3_i0 := XJ3.out.i0
      have XJ3_i1 := XJ3.out.i1
      have XJ3_i2 := XJ3.out.i2
      have XJ3_i3 := XJ3.out.i3
      have XJ3_i4 := XJ3.out.i4
      go_wp2_with fail
      go_ret
      exact ⟨rfl, B3.out⟩
    · have he := fun W => encode_no op a b c m hv h0 h1 W
      have He := Lib.hid he
      clear he
      have hop2 := (okay h0' hv').1.op.2
      obtain ⟨v2, hev2⟩ : ∃ v, encW op' a' b' c' m' = v := ⟨_, rfl⟩
      have he2 := fun W => encode_yes op' a' b' c' m' hv' h0' hop2 W
      rw [hev2] at he2
      have He2 := Lib.hid he2
      clear he2
      clear hev2
      clear hv hv'
      go_enter Try.func7, Try.ntmps7
      go_wp2_with fail
      have XI0 := Lib.hid (IF.newAt (op) (a) (b) (c) (m) (w) (w.heap.size) (by simp))
      have BnI := Lib.hid (below_new (Below.refl w.heap.size w) (.cells #[.int .u8 (op), .int .i64 (a), .int .i64 (b), .int .i64 (c), .int .i64 (m)] 23))
      have XI0' := Lib.hid (XI0.out.alloc (.cells #[.int .u8 op', .int .i64 a', .int .i64 b', .int .i64 c', .int .i64 m'] 23))
      have XJ0 := Lib.hid (IF.newAt (op') (a') (b') (c') (m') ((w).alloc (.cells #[.int .u8 (op), .int .i64 (a), .int .i64 (b), .int .i64 (c), .int .i64 (m)] 23)) (w.heap.size + 1) (by simp))
      have BnJ := Lib.hid (below_new BnI.out (.cells #[.int .u8 (op'), .int .i64 (a'), .int .i64 (b'), .int .i64 (c'), .int .i64 (m')] 23))
      refine (awake_any _).mono ?_
      rintro e w1 ⟨rfl, hb1⟩
      have B1 := Lib.hid (below_next BnJ.out hb1)
      have XI1 := Lib.hid (XI0'.out.step hb1)
      have XJ1 := Lib.hid (XJ0.out.step hb1)
      clear hb1
      have XI1_lt := XI1.out.lt
      have XI1_i0 := XI1.out.i0
      have XI1_i1 := XI1.out.i1
      have XI1_i2 := XI1.out.i2
      have XI1_i3 := XI1.out.i3
      have XI1_i4 := XI1.out.i4
      have XJ1_lt := XJ1.out.lt
      have XJ1_i0 := XJ1.out.i0
      have XJ1_i1 := XJ1.out.i1
      have XJ1_i2 := XJ1.out.i2
      have XJ1_i3 := XJ1.out.i3
      have XJ1_i4 := XJ1.out.i4
      go_wp2_with fail
      refine (He.out _).mono ?_
      rintro e w2 ⟨rfl, hb2⟩
      have B2 := Lib.hid (below_next B1.out hb2)
      have XI2 := Lib.hid (XI1.out.step hb2)
      have XJ2 := Lib.hid (XJ1.out.step hb2)
      clear hb2
      have XI2_lt := XI2.out.lt
      have XI2_i0 := XI2.out.i0
      have XI2_i1 := XI2.out.i1
      have XI2_i2 := XI2.out.i2
      have XI2_i3 := XI2.out.i3
      have XI2_i4 := XI2.out.i4
      have XJ2_lt := XJ2.out.lt
      have XJ2_i0 := XJ2.out.i0
      have XJ2_i1 := XJ2.out.i1
      have XJ2_i2 := XJ2.out.i2
      have XJ2_i3 := XJ2.out.i3
      have XJ2_i4 := XJ2.out.i4
      go_wp2_with fail
      refine (He2.out _).mono ?_
      rintro e w3 ⟨rfl, hb3⟩
      have B3 := Lib.hid (below_next B2.out hb3)
      have XI3 := Lib.hid (XI2.out.step hb3)
      have XJ3 := Lib.hid (XJ2.out.step hb3)
      clear hb3
      have XI3_lt := XI3.out.lt
      have XI3_i0 := XI3.out.i0
      have XI3_i1 := XI3.out.i1
      have XI3_i2 := XI3.out.i2
      have XI3_i3 := XI3.out.i3
      have XI3_i4 := XI3.out.i4
      have XJ3_lt := XJ3.out.lt
      have XJ3_i0 := XJ3.out.i0
      have XJ3_i1 := XJ3.out.i1
      have XJ3_i2 := XJ3.out.i2
      have XJ3_i3 := XJ3.out.i3
      have XJ3_i4 := XJ3.out.i4
      go_wp2_with fail
      go_ret
      exact ⟨rfl, B3.out⟩
  · cases hv' : validB op' a' b' c' m'
    · have hop := (okay h0 hv).1.op.2
      obtain ⟨v, hev⟩ : ∃ v, encW op a b c m = v := ⟨_, rfl⟩
      have he := fun W => encode_yes op a b c m hv h0 hop W
      rw [hev] at he
      have He := Lib.hid he
      clear he
      have he2 := fun W => encode_no op' a' b' c' m' hv' h0' h1' W
      have He2 := Lib.hid he2
      clear he2
      clear hev
      clear hv hv'
      go_enter Try.func7, Try.ntmps7
      go_wp2_with fail
      have XI0 := Lib.hid (IF.newAt (op) (a) (b) (c) (m) (w) (w.heap.size) (by simp))
      have BnI := Lib.hid (below_new (Below.refl w.heap.size w) (.cells #[.int .u8 (op), .int .i64 (a), .int .i64 (b), .int .i64 (c), .int .i64 (m)] 23))
      have XI0' := Lib.hid (XI0.out.alloc (.cells #[.int .u8 op', .int .i64 a', .int .i64 b', .int .i64 c', .int .i64 m'] 23))
      have XJ0 := Lib.hid (IF.newAt (op') (a') (b') (c') (m') ((w).alloc (.cells #[.int .u8 (op), .int .i64 (a), .int .i64 (b), .int .i64 (c), .int .i64 (m)] 23)) (w.heap.size + 1) (by simp))
      have BnJ := Lib.hid (below_new BnI.out (.cells #[.int .u8 (op'), .int .i64 (a'), .int .i64 (b'), .int .i64 (c'), .int .i64 (m')] 23))
      refine (awake_any _).mono ?_
      rintro e w1 ⟨rfl, hb1⟩
      have B1 := Lib.hid (below_next BnJ.out hb1)
      have XI1 := Lib.hid (XI0'.out.step hb1)
      have XJ1 := Lib.hid (XJ0.out.step hb1)
      clear hb1
      have XI1_lt := XI1.out.lt
      have XI1_i0 := XI1.out.i0
      have XI1_i1 := XI1.out.i1
      have XI1_i2 := XI1.out.i2
      have XI1_i3 := XI1.out.i3
      have XI1_i4 := XI1.out.i4
      have XJ1_lt := XJ1.out.lt
      have XJ1_i0 := XJ1.out.i0
      have XJ1_i1 := XJ1.out.i1
      have XJ1_i2 := XJ1.out.i2
      have XJ1_i3 := XJ1.out.i3
      have XJ1_i4 := XJ1.out.i4
      go_wp2_with fail
      refine (He.out _).mono ?_
      rintro e w2 ⟨rfl, hb2⟩
      have B2 := Lib.hid (below_next B1.out hb2)
      have XI2 := Lib.hid (XI1.out.step hb2)
      have XJ2 := Lib.hid (XJ1.out.step hb2)
      clear hb2
      have XI2_lt := XI2.out.lt
      have XI2_i0 := XI2.out.i0
      have XI2_i1 := XI2.out.i1
      have XI2_i2 := XI2.out.i2
      have XI2_i3 := XI2.out.i3
      have XI2_i4 := XI2.out.i4
      have XJ2_lt := XJ2.out.lt
      have XJ2_i0 := XJ2.out.i0
      have XJ2_i1 := XJ2.out.i1
      have XJ2_i2 := XJ2.out.i2
      have XJ2_i3 := XJ2.out.i3
      have XJ2_i4 := XJ2.out.i4
      go_wp2_with fail
      refine (He2.out _).mono ?_
      rintro e w3 ⟨rfl, hb3⟩
      have B3 := Lib.hid (below_next B2.out hb3)
      have XI3 := Lib.hid (XI2.out.step hb3)
      have XJ3 := Lib.hid (XJ2.out.step hb3)
      clear hb3
      have XI3_lt := XI3.out.lt
      have XI3_i0 := XI3.out.i0
      have XI3_i1 := XI3.out.i1
      have XI3_i2 := XI3.out.i2
      have XI3_i3 := XI3.out.i3
      have XI3_i4 := XI3.out.i4
      have XJ3_lt := XJ3.out.lt
      have XJ3_i0 := XJ3.out.i0
      have XJ3_i1 := XJ3.out.i1
      have XJ3_i2 := XJ3.out.i2
      have XJ3_i3 := XJ3.out.i3
      have XJ3_i4 := XJ3.out.i4
      go_wp2_with fail
      go_ret
      exact ⟨rfl, B3.out⟩
    · have hinj := enc_inj h0 h0' hv hv'
      have hop := (okay h0 hv).1.op.2
      obtain ⟨v, hev⟩ : ∃ v, encW op a b c m = v := ⟨_, rfl⟩
      have he := fun W => encode_yes op a b c m hv h0 hop W
      rw [hev] at he
      have He := Lib.hid he
      clear he
      have hop2 := (okay h0' hv').1.op.2
      obtain ⟨v2, hev2⟩ : ∃ v, encW op' a' b' c' m' = v := ⟨_, rfl⟩
      have he2 := fun W => encode_yes op' a' b' c' m' hv' h0' hop2 W
      rw [hev2] at he2
      have He2 := Lib.hid he2
      clear he2
      rw [hev, hev2] at hinj
      have heq := fun W => run_eqI op a b c m op' a' b' c' m' W
      rw [← hinj] at heq
      clear hev hev2 hinj
      clear hv hv'
      go_enter Try.func7, Try.ntmps7
      go_wp2_with fail
      have XI0 := Lib.hid (IF.newAt (op) (a) (b) (c) (m) (w) (w.heap.size) (by simp))
      have BnI := Lib.hid (below_new (Below.refl w.heap.size w) (.cells #[.int .u8 (op), .int .i64 (a), .int .i64 (b), .int .i64 (c), .int .i64 (m)] 23))
      have XI0' := Lib.hid (XI0.out.alloc (.cells #[.int .u8 op', .int .i64 a', .int .i64 b', .int .i64 c', .int .i64 m'] 23))
      have XJ0 := Lib.hid (IF.newAt (op') (a') (b') (c') (m') ((w).alloc (.cells #[.int .u8 (op), .int .i64 (a), .int .i64 (b), .int .i64 (c), .int .i64 (m)] 23)) (w.heap.size + 1) (by simp))
      have BnJ := Lib.hid (below_new BnI.out (.cells #[.int .u8 (op'), .int .i64 (a'), .int .i64 (b'), .int .i64 (c'), .int .i64 (m')] 23))
      refine (awake_any _).mono ?_
      rintro e w1 ⟨rfl, hb1⟩
      have B1 := Lib.hid (below_next BnJ.out hb1)
      have XI1 := Lib.hid (XI0'.out.step hb1)
      have XJ1 := Lib.hid (XJ0.out.step hb1)
      clear hb1
      have XI1_lt := XI1.out.lt
      have XI1_i0 := XI1.out.i0
      have XI1_i1 := XI1.out.i1
      have XI1_i2 := XI1.out.i2
      have XI1_i3 := XI1.out.i3
      have XI1_i4 := XI1.out.i4
      have XJ1_lt := XJ1.out.lt
      have XJ1_i0 := XJ1.out.i0
      have XJ1_i1 := XJ1.out.i1
      have XJ1_i2 := XJ1.out.i2
      have XJ1_i3 := XJ1.out.i3
      have XJ1_i4 := XJ1.out.i4
      go_wp2_with fail
      refine (He.out _).mono ?_
      rintro e w2 ⟨rfl, hb2⟩
      have B2 := Lib.hid (below_next B1.out hb2)
      have XI2 := Lib.hid (XI1.out.step hb2)
      have XJ2 := Lib.hid (XJ1.out.step hb2)
      clear hb2
      have XI2_lt := XI2.out.lt
      have XI2_i0 := XI2.out.i0
      have XI2_i1 := XI2.out.i1
      have XI2_i2 := XI2.out.i2
      have XI2_i3 := XI2.out.i3
      have XI2_i4 := XI2.out.i4
      have XJ2_lt := XJ2.out.lt
      have XJ2_i0 := XJ2.out.i0
      have XJ2_i1 := XJ2.out.i1
      have XJ2_i2 := XJ2.out.i2
      have XJ2_i3 := XJ2.out.i3
      have XJ2_i4 := XJ2.out.i4
      go_wp2_with fail
      refine (He2.out _).mono ?_
      rintro e w3 ⟨rfl, hb3⟩
      have B3 := Lib.hid (below_next B2.out hb3)
      have XI3 := Lib.hid (XI2.out.step hb3)
      have XJ3 := Lib.hid (XJ2.out.step hb3)
      clear hb3
      have XI3_lt := XI3.out.lt
      have XI3_i0 := XI3.out.i0
      have XI3_i1 := XI3.out.i1
      have XI3_i2 := XI3.out.i2
      have XI3_i3 := XI3.out.i3
      have XI3_i4 := XI3.out.i4
      have XJ3_lt := XJ3.out.lt
      have XJ3_i0 := XJ3.out.i0
      have XJ3_i1 := XJ3.out.i1
      have XJ3_i2 := XJ3.out.i2
      have XJ3_i3 := XJ3.out.i3
      have XJ3_i4 := XJ3.out.i4
      go_wp2_with fail
      all_goals (go_ret; exact ⟨by simp, B3.out⟩)
end Go.Proofs.Ytgjpenhfechhcaa
