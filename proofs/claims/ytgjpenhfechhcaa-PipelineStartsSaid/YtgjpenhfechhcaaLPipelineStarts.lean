/- The walk of PipelineStarts: it returns true whatever the input. -/
import Derived.Test.YtgjpenhfechhcaaA23
import Derived.BigQuiet
import Derived.IntWalk
import Derived.Deep.RegionHeld3
namespace Go.Proofs.Ytgjpenhfechhcaa
set_option linter.unusedVariables false
set_option linter.unusedSimpArgs false
open Go.RowKit Go.Proofs.YtgjpenhfechhcaaW.PrintWords Go.Proofs.YtgjpenhfechhcaaW.PrintLast Go.Proofs.YtgjpenhfechhcaaW.PrintMore
open PIsaDecodes
set_option maxRecDepth 100000 in
set_option maxHeartbeats 4000000 in
theorem starts_early1 (mul div tk hz a b : Int) (A : Option Addr) (n cp : Nat) (hv : tval mul div tk hz = false) (w : World) :
    Calls Try.prog 15 #[.agg #[.int .i64 mul, .int .i64 div, .int .i64 tk, .int .i64 hz], .int .i64 a, .int .i64 b, .slice A n cp] w fun e w' => e = .returned (.bool true) ∧ Below w.heap.size w w' := by
  have H1 := Lib.hid (fun W => valid8_any mul div tk hz false hv W)
  clear hv
  go_enter Try.func15, Try.ntmps15
  go_wp2_with fail
  have XT0 := Lib.hid (TF.newAt (mul) (div) (tk) (hz) (w) (w.heap.size) (by simp))
  have BxT0 := Lib.hid (below_new (Below.refl w.heap.size w) (.cells #[.int .i64 (mul), .int .i64 (div), .int .i64 (tk), .int .i64 (hz)] 49))
  have XT0_lt := XT0.out.lt
  have XT0_i0 := XT0.out.i0
  have XT0_i1 := XT0.out.i1
  have XT0_i2 := XT0.out.i2
  have XT0_i3 := XT0.out.i3
  refine (awake8 _).mono ?_
  rintro e w1 ⟨rfl, hb1⟩
  have B1 := Lib.hid (below_next BxT0.out hb1)
  have XT1 := Lib.hid (XT0.out.step hb1)
  clear hb1
  have XT1_lt := XT1.out.lt
  have XT1_i0 := XT1.out.i0
  have XT1_i1 := XT1.out.i1
  have XT1_i2 := XT1.out.i2
  have XT1_i3 := XT1.out.i3
  go_wp2_with fail
  refine (H1.out _).mono ?_
  rintro e w2 ⟨rfl, hb2⟩
  have B2 := Lib.hid (below_next B1.out hb2)
  have XT2 := Lib.hid (XT1.out.step hb2)
  clear hb2
  have XT2_lt := XT2.out.lt
  have XT2_i0 := XT2.out.i0
  have XT2_i1 := XT2.out.i1
  have XT2_i2 := XT2.out.i2
  have XT2_i3 := XT2.out.i3
  go_wp2_with fail
  go_ret
  exact ⟨rfl, B2.out⟩
set_option maxRecDepth 100000 in
set_option maxHeartbeats 4000000 in
theorem starts_early2 (mul div tk hz a b : Int) (A : Option Addr) (n cp : Nat) (hv : tval mul div tk hz = true) (hn : 40 < n) (w : World) :
    Calls Try.prog 15 #[.agg #[.int .i64 mul, .int .i64 div, .int .i64 tk, .int .i64 hz], .int .i64 a, .int .i64 b, .slice A n cp] w fun e w' => e = .returned (.bool true) ∧ Below w.heap.size w w' := by
  have H1 := Lib.hid (fun W => valid8_any mul div tk hz true hv W)
  have d1 : decide ((40 : Int) < (n : Int)) = true := decide_eq_true (by omega)
  have d2 : decide (40 < n) = true := decide_eq_true hn
  clear hv hn
  go_enter Try.func15, Try.ntmps15
  go_wp2_with fail
  have XT0 := Lib.hid (TF.newAt (mul) (div) (tk) (hz) (w) (w.heap.size) (by simp))
  have BxT0 := Lib.hid (below_new (Below.refl w.heap.size w) (.cells #[.int .i64 (mul), .int .i64 (div), .int .i64 (tk), .int .i64 (hz)] 49))
  have XT0_lt := XT0.out.lt
  have XT0_i0 := XT0.out.i0
  have XT0_i1 := XT0.out.i1
  have XT0_i2 := XT0.out.i2
  have XT0_i3 := XT0.out.i3
  refine (awake8 _).mono ?_
  rintro e w1 ⟨rfl, hb1⟩
  have B1 := Lib.hid (below_next BxT0.out hb1)
  have XT1 := Lib.hid (XT0.out.step hb1)
  clear hb1
  have XT1_lt := XT1.out.lt
  have XT1_i0 := XT1.out.i0
  have XT1_i1 := XT1.out.i1
  have XT1_i2 := XT1.out.i2
  have XT1_i3 := XT1.out.i3
  go_wp2_with fail
  refine (H1.out _).mono ?_
  rintro e w2 ⟨rfl, hb2⟩
  have B2 := Lib.hid (below_next B1.out hb2)
  have XT2 := Lib.hid (XT1.out.step hb2)
  clear hb2
  have XT2_lt := XT2.out.lt
  have XT2_i0 := XT2.out.i0
  have XT2_i1 := XT2.out.i1
  have XT2_i2 := XT2.out.i2
  have XT2_i3 := XT2.out.i3
  go_wp2_with fail
  go_ret
  exact ⟨rfl, B2.out⟩
set_option maxRecDepth 100000 in
set_option maxHeartbeats 4000000 in
theorem starts_none (mul div tk hz a b : Int) (hm : 0 ≤ mul ∧ mul ≤ 1000) (hd : 0 ≤ div ∧ div ≤ 1000) (ht : 0 ≤ tk ∧ tk ≤ 1000) (hh : 0 ≤ hz ∧ hz ≤ 1000) (l : List Ins) (hl : l.length ≤ 40) (hop : insOK l) (hv : tval mul div tk hz = true) (w : World) (A : Option Addr) (cp : Nat) (hl0 : l = []) :
    Calls Try.prog 15 #[.agg #[.int .i64 mul, .int .i64 div, .int .i64 tk, .int .i64 hz], .int .i64 a, .int .i64 b, .slice A 0 cp] w fun e w' => e = .returned (.bool true) ∧ Below w.heap.size w w' := by
  subst hl0
  have H1 := Lib.hid (fun W => valid8_any mul div tk hz true hv W)
  have H2 := Lib.hid (fun W => seq43_none mul div tk hz a A cp W)
  have H3 := Lib.hid (fun W => seq43_none mul div tk hz b A cp W)
  have H4 := Lib.hid (fun W => seq43_none mul div tk hz 0 A cp W)
  have e1 : decide (hz < 0) = false := decide_eq_false (by omega)
  clear hv hm hd ht hh hop
  go_enter Try.func15, Try.ntmps15
  go_wp2_with fail
  have XT0 := Lib.hid (TF.newAt (mul) (div) (tk) (hz) (w) (w.heap.size) (by simp))
  have BxT0 := Lib.hid (below_new (Below.refl w.heap.size w) (.cells #[.int .i64 (mul), .int .i64 (div), .int .i64 (tk), .int .i64 (hz)] 49))
  have XT0_lt := XT0.out.lt
  have XT0_i0 := XT0.out.i0
  have XT0_i1 := XT0.out.i1
  have XT0_i2 := XT0.out.i2
  have XT0_i3 := XT0.out.i3
  refine (awake8 _).mono ?_
  rintro e w1 ⟨rfl, hb1⟩
  have B1 := Lib.hid (below_next BxT0.out hb1)
  have XT1 := Lib.hid (XT0.out.step hb1)
  clear hb1
  have XT1_lt := XT1.out.lt
  have XT1_i0 := XT1.out.i0
  have XT1_i1 := XT1.out.i1
  have XT1_i2 := XT1.out.i2
  have XT1_i3 := XT1.out.i3
  go_wp2_with fail
  refine (H1.out _).mono ?_
  rintro e w2 ⟨rfl, hb2⟩
  have B2 := Lib.hid (below_next B1.out hb2)
  have XT2 := Lib.hid (XT1.out.step hb2)
  clear hb2
  have XT2_lt := XT2.out.lt
  have XT2_i0 := XT2.out.i0
  have XT2_i1 := XT2.out.i1
  have XT2_i2 := XT2.out.i2
  have XT2_i3 := XT2.out.i3
  go_wp2_with fail
  refine (H2.out _).mono ?_
  rintro e w3 ⟨rfl, hb3⟩
  have B3 := Lib.hid (below_next B2.out hb3)
  have XT3 := Lib.hid (XT2.out.step hb3)
  clear hb3
  have XT3_lt := XT3.out.lt
  have XT3_i0 := XT3.out.i0
  have XT3_i1 := XT3.out.i1
  have XT3_i2 := XT3.out.i2
  have XT3_i3 := XT3.out.i3
  go_wp2_with fail
  refine (H3.out _).mono ?_
  rintro e w4 ⟨rfl, hb4⟩
  have B4 := Lib.hid (below_next B3.out hb4)
  have XT4 := Lib.hid (XT3.out.step hb4)
  clear hb4
  have XT4_lt := XT4.out.lt
  have XT4_i0 := XT4.out.i0
  have XT4_i1 := XT4.out.i1
  have XT4_i2 := XT4.out.i2
  have XT4_i3 := XT4.out.i3
  go_wp2_with fail
  refine (H4.out _).mono ?_
  rintro e w5 ⟨rfl, hb5⟩
  have B5 := Lib.hid (below_next B4.out hb5)
  have XT5 := Lib.hid (XT4.out.step hb5)
  clear hb5
  have XT5_lt := XT5.out.lt
  have XT5_i0 := XT5.out.i0
  have XT5_i1 := XT5.out.i1
  have XT5_i2 := XT5.out.i2
  have XT5_i3 := XT5.out.i3
  go_wp2_with fail
  go_ret
  exact ⟨rfl, B5.out⟩
set_option maxRecDepth 100000 in
set_option maxHeartbeats 4000000 in
theorem starts_some1 (mul div tk hz a b : Int) (hm : 0 ≤ mul ∧ mul ≤ 1000) (hd : 0 ≤ div ∧ div ≤ 1000) (ht : 0 ≤ tk ∧ tk ≤ 1000) (hh : 0 ≤ hz ∧ hz ≤ 1000) (l : List Ins) (hl : l.length ≤ 40) (hop : insOK l) (hv : tval mul div tk hz = true) (N S M R Z Y : Int) (hN : (seqK mul div tk hz a l l.length).1 = N) (hS' : (seqK mul div tk hz a l l.length).2 = S) (hM : (seqK mul div tk hz b l l.length).1 = M) (hR : (seqK mul div tk hz b l l.length).2 = R) (hZ : (seqK mul div tk hz 0 l l.length).1 = Z) (hY : (seqK mul div tk hz 0 l l.length).2 = Y) (hz0 : l.length ≠ 0) (q : S = R) (w : World) (g off cp : Nat) (hS : SF g off l w) :
    Calls Try.prog 15 #[.agg #[.int .i64 mul, .int .i64 div, .int .i64 tk, .int .i64 hz], .int .i64 a, .int .i64 b, .slice (some ⟨g, off, none⟩) l.length cp] w fun e w' => e = .returned (.bool true) ∧ Below w.heap.size w w' := by
  have H1 := Lib.hid (fun W => valid8_any mul div tk hz true hv W)
  have h2 := fun s W (h : SF g off l W) => seq43_some mul div tk hz s hm hd ht hh l (by omega) hop g off cp W h
  have h2a := h2 a
  have h2b := h2 b
  have h2c := h2 0
  have near1 := seq_near mul div tk hz a b l hh.1 l.length
  have near2 := seq_near mul div tk hz b a l hh.1 l.length
  have zer := seq_zero mul div tk hz a l hop hh.1
  have inN := seqK_in a l hm hd ht hh l.length
  have inM := seqK_in b l hm hd ht hh l.length
  rw [hN, hM] at near1
  rw [hN, hM] at near2
  rw [hZ, hN] at zer
  rw [hN] at inN
  rw [hM] at inM
  rw [hN, hS'] at h2a
  rw [hM, hR] at h2b
  rw [hZ, hY] at h2c
  have H2 := Lib.hid h2a
  have H3 := Lib.hid h2b
  have H4 := Lib.hid h2c
  have wn1 : IntKind.i64.wrap (N - M) = N - M := Go.IntWalk.i64_in _ (by omega)
  have wn2 : IntKind.i64.wrap (M - N) = M - N := Go.IntWalk.i64_in _ (by omega)
  have e1 : decide (hz < N - M) = false := decide_eq_false (by omega)
  have e2 : decide (hz < M - N) = false := decide_eq_false (by omega)
  have e3 : decide (N < Z) = false := decide_eq_false (by omega)
  have HS := Lib.hid hS
  have d1 : decide ((40 : Int) < (l.length : Int)) = false := decide_eq_false (by omega)
  have d2 : decide (40 < l.length) = false := decide_eq_false (by omega)
  have z1 : ((l.length : Int) == 0) = false := by simpa using hz0
  have z2 : (l.length == 0) = false := by simpa using hz0
  subst q
  clear hm hd ht hh hS hv h2 h2a h2b h2c hN hS' hM hR hZ hY hop near1 near2 zer inN inM
  go_enter Try.func15, Try.ntmps15
  go_wp2_with fail
  have HS' := Lib.hid (HS.out.alloc (.cells #[.int .i64 (mul), .int .i64 (div), .int .i64 (tk), .int .i64 (hz)] 49))
  have XT0 := Lib.hid (TF.newAt (mul) (div) (tk) (hz) (w) (w.heap.size) (by simp))
  have BxT0 := Lib.hid (below_new (Below.refl w.heap.size w) (.cells #[.int .i64 (mul), .int .i64 (div), .int .i64 (tk), .int .i64 (hz)] 49))
  have HS'_lt := HS'.out.lt
  have XT0_lt := XT0.out.lt
  have XT0_i0 := XT0.out.i0
  have XT0_i1 := XT0.out.i1
  have XT0_i2 := XT0.out.i2
  have XT0_i3 := XT0.out.i3
  refine (awake8 _).mono ?_
  rintro e w1 ⟨rfl, hb1⟩
  have B1 := Lib.hid (below_next BxT0.out hb1)
  have XS1 := Lib.hid (HS'.out.step hb1)
  have XT1 := Lib.hid (XT0.out.step hb1)
  clear hb1
  have XS1_lt := XS1.out.lt
  have XT1_lt := XT1.out.lt
  have XT1_i0 := XT1.out.i0
  have XT1_i1 := XT1.out.i1
  have XT1_i2 := XT1.out.i2
  have XT1_i3 := XT1.out.i3
  go_wp2_with fail
  refine (H1.out _).mono ?_
  rintro e w2 ⟨rfl, hb2⟩
  have B2 := Lib.hid (below_next B1.out hb2)
  have XS2 := Lib.hid (XS1.out.step hb2)
  have XT2 := Lib.hid (XT1.out.step hb2)
  clear hb2
  have XS2_lt := XS2.out.lt
  have XT2_lt := XT2.out.lt
  have XT2_i0 := XT2.out.i0
  have XT2_i1 := XT2.out.i1
  have XT2_i2 := XT2.out.i2
  have XT2_i3 := XT2.out.i3
  go_wp2_with fail
  refine (H2.out _ XS2.out).mono ?_
  rintro e w3 ⟨rfl, hb3⟩
  have B3 := Lib.hid (below_next B2.out hb3)
  have XS3 := Lib.hid (XS2.out.step hb3)
  have XT3 := Lib.hid (XT2.out.step hb3)
  clear hb3
  have XS3_lt := XS3.out.lt
  have XT3_lt := XT3.out.lt
  have XT3_i0 := XT3.out.i0
  have XT3_i1 := XT3.out.i1
  have XT3_i2 := XT3.out.i2
  have XT3_i3 := XT3.out.i3
  go_wp2_with fail
  refine (H3.out _ XS3.out).mono ?_
  rintro e w4 ⟨rfl, hb4⟩
  have B4 := Lib.hid (below_next B3.out hb4)
  have XS4 := Lib.hid (XS3.out.step hb4)
  have XT4 := Lib.hid (XT3.out.step hb4)
  clear hb4
  have XS4_lt := XS4.out.lt
  have XT4_lt := XT4.out.lt
  have XT4_i0 := XT4.out.i0
  have XT4_i1 := XT4.out.i1
  have XT4_i2 := XT4.out.i2
  have XT4_i3 := XT4.out.i3
  go_wp2_with fail
  refine (H4.out _ XS4.out).mono ?_
  rintro e w5 ⟨rfl, hb5⟩
  have B5 := Lib.hid (below_next B4.out hb5)
  have XS5 := Lib.hid (XS4.out.step hb5)
  have XT5 := Lib.hid (XT4.out.step hb5)
  clear hb5
  have XS5_lt := XS5.out.lt
  have XT5_lt := XT5.out.lt
  have XT5_i0 := XT5.out.i0
  have XT5_i1 := XT5.out.i1
  have XT5_i2 := XT5.out.i2
  have XT5_i3 := XT5.out.i3
  go_wp2_with fail
  go_ret
  exact ⟨rfl, B5.out⟩
theorem walk_PipelineStarts (mul div tk hz : Int) (w1 : (Lit.int .i64 mul).wf = true) (w2 : (Lit.int .i64 div).wf = true) (w3 : (Lit.int .i64 tk).wf = true) (w4 : (Lit.int .i64 hz).wf = true) (a : Int) (w5 : (Lit.int .i64 a).wf = true) (b : Int) (w6 : (Lit.int .i64 b).wf = true) (v : Value) (l : List Ins) (hop : insOK l) (w : World) (hV : SV v l w) :
    Calls Try.prog 15 #[.agg #[.int .i64 mul, .int .i64 div, .int .i64 tk, .int .i64 hz], .int .i64 a, .int .i64 b, v] w fun e w' => e = .returned (.bool true) ∧ Below w.heap.size w w' := by
  cases hv : tval mul div tk hz
  · rcases hV with ⟨_, A, c, rfl⟩ | ⟨g, off, c, rfl, _⟩
    · exact starts_early1 mul div tk hz a b _ _ _ hv w
    · exact starts_early1 mul div tk hz a b _ _ _ hv w
  · obtain ⟨hm, hd, ht, hh⟩ := tval_parts hv
    rcases hV with ⟨hl0, A, c, rfl⟩ | ⟨g, off, c, rfl, hS⟩
    · exact starts_none mul div tk hz a b hm hd ht hh l (by rw [hl0]; simp) hop hv w A c hl0
    · by_cases hl : l.length ≤ 40
      · by_cases hz0 : l.length = 0
        · have hn : l = [] := List.length_eq_zero_iff.1 hz0
          subst hn
          exact starts_none mul div tk hz a b hm hd ht hh [] (by simp) hop hv w (some ⟨g, off, none⟩) c rfl
        · exact starts_some1 mul div tk hz a b hm hd ht hh l hl hop hv _ _ _ _ _ _ rfl rfl rfl rfl rfl rfl hz0 (seq_end mul div tk hz a b l l.length hz0) w g off c hS
      · exact starts_early2 mul div tk hz a b _ _ _ hv (by omega) w
end Go.Proofs.Ytgjpenhfechhcaa
