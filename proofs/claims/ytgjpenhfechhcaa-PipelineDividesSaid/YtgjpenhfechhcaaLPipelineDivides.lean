/- The walk of PipelineDivides: it returns true whatever the input. -/
import Derived.Test.YtgjpenhfechhcaaA23
import Derived.BigQuiet
import Derived.IntWalk
import Derived.Deep.RegionHeld3
namespace Go.Proofs.Ytgjpenhfechhcaa
set_option linter.unusedVariables false
set_option linter.unusedSimpArgs false
open Go.RowKit Go.Proofs.YtgjpenhfechhcaaW.PrintWords Go.Proofs.YtgjpenhfechhcaaW.PrintLast Go.Proofs.YtgjpenhfechhcaaW.PrintMore
open PIsaDecodes
theorem tmod_small {x n : Int} (h : 0 ≤ x) : x.tmod n = x % n := Int.tmod_eq_emod_of_nonneg h
set_option maxRecDepth 100000 in
set_option maxHeartbeats 4000000 in
theorem divides_early1 (mul div tk hz cut s : Int) (A : Option Addr) (n cp : Nat) (hv : tval mul div tk hz = false) (w : World) :
    Calls Try.prog 14 #[.agg #[.int .i64 mul, .int .i64 div, .int .i64 tk, .int .i64 hz], .int .i64 s, .slice A n cp, .int .u8 cut] w fun e w' => e = .returned (.bool true) ∧ Below w.heap.size w w' := by
  have H1 := Lib.hid (fun W => valid8_any mul div tk hz false hv W)
  clear hv
  go_enter Try.func14, Try.ntmps14
  go_wp2_with fail
  have XT0 := Lib.hid (TF.newAt (mul) (div) (tk) (hz) (w) (w.heap.size) (by simp))
  have BxT0 := Lib.hid (below_new (Below.refl w.heap.size w) (.cells #[.int .i64 (mul), .int .i64 (div), .int .i64 (tk), .int .i64 (hz)] 49))
  have XT0_lt := XT0.out.lt
  have XT0_i0 := XT0.out.i0
  have XT0_i1 := XT0.out.i1
  have XT0_i2 := XT0.out.i2
  have XT0_i3 := XT0.out.i3
  refine (awake8 _).mono ?_
  rintro e w1 ⟨rfl, hb1⟩
  have B1 := Lib.hid (below_next BxT0.out hb1)
  have XT1 := Lib.hid (XT0.out.step hb1)
  clear hb1
  have XT1_lt := XT1.out.lt
  have XT1_i0 := XT1.out.i0
  have XT1_i1 := XT1.out.i1
  have XT1_i2 := XT1.out.i2
  have XT1_i3 := XT1.out.i3
  go_wp2_with fail
  refine (H1.out _).mono ?_
  rintro e w2 ⟨rfl, hb2⟩
  have B2 := Lib.hid (below_next B1.out hb2)
  have XT2 := Lib.hid (XT1.out.step hb2)
  clear hb2
  have XT2_lt := XT2.out.lt
  have XT2_i0 := XT2.out.i0
  have XT2_i1 := XT2.out.i1
  have XT2_i2 := XT2.out.i2
  have XT2_i3 := XT2.out.i3
  go_wp2_with fail
  go_ret
  exact ⟨rfl, B2.out⟩
set_option maxRecDepth 100000 in
set_option maxHeartbeats 4000000 in
theorem divides_early2 (mul div tk hz cut s : Int) (A : Option Addr) (n cp : Nat) (hv : tval mul div tk hz = true) (hn : 40 < n) (w : World) :
    Calls Try.prog 14 #[.agg #[.int .i64 mul, .int .i64 div, .int .i64 tk, .int .i64 hz], .int .i64 s, .slice A n cp, .int .u8 cut] w fun e w' => e = .returned (.bool true) ∧ Below w.heap.size w w' := by
  have H1 := Lib.hid (fun W => valid8_any mul div tk hz true hv W)
  have d1 : decide ((40 : Int) < (n : Int)) = true := decide_eq_true (by omega)
  have d2 : decide (40 < n) = true := decide_eq_true hn
  clear hv hn
  go_enter Try.func14, Try.ntmps14
  go_wp2_with fail
  have XT0 := Lib.hid (TF.newAt (mul) (div) (tk) (hz) (w) (w.heap.size) (by simp))
  have BxT0 := Lib.hid (below_new (Below.refl w.heap.size w) (.cells #[.int .i64 (mul), .int .i64 (div), .int .i64 (tk), .int .i64 (hz)] 49))
  have XT0_lt := XT0.out.lt
  have XT0_i0 := XT0.out.i0
  have XT0_i1 := XT0.out.i1
  have XT0_i2 := XT0.out.i2
  have XT0_i3 := XT0.out.i3
  refine (awake8 _).mono ?_
  rintro e w1 ⟨rfl, hb1⟩
  have B1 := Lib.hid (below_next BxT0.out hb1)
  have XT1 := Lib.hid (XT0.out.step hb1)
  clear hb1
  have XT1_lt := XT1.out.lt
  have XT1_i0 := XT1.out.i0
  have XT1_i1 := XT1.out.i1
  have XT1_i2 := XT1.out.i2
  have XT1_i3 := XT1.out.i3
  go_wp2_with fail
  refine (H1.out _).mono ?_
  rintro e w2 ⟨rfl, hb2⟩
  have B2 := Lib.hid (below_next B1.out hb2)
  have XT2 := Lib.hid (XT1.out.step hb2)
  clear hb2
  have XT2_lt := XT2.out.lt
  have XT2_i0 := XT2.out.i0
  have XT2_i1 := XT2.out.i1
  have XT2_i2 := XT2.out.i2
  have XT2_i3 := XT2.out.i3
  go_wp2_with fail
  go_ret
  exact ⟨rfl, B2.out⟩
/-- a part of a slice of instructions -/
theorem SF.take {g off : Nat} {l : List Ins} {W : World} (h : SF g off l W) (n : Nat) (hn : n ≤ l.length) : SF g off (l.take n) W := by
  have e : ∀ i, i < (l.take n).length → i < n ∧ nth (l.take n) i = nth l i := by
    intro i hi
    have hi' : i < n := by simp at hi; omega
    refine ⟨hi', ?_⟩
    unfold nth
    rw [List.getD_eq_getElem?_getD, List.getD_eq_getElem?_getD, List.getElem?_take_of_lt hi']
  exact ⟨h.lt, fun i hi => by rw [(e i hi).2]; exact h.at0 i (by have := (e i hi).1; omega), fun i hi => by rw [(e i hi).2]; exact h.at1 i (by have := (e i hi).1; omega), fun i hi => by rw [(e i hi).2]; exact h.at2 i (by have := (e i hi).1; omega), fun i hi => by rw [(e i hi).2]; exact h.at3 i (by have := (e i hi).1; omega), fun i hi => by rw [(e i hi).2]; exact h.at4 i (by have := (e i hi).1; omega)⟩
theorem SF.drop {g off : Nat} {l : List Ins} {W : World} (h : SF g off l W) (n : Nat) (hn : n ≤ l.length) : SF g (off + n * 5) (l.drop n) W := by
  have e : ∀ i, i < (l.drop n).length → n + i < l.length ∧ nth (l.drop n) i = nth l (n + i) := by
    intro i hi
    refine ⟨by simp at hi; omega, ?_⟩
    unfold nth
    rw [List.getD_eq_getElem?_getD, List.getD_eq_getElem?_getD, List.getElem?_drop]
  have o : ∀ i, off + n * 5 + i * 5 = off + (n + i) * 5 := fun i => by omega
  exact ⟨h.lt, fun i hi => by rw [(e i hi).2, o]; exact h.at0 _ (e i hi).1, fun i hi => by rw [(e i hi).2, o]; exact h.at1 _ (e i hi).1, fun i hi => by rw [(e i hi).2, o]; exact h.at2 _ (e i hi).1, fun i hi => by rw [(e i hi).2, o]; exact h.at3 _ (e i hi).1, fun i hi => by rw [(e i hi).2, o]; exact h.at4 _ (e i hi).1⟩
theorem insOK.take {l : List Ins} (h : insOK l) (n : Nat) : insOK (l.take n) := by
  intro i hi
  have hi' : i < n ∧ i < l.length := by simp at hi; omega
  have e : nth (l.take n) i = nth l i := by
    unfold nth
    rw [List.getD_eq_getElem?_getD, List.getD_eq_getElem?_getD, List.getElem?_take_of_lt hi'.1]
  rw [e]; exact h i hi'.2
theorem insOK.drop {l : List Ins} (h : insOK l) (n : Nat) : insOK (l.drop n) := by
  intro i hi
  have hi' : n + i < l.length := by simp at hi; omega
  have e : nth (l.drop n) i = nth l (n + i) := by
    unfold nth
    rw [List.getD_eq_getElem?_getD, List.getD_eq_getElem?_getD, List.getElem?_drop]
  rw [e]; exact h _ hi'
set_option maxRecDepth 100000 in
set_option maxHeartbeats 4000000 in
theorem divides_none (mul div tk hz s cut : Int) (u0 : 0 ≤ cut) (u1 : cut ≤ 255) (hm : 0 ≤ mul ∧ mul ≤ 1000) (hd : 0 ≤ div ∧ div ≤ 1000) (ht : 0 ≤ tk ∧ tk ≤ 1000) (hh : 0 ≤ hz ∧ hz ≤ 1000) (l : List Ins) (hl : l.length ≤ 40) (hop : insOK l) (hv : tval mul div tk hz = true) (w : World) (A : Option Addr) (cp : Nat) (hl0 : l = []) :
    Calls Try.prog 14 #[.agg #[.int .i64 mul, .int .i64 div, .int .i64 tk, .int .i64 hz], .int .i64 s, .slice A 0 cp, .int .u8 cut] w fun e w' => e = .returned (.bool true) ∧ Below w.heap.size w w' := by
  subst hl0
  have H1 := Lib.hid (fun W => valid8_any mul div tk hz true hv W)
  have H2 := Lib.hid (fun A cp W => seq43_none mul div tk hz s A cp W)
  have e1 : cut.tmod 1 = 0 := Int.tmod_one cut
  have e2 : cut % 1 = 0 := by omega
  have k1 : (0 : Int) ≤ (cp : Int) := by omega
  clear hv hm hd ht hh hop
  go_enter Try.func14, Try.ntmps14
  go_wp2_with fail
  have XT0 := Lib.hid (TF.newAt (mul) (div) (tk) (hz) (w) (w.heap.size) (by simp))
  have BxT0 := Lib.hid (below_new (Below.refl w.heap.size w) (.cells #[.int .i64 (mul), .int .i64 (div), .int .i64 (tk), .int .i64 (hz)] 49))
  have XT0_lt := XT0.out.lt
  have XT0_i0 := XT0.out.i0
  have XT0_i1 := XT0.out.i1
  have XT0_i2 := XT0.out.i2
  have XT0_i3 := XT0.out.i3
  refine (awake8 _).mono ?_
  rintro e w1 ⟨rfl, hb1⟩
  have B1 := Lib.hid (below_next BxT0.out hb1)
  have XT1 := Lib.hid (XT0.out.step hb1)
  clear hb1
  have XT1_lt := XT1.out.lt
  have XT1_i0 := XT1.out.i0
  have XT1_i1 := XT1.out.i1
  have XT1_i2 := XT1.out.i2
  have XT1_i3 := XT1.out.i3
  go_wp2_with fail
  refine (H1.out _).mono ?_
  rintro e w2 ⟨rfl, hb2⟩
  have B2 := Lib.hid (below_next B1.out hb2)
  have XT2 := Lib.hid (XT1.out.step hb2)
  clear hb2
  have XT2_lt := XT2.out.lt
  have XT2_i0 := XT2.out.i0
  have XT2_i1 := XT2.out.i1
  have XT2_i2 := XT2.out.i2
  have XT2_i3 := XT2.out.i3
  go_wp2_with fail
  have t0 := XT2.out.i0
  have t1 := XT2.out.i1
  have t2 := XT2.out.i2
  have t3 := XT2.out.i3
  have tlt := XT2.out.lt
  go_region_held3 (fun W => W.cell? ⟨w.heap.size, 0, none⟩ = some (.int .i64 mul) ∧ W.cell? ⟨w.heap.size, 1, none⟩ = some (.int .i64 div) ∧ W.cell? ⟨w.heap.size, 2, none⟩ = some (.int .i64 tk) ∧ W.cell? ⟨w.heap.size, 3, none⟩ = some (.int .i64 hz))
    (first | exact ⟨t0, t1, t2, t3⟩ | exact ⟨(hb2.cell (p := ⟨w.heap.size, 0, none⟩) tlt).trans t0, (hb2.cell (p := ⟨w.heap.size, 1, none⟩) tlt).trans t1, (hb2.cell (p := ⟨w.heap.size, 2, none⟩) tlt).trans t2, (hb2.cell (p := ⟨w.heap.size, 3, none⟩) tlt).trans t3⟩)
    (first | (go_at_call 43; refine (H2.out _ _ _).mono ?_; rintro e w3 ⟨rfl, hb'⟩; have hb2 := below_dt hb'))
  clear t0 t1 t2 t3 tlt
  have B3 := Lib.hid (below_next B2.out hb2)
  have XT3 := Lib.hid (XT2.out.step hb2)
  clear hb2 hb'
  have XT3_lt := XT3.out.lt
  have XT3_i0 := XT3.out.i0
  have XT3_i1 := XT3.out.i1
  have XT3_i2 := XT3.out.i2
  have XT3_i3 := XT3.out.i3
  go_wp2_with fail
  have t0 := XT3.out.i0
  have t1 := XT3.out.i1
  have t2 := XT3.out.i2
  have t3 := XT3.out.i3
  have tlt := XT3.out.lt
  go_region_held3 (fun W => W.cell? ⟨w.heap.size, 0, none⟩ = some (.int .i64 mul) ∧ W.cell? ⟨w.heap.size, 1, none⟩ = some (.int .i64 div) ∧ W.cell? ⟨w.heap.size, 2, none⟩ = some (.int .i64 tk) ∧ W.cell? ⟨w.heap.size, 3, none⟩ = some (.int .i64 hz))
    (first | exact ⟨t0, t1, t2, t3⟩ | exact ⟨(hb2.cell (p := ⟨w.heap.size, 0, none⟩) tlt).trans t0, (hb2.cell (p := ⟨w.heap.size, 1, none⟩) tlt).trans t1, (hb2.cell (p := ⟨w.heap.size, 2, none⟩) tlt).trans t2, (hb2.cell (p := ⟨w.heap.size, 3, none⟩) tlt).trans t3⟩)
    (first | (go_at_call 43; refine (H2.out _ _ _).mono ?_; rintro e w4 ⟨rfl, hb'⟩; have hb2 := below_dt hb'))
  clear t0 t1 t2 t3 tlt
  have B4 := Lib.hid (below_next B3.out hb2)
  have XT4 := Lib.hid (XT3.out.step hb2)
  clear hb2 hb'
  have XT4_lt := XT4.out.lt
  have XT4_i0 := XT4.out.i0
  have XT4_i1 := XT4.out.i1
  have XT4_i2 := XT4.out.i2
  have XT4_i3 := XT4.out.i3
  go_wp2_with fail
  refine (H2.out _ _ _).mono ?_
  rintro e w5 ⟨rfl, hb5⟩
  have B5 := Lib.hid (below_next B4.out hb5)
  have XT5 := Lib.hid (XT4.out.step hb5)
  clear hb5
  have XT5_lt := XT5.out.lt
  have XT5_i0 := XT5.out.i0
  have XT5_i1 := XT5.out.i1
  have XT5_i2 := XT5.out.i2
  have XT5_i3 := XT5.out.i3
  go_wp2_with fail
  go_ret
  exact ⟨rfl, B5.out⟩
set_option maxRecDepth 100000 in
set_option maxHeartbeats 4000000 in
theorem divides_some (mul div tk hz s cut : Int) (u0 : 0 ≤ cut) (u1 : cut ≤ 255) (hm : 0 ≤ mul ∧ mul ≤ 1000) (hd : 0 ≤ div ∧ div ≤ 1000) (ht : 0 ≤ tk ∧ tk ≤ 1000) (hh : 0 ≤ hz ∧ hz ≤ 1000) (l : List Ins) (hl : l.length ≤ 40) (hop : insOK l) (hv : tval mul div tk hz = true) (kk : Nat) (hk0 : kk ≤ l.length) (hkk : cut % ((l.length : Int) + 1) = (kk : Int)) (N S P Q R X : Int) (hN : (seqK mul div tk hz s (l.take kk) (l.take kk).length).1 = N) (hS' : (seqK mul div tk hz s (l.take kk) (l.take kk).length).2 = S) (hP : (seqK mul div tk hz S (l.drop kk) (l.drop kk).length).1 = P) (hQ : (seqK mul div tk hz S (l.drop kk) (l.drop kk).length).2 = Q) (hR : (seqK mul div tk hz s l l.length).1 = R) (hX : (seqK mul div tk hz s l l.length).2 = X) (heq1 : R = N + P) (heq2 : X = Q) (hne : l.length ≠ 0) (w : World) (g off cp : Nat) (hcp : l.length ≤ cp) (hck : ¬ cp = kk) (hS : SF g off l w) :
    Calls Try.prog 14 #[.agg #[.int .i64 mul, .int .i64 div, .int .i64 tk, .int .i64 hz], .int .i64 s, .slice (some ⟨g, off, none⟩) l.length cp, .int .u8 cut] w fun e w' => e = .returned (.bool true) ∧ Below w.heap.size w w' := by
  have h2 := fun v W (h : SV v (l.take kk) W) => seq43 mul div tk hz s hm hd ht hh (l.take kk) (by simp; omega) (hop.take kk) v W h
  have h3 := fun v W (h : SV v (l.drop kk) W) => seq43 mul div tk hz S hm hd ht hh (l.drop kk) (by simp; omega) (hop.drop kk) v W h
  have h4 := fun W (h : SF g off l W) => seq43_some mul div tk hz s hm hd ht hh l (by omega) hop g off cp W h
  have in1 := seqK_in s (l.take kk) hm hd ht hh (l.take kk).length
  have in2 := seqK_in S (l.drop kk) hm hd ht hh (l.drop kk).length
  have il1 : (l.take kk).length ≤ 40 := by simp; omega
  have il2 : (l.drop kk).length ≤ 40 := by simp; omega
  rw [hN] at in1
  rw [hP] at in2
  rw [hN, hS'] at h2
  rw [hP, hQ] at h3
  rw [hR, hX] at h4
  have b1 : 0 ≤ N ∧ N ≤ 200000 := by omega
  have b2 : 0 ≤ P ∧ P ≤ 200000 := by omega
  have v2 : ∀ W, SF g off l W → ∀ v, v = .slice (some ⟨g, off, none⟩) kk cp → SV v (l.take kk) W := fun W h v hv => .inr ⟨g, off, cp, by rw [hv]; simp; omega, h.take kk hk0⟩
  have v3 : ∀ W, SF g off l W → ∀ v, v = .slice (some ⟨g, off + kk * 5, none⟩) (l.length - kk) (cp - kk) → SV v (l.drop kk) W := fun W h v hv => .inr ⟨g, off + kk * 5, cp - kk, by rw [hv]; simp, h.drop kk hk0⟩
  have H1 := Lib.hid (fun W => valid8_any mul div tk hz true hv W)
  have H2 := Lib.hid (fun W h => h2 (.slice (some ⟨g, off, none⟩) kk cp) W (v2 W h _ rfl))
  have H3 := Lib.hid (fun W h => h3 (.slice (some ⟨g, off + kk * 5, none⟩) (l.length - kk) (cp - kk)) W (v3 W h _ rfl))
  have H4 := Lib.hid h4
  have HS := Lib.hid hS
  have e1 : cut.tmod ((l.length : Int) + 1) = (kk : Int) := (tmod_small u0).trans hkk
  have d1 : decide ((40 : Int) < (l.length : Int)) = false := decide_eq_false (by omega)
  have d2 : decide (40 < l.length) = false := decide_eq_false (by omega)
  have k1 : (kk : Int) ≤ (l.length : Int) := by omega
  have k2 : (kk : Int) ≤ (cp : Int) := by omega
  have k3 : (0 : Int) ≤ (kk : Int) := by omega
  have k4 : (l.length : Int) ≤ (cp : Int) := by omega
  have hc0 : ¬ cp = 0 := by omega
  have q1 : (R == N + P) = true := by rw [heq1]; simp
  have q2 : (X == Q) = true := by rw [heq2]; simp
  clear hm hd ht hh hS hv h2 h3 h4 v2 v3 in1 in2 il1 il2 hN hS' hP hQ hR hX heq1 heq2 hop
  go_enter Try.func14, Try.ntmps14
  go_wp2_with fail
  have HS' := Lib.hid (HS.out.alloc (.cells #[.int .i64 (mul), .int .i64 (div), .int .i64 (tk), .int .i64 (hz)] 49))
  have XT0 := Lib.hid (TF.newAt (mul) (div) (tk) (hz) (w) (w.heap.size) (by simp))
  have BxT0 := Lib.hid (below_new (Below.refl w.heap.size w) (.cells #[.int .i64 (mul), .int .i64 (div), .int .i64 (tk), .int .i64 (hz)] 49))
  have HS'_lt := HS'.out.lt
  have XT0_lt := XT0.out.lt
  have XT0_i0 := XT0.out.i0
  have XT0_i1 := XT0.out.i1
  have XT0_i2 := XT0.out.i2
  have XT0_i3 := XT0.out.i3
  refine (awake8 _).mono ?_
  rintro e w1 ⟨rfl, hb1⟩
  have B1 := Lib.hid (below_next BxT0.out hb1)
  have XS1 := Lib.hid (HS'.out.step hb1)
  have XT1 := Lib.hid (XT0.out.step hb1)
  clear hb1
  have XS1_lt := XS1.out.lt
  have XT1_lt := XT1.out.lt
  have XT1_i0 := XT1.out.i0
  have XT1_i1 := XT1.out.i1
  have XT1_i2 := XT1.out.i2
  have XT1_i3 := XT1.out.i3
  go_wp2_with fail
  refine (H1.out _).mono ?_
  rintro e w2 ⟨rfl, hb2⟩
  have B2 := Lib.hid (below_next B1.out hb2)
  have XS2 := Lib.hid (XS1.out.step hb2)
  have XT2 := Lib.hid (XT1.out.step hb2)
  clear hb2
  have XS2_lt := XS2.out.lt
  have XT2_lt := XT2.out.lt
  have XT2_i0 := XT2.out.i0
  have XT2_i1 := XT2.out.i1
  have XT2_i2 := XT2.out.i2
  have XT2_i3 := XT2.out.i3
  go_wp2_with fail
  have t0 := XT2.out.i0
  have t1 := XT2.out.i1
  have t2 := XT2.out.i2
  have t3 := XT2.out.i3
  have tlt := XT2.out.lt
  go_region_held3 (fun W => W.cell? ⟨w.heap.size, 0, none⟩ = some (.int .i64 mul) ∧ W.cell? ⟨w.heap.size, 1, none⟩ = some (.int .i64 div) ∧ W.cell? ⟨w.heap.size, 2, none⟩ = some (.int .i64 tk) ∧ W.cell? ⟨w.heap.size, 3, none⟩ = some (.int .i64 hz))
    (first | exact ⟨t0, t1, t2, t3⟩ | exact ⟨(hb2.cell (p := ⟨w.heap.size, 0, none⟩) tlt).trans t0, (hb2.cell (p := ⟨w.heap.size, 1, none⟩) tlt).trans t1, (hb2.cell (p := ⟨w.heap.size, 2, none⟩) tlt).trans t2, (hb2.cell (p := ⟨w.heap.size, 3, none⟩) tlt).trans t3⟩)
    (first | (go_at_call 43; refine (H2.out _ (XS2.out.step (below_dr _))).mono ?_; rintro e w3 ⟨rfl, hb'⟩; have hb2 := below_dt hb'))
  clear t0 t1 t2 t3 tlt
  have B3 := Lib.hid (below_next B2.out hb2)
  have XS3 := Lib.hid (XS2.out.step hb2)
  have XT3 := Lib.hid (XT2.out.step hb2)
  clear hb2 hb'
  have XS3_lt := XS3.out.lt
  have XT3_lt := XT3.out.lt
  have XT3_i0 := XT3.out.i0
  have XT3_i1 := XT3.out.i1
  have XT3_i2 := XT3.out.i2
  have XT3_i3 := XT3.out.i3
  go_wp2_with fail
  have t0 := XT3.out.i0
  have t1 := XT3.out.i1
  have t2 := XT3.out.i2
  have t3 := XT3.out.i3
  have tlt := XT3.out.lt
  go_region_held3 (fun W => W.cell? ⟨w.heap.size, 0, none⟩ = some (.int .i64 mul) ∧ W.cell? ⟨w.heap.size, 1, none⟩ = some (.int .i64 div) ∧ W.cell? ⟨w.heap.size, 2, none⟩ = some (.int .i64 tk) ∧ W.cell? ⟨w.heap.size, 3, none⟩ = some (.int .i64 hz))
    (first | exact ⟨t0, t1, t2, t3⟩ | exact ⟨(hb2.cell (p := ⟨w.heap.size, 0, none⟩) tlt).trans t0, (hb2.cell (p := ⟨w.heap.size, 1, none⟩) tlt).trans t1, (hb2.cell (p := ⟨w.heap.size, 2, none⟩) tlt).trans t2, (hb2.cell (p := ⟨w.heap.size, 3, none⟩) tlt).trans t3⟩)
    (first | (go_at_call 43; refine (H3.out _ (XS3.out.step (below_dr _))).mono ?_; rintro e w4 ⟨rfl, hb'⟩; have hb2 := below_dt hb'))
  clear t0 t1 t2 t3 tlt
  have B4 := Lib.hid (below_next B3.out hb2)
  have XS4 := Lib.hid (XS3.out.step hb2)
  have XT4 := Lib.hid (XT3.out.step hb2)
  clear hb2 hb'
  have XS4_lt := XS4.out.lt
  have XT4_lt := XT4.out.lt
  have XT4_i0 := XT4.out.i0
  have XT4_i1 := XT4.out.i1
  have XT4_i2 := XT4.out.i2
  have XT4_i3 := XT4.out.i3
  go_wp2_with fail
  refine (H4.out _ XS4.out).mono ?_
  rintro e w5 ⟨rfl, hb5⟩
  have B5 := Lib.hid (below_next B4.out hb5)
  have XS5 := Lib.hid (XS4.out.step hb5)
  have XT5 := Lib.hid (XT4.out.step hb5)
  clear hb5
  have XS5_lt := XS5.out.lt
  have XT5_lt := XT5.out.lt
  have XT5_i0 := XT5.out.i0
  have XT5_i1 := XT5.out.i1
  have XT5_i2 := XT5.out.i2
  have XT5_i3 := XT5.out.i3
  go_wp2_with fail
  go_ret
  exact ⟨rfl, B5.out⟩
set_option maxRecDepth 100000 in
set_option maxHeartbeats 4000000 in
theorem divides_all (mul div tk hz s cut : Int) (u0 : 0 ≤ cut) (u1 : cut ≤ 255) (hm : 0 ≤ mul ∧ mul ≤ 1000) (hd : 0 ≤ div ∧ div ≤ 1000) (ht : 0 ≤ tk ∧ tk ≤ 1000) (hh : 0 ≤ hz ∧ hz ≤ 1000) (l : List Ins) (hl : l.length ≤ 40) (hop : insOK l) (hv : tval mul div tk hz = true) (hkk : cut % ((l.length : Int) + 1) = (l.length : Int)) (R X : Int) (hR : (seqK mul div tk hz s l l.length).1 = R) (hX : (seqK mul div tk hz s l l.length).2 = X) (hne : l.length ≠ 0) (w : World) (g off : Nat) (hS : SF g off l w) :
    Calls Try.prog 14 #[.agg #[.int .i64 mul, .int .i64 div, .int .i64 tk, .int .i64 hz], .int .i64 s, .slice (some ⟨g, off, none⟩) l.length l.length, .int .u8 cut] w fun e w' => e = .returned (.bool true) ∧ Below w.heap.size w w' := by
  have h4 := fun W (h : SF g off l W) => seq43_some mul div tk hz s hm hd ht hh l (by omega) hop g off l.length W h
  have in1 := seqK_in s l hm hd ht hh l.length
  rw [hR] at in1
  rw [hR, hX] at h4
  have b1 : 0 ≤ R ∧ R ≤ 200000 := by omega
  have H1 := Lib.hid (fun W => valid8_any mul div tk hz true hv W)
  have H3 := Lib.hid (fun A c W => seq43_none mul div tk hz X A c W)
  have H4 := Lib.hid h4
  have HS := Lib.hid hS
  have e1 : cut.tmod ((l.length : Int) + 1) = (l.length : Int) := (tmod_small u0).trans hkk
  have d1 : decide ((40 : Int) < (l.length : Int)) = false := decide_eq_false (by omega)
  have d2 : decide (40 < l.length) = false := decide_eq_false (by omega)
  have k3 : (0 : Int) ≤ (l.length : Int) := by omega
  have hc0 : ¬ l.length = 0 := hne
  clear hm hd ht hh hS hv h4 in1 hR hX hop hne
  go_enter Try.func14, Try.ntmps14
  go_wp2_with fail
  have HS' := Lib.hid (HS.out.alloc (.cells #[.int .i64 (mul), .int .i64 (div), .int .i64 (tk), .int .i64 (hz)] 49))
  have XT0 := Lib.hid (TF.newAt (mul) (div) (tk) (hz) (w) (w.heap.size) (by simp))
  have BxT0 := Lib.hid (below_new (Below.refl w.heap.size w) (.cells #[.int .i64 (mul), .int .i64 (div), .int .i64 (tk), .int .i64 (hz)] 49))
  have HS'_lt := HS'.out.lt
  have XT0_lt := XT0.out.lt
  have XT0_i0 := XT0.out.i0
  have XT0_i1 := XT0.out.i1
  have XT0_i2 := XT0.out.i2
  have XT0_i3 := XT0.out.i3
  refine (awake8 _).mono ?_
  rintro e w1 ⟨rfl, hb1⟩
  have B1 := Lib.hid (below_next BxT0.out hb1)
  have XS1 := Lib.hid (HS'.out.step hb1)
  have XT1 := Lib.hid (XT0.out.step hb1)
  clear hb1
  have XS1_lt := XS1.out.lt
  have XT1_lt := XT1.out.lt
  have XT1_i0 := XT1.out.i0
  have XT1_i1 := XT1.out.i1
  have XT1_i2 := XT1.out.i2
  have XT1_i3 := XT1.out.i3
  go_wp2_with fail
  refine (H1.out _).mono ?_
  rintro e w2 ⟨rfl, hb2⟩
  have B2 := Lib.hid (below_next B1.out hb2)
  have XS2 := Lib.hid (XS1.out.step hb2)
  have XT2 := Lib.hid (XT1.out.step hb2)
  clear hb2
  have XS2_lt := XS2.out.lt
  have XT2_lt := XT2.out.lt
  have XT2_i0 := XT2.out.i0
  have XT2_i1 := XT2.out.i1
  have XT2_i2 := XT2.out.i2
  have XT2_i3 := XT2.out.i3
  go_wp2_with fail
  have t0 := XT2.out.i0
  have t1 := XT2.out.i1
  have t2 := XT2.out.i2
  have t3 := XT2.out.i3
  have tlt := XT2.out.lt
  go_region_held3 (fun W => W.cell? ⟨w.heap.size, 0, none⟩ = some (.int .i64 mul) ∧ W.cell? ⟨w.heap.size, 1, none⟩ = some (.int .i64 div) ∧ W.cell? ⟨w.heap.size, 2, none⟩ = some (.int .i64 tk) ∧ W.cell? ⟨w.heap.size, 3, none⟩ = some (.int .i64 hz))
    (first | exact ⟨t0, t1, t2, t3⟩ | exact ⟨(hb2.cell (p := ⟨w.heap.size, 0, none⟩) tlt).trans t0, (hb2.cell (p := ⟨w.heap.size, 1, none⟩) tlt).trans t1, (hb2.cell (p := ⟨w.heap.size, 2, none⟩) tlt).trans t2, (hb2.cell (p := ⟨w.heap.size, 3, none⟩) tlt).trans t3⟩)
    (first | (go_at_call 43; refine (H4.out _ (XS2.out.step (below_dr _))).mono ?_; rintro e w3 ⟨rfl, hb'⟩; have hb2 := below_dt hb'))
  clear t0 t1 t2 t3 tlt
  have B3 := Lib.hid (below_next B2.out hb2)
  have XS3 := Lib.hid (XS2.out.step hb2)
  have XT3 := Lib.hid (XT2.out.step hb2)
  clear hb2 hb'
  have XS3_lt := XS3.out.lt
  have XT3_lt := XT3.out.lt
  have XT3_i0 := XT3.out.i0
  have XT3_i1 := XT3.out.i1
  have XT3_i2 := XT3.out.i2
  have XT3_i3 := XT3.out.i3
  go_wp2_with fail
  have t0 := XT3.out.i0
  have t1 := XT3.out.i1
  have t2 := XT3.out.i2
  have t3 := XT3.out.i3
  have tlt := XT3.out.lt
  go_region_held3 (fun W => W.cell? ⟨w.heap.size, 0, none⟩ = some (.int .i64 mul) ∧ W.cell? ⟨w.heap.size, 1, none⟩ = some (.int .i64 div) ∧ W.cell? ⟨w.heap.size, 2, none⟩ = some (.int .i64 tk) ∧ W.cell? ⟨w.heap.size, 3, none⟩ = some (.int .i64 hz))
    (first | exact ⟨t0, t1, t2, t3⟩ | exact ⟨(hb2.cell (p := ⟨w.heap.size, 0, none⟩) tlt).trans t0, (hb2.cell (p := ⟨w.heap.size, 1, none⟩) tlt).trans t1, (hb2.cell (p := ⟨w.heap.size, 2, none⟩) tlt).trans t2, (hb2.cell (p := ⟨w.heap.size, 3, none⟩) tlt).trans t3⟩)
    (first | (go_at_call 43; refine (H3.out _ _ _).mono ?_; rintro e w4 ⟨rfl, hb'⟩; have hb2 := below_dt hb'))
  clear t0 t1 t2 t3 tlt
  have B4 := Lib.hid (below_next B3.out hb2)
  have XS4 := Lib.hid (XS3.out.step hb2)
  have XT4 := Lib.hid (XT3.out.step hb2)
  clear hb2 hb'
  have XS4_lt := XS4.out.lt
  have XT4_lt := XT4.out.lt
  have XT4_i0 := XT4.out.i0
  have XT4_i1 := XT4.out.i1
  have XT4_i2 := XT4.out.i2
  have XT4_i3 := XT4.out.i3
  go_wp2_with fail
  refine (H4.out _ XS4.out).mono ?_
  rintro e w5 ⟨rfl, hb5⟩
  have B5 := Lib.hid (below_next B4.out hb5)
  have XS5 := Lib.hid (XS4.out.step hb5)
  have XT5 := Lib.hid (XT4.out.step hb5)
  clear hb5
  have XS5_lt := XS5.out.lt
  have XT5_lt := XT5.out.lt
  have XT5_i0 := XT5.out.i0
  have XT5_i1 := XT5.out.i1
  have XT5_i2 := XT5.out.i2
  have XT5_i3 := XT5.out.i3
  go_wp2_with fail
  go_ret
  exact ⟨rfl, B5.out⟩
theorem walk_PipelineDivides (mul div tk hz : Int) (w1 : (Lit.int .i64 mul).wf = true) (w2 : (Lit.int .i64 div).wf = true) (w3 : (Lit.int .i64 tk).wf = true) (w4 : (Lit.int .i64 hz).wf = true) (s : Int) (w5 : (Lit.int .i64 s).wf = true) (v : Value) (l : List Ins) (hop : insOK l) (cut : Int) (w6 : (Lit.int .u8 cut).wf = true) (w : World) (hV : SV v l w) (hcap : ∀ A n c, v = .slice A n c → n ≤ c) :
    Calls Try.prog 14 #[.agg #[.int .i64 mul, .int .i64 div, .int .i64 tk, .int .i64 hz], .int .i64 s, v, .int .u8 cut] w fun e w' => e = .returned (.bool true) ∧ Below w.heap.size w w' := by
  obtain ⟨u0, u1⟩ := u8_bounds w6
  cases hv : tval mul div tk hz
  · rcases hV with ⟨_, A, c, rfl⟩ | ⟨g, off, c, rfl, _⟩
    · exact divides_early1 mul div tk hz cut s _ _ _ hv w
    · exact divides_early1 mul div tk hz cut s _ _ _ hv w
  · obtain ⟨hm, hd, ht, hh⟩ := tval_parts hv
    rcases hV with ⟨hl0, A, c, rfl⟩ | ⟨g, off, c, rfl, hS⟩
    · exact divides_none mul div tk hz s cut u0 u1 hm hd ht hh l (by rw [hl0]; simp) hop hv w A c hl0
    · by_cases hl : l.length ≤ 40
      · by_cases hne : l.length = 0
        · have hn : l = [] := List.length_eq_zero_iff.1 hne
          subst hn
          exact divides_none mul div tk hz s cut u0 u1 hm hd ht hh [] (by simp) hop hv w (some ⟨g, off, none⟩) c rfl
        · have hk : cut % ((l.length : Int) + 1) = (((cut % ((l.length : Int) + 1)).toNat : Nat) : Int) := by
            have := Int.emod_nonneg cut (show ((l.length : Int) + 1) ≠ 0 by omega)
            omega
          have hk1 : (cut % ((l.length : Int) + 1)).toNat ≤ l.length := by
            have := Int.emod_lt_of_pos cut (show (0 : Int) < (l.length : Int) + 1 by omega)
            omega
          obtain ⟨kk, hkk⟩ : ∃ kk, (cut % ((l.length : Int) + 1)).toNat = kk := ⟨_, rfl⟩
          rw [hkk] at hk hk1
          have t1 : (l.take kk).length = kk := by simp; omega
          have t2 : (l.drop kk).length = l.length - kk := by simp
          have sd := seq_drop mul div tk hz s l kk (l.length - kk)
          rw [show kk + (l.length - kk) = l.length by omega] at sd
          have st := seq_take mul div tk hz s l kk kk (Nat.le_refl _) hk1
          have hcl := hcap _ _ _ rfl
          by_cases hck : c = kk
          · have hkl : kk = l.length := by omega
            subst hck
            subst hkl
            exact divides_all mul div tk hz s cut u0 u1 hm hd ht hh l hl hop hv hk _ _ rfl rfl hne w g off hS
          · exact divides_some mul div tk hz s cut u0 u1 hm hd ht hh l hl hop hv kk hk1 hk _ _ _ _ _ _ rfl rfl rfl rfl rfl rfl (by rw [t1, t2, st, sd]) (by rw [t1, t2, st, sd]) hne w g off c hcl hck hS
      · exact divides_early2 mul div tk hz cut s _ _ _ hv (by omega) w
end Go.Proofs.Ytgjpenhfechhcaa
