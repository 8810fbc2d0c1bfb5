/- The walk of PipelineBounds: it returns true whatever the input. -/
import Derived.Test.YtgjpenhfechhcaaA23
import Derived.BigQuiet
import Derived.IntWalk
import Derived.Deep.RegionHeld3
namespace Go.Proofs.Ytgjpenhfechhcaa
set_option linter.unusedVariables false
set_option linter.unusedSimpArgs false
open Go.RowKit Go.Proofs.YtgjpenhfechhcaaW.PrintWords Go.Proofs.YtgjpenhfechhcaaW.PrintLast Go.Proofs.YtgjpenhfechhcaaW.PrintMore
open PIsaDecodes
set_option maxRecDepth 100000 in
set_option maxHeartbeats 4000000 in
theorem bounds_early1 (mul div tk hz s : Int) (A : Option Addr) (n cp : Nat) (hv : tval mul div tk hz = false) (w : World) :
    Calls Try.prog 19 #[.agg #[.int .i64 mul, .int .i64 div, .int .i64 tk, .int .i64 hz], .int .i64 s, .slice A n cp] w fun e w' => e = .returned (.bool true) ∧ Below w.heap.size w w' := by
  have H1 := Lib.hid (fun W => valid8_any mul div tk hz false hv W)
  clear hv
  go_enter Try.func19, Try.ntmps19
  go_wp2_with fail
  have XT0 := Lib.hid (TF.newAt (mul) (div) (tk) (hz) (w) (w.heap.size) (by simp))
  have BxT0 := Lib.hid (below_new (Below.refl w.heap.size w) (.cells #[.int .i64 (mul), .int .i64 (div), .int .i64 (tk), .int .i64 (hz)] 49))
  have XT0_lt := XT0.out.lt
  have XT0_i0 := XT0.out.i0
  have XT0_i1 := XT0.out.i1
  have XT0_i2 := XT0.out.i2
  have XT0_i3 := XT0.out.i3
  refine (awake8 _).mono ?_
  rintro e w1 ⟨rfl, hb1⟩
  have B1 := Lib.hid (below_next BxT0.out hb1)
  have XT1 := Lib.hid (XT0.out.step hb1)
  clear hb1
  have XT1_lt := XT1.out.lt
  have XT1_i0 := XT1.out.i0
  have XT1_i1 := XT1.out.i1
  have XT1_i2 := XT1.out.i2
  have XT1_i3 := XT1.out.i3
  go_wp2_with fail
  refine (H1.out _).mono ?_
  rintro e w2 ⟨rfl, hb2⟩
  have B2 := Lib.hid (below_next B1.out hb2)
  have XT2 := Lib.hid (XT1.out.step hb2)
  clear hb2
  have XT2_lt := XT2.out.lt
  have XT2_i0 := XT2.out.i0
  have XT2_i1 := XT2.out.i1
  have XT2_i2 := XT2.out.i2
  have XT2_i3 := XT2.out.i3
  go_wp2_with fail
  go_ret
  exact ⟨rfl, B2.out⟩
set_option maxRecDepth 100000 in
set_option maxHeartbeats 4000000 in
theorem bounds_early2 (mul div tk hz s : Int) (A : Option Addr) (n cp : Nat) (hv : tval mul div tk hz = true) (hn : 40 < n) (w : World) :
    Calls Try.prog 19 #[.agg #[.int .i64 mul, .int .i64 div, .int .i64 tk, .int .i64 hz], .int .i64 s, .slice A n cp] w fun e w' => e = .returned (.bool true) ∧ Below w.heap.size w w' := by
  have H1 := Lib.hid (fun W => valid8_any mul div tk hz true hv W)
  have d1 : decide ((40 : Int) < (n : Int)) = true := decide_eq_true (by omega)
  have d2 : decide (40 < n) = true := decide_eq_true hn
  clear hv hn
  go_enter Try.func19, Try.ntmps19
  go_wp2_with fail
  have XT0 := Lib.hid (TF.newAt (mul) (div) (tk) (hz) (w) (w.heap.size) (by simp))
  have BxT0 := Lib.hid (below_new (Below.refl w.heap.size w) (.cells #[.int .i64 (mul), .int .i64 (div), .int .i64 (tk), .int .i64 (hz)] 49))
  have XT0_lt := XT0.out.lt
  have XT0_i0 := XT0.out.i0
  have XT0_i1 := XT0.out.i1
  have XT0_i2 := XT0.out.i2
  have XT0_i3 := XT0.out.i3
  refine (awake8 _).mono ?_
  rintro e w1 ⟨rfl, hb1⟩
  have B1 := Lib.hid (below_next BxT0.out hb1)
  have XT1 := Lib.hid (XT0.out.step hb1)
  clear hb1
  have XT1_lt := XT1.out.lt
  have XT1_i0 := XT1.out.i0
  have XT1_i1 := XT1.out.i1
  have XT1_i2 := XT1.out.i2
  have XT1_i3 := XT1.out.i3
  go_wp2_with fail
  refine (H1.out _).mono ?_
  rintro e w2 ⟨rfl, hb2⟩
  have B2 := Lib.hid (below_next B1.out hb2)
  have XT2 := Lib.hid (XT1.out.step hb2)
  clear hb2
  have XT2_lt := XT2.out.lt
  have XT2_i0 := XT2.out.i0
  have XT2_i1 := XT2.out.i1
  have XT2_i2 := XT2.out.i2
  have XT2_i3 := XT2.out.i3
  go_wp2_with fail
  go_ret
  exact ⟨rfl, B2.out⟩
set_option maxRecDepth 100000 in
set_option maxHeartbeats 4000000 in
theorem bounds_none (mul div tk hz s : Int) (hm : 0 ≤ mul ∧ mul ≤ 1000) (hd : 0 ≤ div ∧ div ≤ 1000) (ht : 0 ≤ tk ∧ tk ≤ 1000) (hh : 0 ≤ hz ∧ hz ≤ 1000) (l : List Ins) (hl : l.length ≤ 40) (hop : insOK l) (hv : tval mul div tk hz = true) (w : World) (A : Option Addr) (cp : Nat) (hl0 : l = []) :
    Calls Try.prog 19 #[.agg #[.int .i64 mul, .int .i64 div, .int .i64 tk, .int .i64 hz], .int .i64 s, .slice A 0 cp] w fun e w' => e = .returned (.bool true) ∧ Below w.heap.size w w' := by
  subst hl0
  have H1 := Lib.hid (fun W => valid8_any mul div tk hz true hv W)
  have H2 := Lib.hid (fun W => seq43_none mul div tk hz s A cp W)
  clear hv hm hd ht hh hop
  go_enter Try.func19, Try.ntmps19
  go_wp2_with fail
  have XT0 := Lib.hid (TF.newAt (mul) (div) (tk) (hz) (w) (w.heap.size) (by simp))
  have BxT0 := Lib.hid (below_new (Below.refl w.heap.size w) (.cells #[.int .i64 (mul), .int .i64 (div), .int .i64 (tk), .int .i64 (hz)] 49))
  have XT0_lt := XT0.out.lt
  have XT0_i0 := XT0.out.i0
  have XT0_i1 := XT0.out.i1
  have XT0_i2 := XT0.out.i2
  have XT0_i3 := XT0.out.i3
  refine (awake8 _).mono ?_
  rintro e w1 ⟨rfl, hb1⟩
  have B1 := Lib.hid (below_next BxT0.out hb1)
  have XT1 := Lib.hid (XT0.out.step hb1)
  clear hb1
  have XT1_lt := XT1.out.lt
  have XT1_i0 := XT1.out.i0
  have XT1_i1 := XT1.out.i1
  have XT1_i2 := XT1.out.i2
  have XT1_i3 := XT1.out.i3
  go_wp2_with fail
  refine (H1.out _).mono ?_
  rintro e w2 ⟨rfl, hb2⟩
  have B2 := Lib.hid (below_next B1.out hb2)
  have XT2 := Lib.hid (XT1.out.step hb2)
  clear hb2
  have XT2_lt := XT2.out.lt
  have XT2_i0 := XT2.out.i0
  have XT2_i1 := XT2.out.i1
  have XT2_i2 := XT2.out.i2
  have XT2_i3 := XT2.out.i3
  go_wp2_with fail
  refine wp_loop_rounds 1 ?_
  rw [rounds_succ]
  go_wp2_with fail
  refine (H2.out _).mono ?_
  rintro e w3 ⟨rfl, hb3⟩
  have B3 := Lib.hid (below_next B2.out hb3)
  have XT3 := Lib.hid (XT2.out.step hb3)
  clear hb3
  have XT3_lt := XT3.out.lt
  have XT3_i0 := XT3.out.i0
  have XT3_i1 := XT3.out.i1
  have XT3_i2 := XT3.out.i2
  have XT3_i3 := XT3.out.i3
  go_wp2_with fail
  go_ret
  exact ⟨rfl, B3.out⟩
set_option maxRecDepth 100000 in
set_option maxHeartbeats 4000000 in
theorem bounds_some (mul div tk hz s : Int) (hm : 0 ≤ mul ∧ mul ≤ 1000) (hd : 0 ≤ div ∧ div ≤ 1000) (ht : 0 ≤ tk ∧ tk ≤ 1000) (hh : 0 ≤ hz ∧ hz ≤ 1000) (l : List Ins) (hl : l.length ≤ 40) (hop : insOK l) (hv : tval mul div tk hz = true) (N S P Q : Int) (hN : (seqK mul div tk hz s l l.length).1 = N) (hS' : (seqK mul div tk hz s l l.length).2 = S) (hP : lowK mul div l l.length = P) (hQ : highK mul div tk hz l l.length = Q) (w : World) (g off cp : Nat) (hS : SF g off l w) :
    Calls Try.prog 19 #[.agg #[.int .i64 mul, .int .i64 div, .int .i64 tk, .int .i64 hz], .int .i64 s, .slice (some ⟨g, off, none⟩) l.length cp] w fun e w' => e = .returned (.bool true) ∧ Below w.heap.size w w' := by
  have H1 := Lib.hid (fun W => valid8_any mul div tk hz true hv W)
  have h2 := fun W (h : SF g off l W) => seq43_some mul div tk hz s hm hd ht hh l (by omega) hop g off cp W h
  have hbt := seq_between mul div tk hz s l ht.1 hh.1 l.length
  rw [hN, hS'] at h2
  rw [hN, hP, hQ] at hbt
  have e1 : decide (P ≤ N) = true := decide_eq_true hbt.1
  have e2 : decide (N ≤ Q) = true := decide_eq_true hbt.2
  have H2 := Lib.hid h2
  have HL := Lib.hid (low_in l hm hd)
  have HH := Lib.hid (high_in l hm hd ht hh)
  have Hlo := Lib.hid (fun (op a b c m : Int) r hr W => least49 mul div tk hz op a b c m hm hd r hr W)
  have Hhi := Lib.hid (fun (op a b c m : Int) (h0 : 0 ≤ op) (h1 : op ≤ 255) r hr W => most47 mul div tk hz op a b c m hm hd ht hh h0 h1 r hr W)
  have HC1 := Lib.hid (fun (op : Int) => baseV_in (op := op) hm hd)
  have HC2 := Lib.hid (fun (op a b c m : Int) => mostV_in (op := op) (a := a) (b := b) (c := c) (m := m) hm hd ht hh)
  have HS := Lib.hid hS
  have HP := Lib.hid hP
  have HQ := Lib.hid hQ
  have d1 : decide ((40 : Int) < (l.length : Int)) = false := decide_eq_false (by omega)
  have d2 : decide (40 < l.length) = false := decide_eq_false (by omega)
  clear hm hd ht hh hS hN hS' hv h2 hP hQ hbt
  go_enter Try.func19, Try.ntmps19
  go_wp2_with fail
  have HS' := Lib.hid (HS.out.alloc (.cells #[.int .i64 (mul), .int .i64 (div), .int .i64 (tk), .int .i64 (hz)] 49))
  have XT0 := Lib.hid (TF.newAt (mul) (div) (tk) (hz) (w) (w.heap.size) (by simp))
  have BxT0 := Lib.hid (below_new (Below.refl w.heap.size w) (.cells #[.int .i64 (mul), .int .i64 (div), .int .i64 (tk), .int .i64 (hz)] 49))
  have HS'_lt := HS'.out.lt
  have XT0_lt := XT0.out.lt
  have XT0_i0 := XT0.out.i0
  have XT0_i1 := XT0.out.i1
  have XT0_i2 := XT0.out.i2
  have XT0_i3 := XT0.out.i3
  refine (awake8 _).mono ?_
  rintro e w1 ⟨rfl, hb1⟩
  have B1 := Lib.hid (below_next BxT0.out hb1)
  have XS1 := Lib.hid (HS'.out.step hb1)
  have XT1 := Lib.hid (XT0.out.step hb1)
  clear hb1
  have XS1_lt := XS1.out.lt
  have XT1_lt := XT1.out.lt
  have XT1_i0 := XT1.out.i0
  have XT1_i1 := XT1.out.i1
  have XT1_i2 := XT1.out.i2
  have XT1_i3 := XT1.out.i3
  go_wp2_with fail
  refine (H1.out _).mono ?_
  rintro e w2 ⟨rfl, hb2⟩
  have B2 := Lib.hid (below_next B1.out hb2)
  have XS2 := Lib.hid (XS1.out.step hb2)
  have XT2 := Lib.hid (XT1.out.step hb2)
  clear hb2
  have XS2_lt := XS2.out.lt
  have XT2_lt := XT2.out.lt
  have XT2_i0 := XT2.out.i0
  have XT2_i1 := XT2.out.i1
  have XT2_i2 := XT2.out.i2
  have XT2_i3 := XT2.out.i3
  go_wp2_with fail
  go_loopw [7, 8, 25] (fun lo hi i wr => ∃ k : Nat, k ≤ l.length ∧ i = .int .i64 k ∧ lo = .int .i64 (lowK mul div l k) ∧ hi = .int .i64 (highK mul div tk hz l k) ∧ SF g off l wr ∧ TF w.heap.size mul div tk hz wr ∧ Below w.heap.size w wr) (fun _ _ i _ => l.length - (intOf i).toNat)
  case atStart => exact ⟨0, by omega, rfl, rfl, rfl, XS2.out, XT2.out, B2.out⟩
  case round =>
    obtain ⟨k, hk, rfl, rfl, rfl, hS, hT, hB⟩ := hrel
    by_cases hlt : k < l.length
    · have hb1 := HL.out k
      have hb2 := HH.out k
      obtain ⟨P', hP⟩ : ∃ N, lowK mul div l k = N := ⟨_, rfl⟩
      obtain ⟨Q', hQ⟩ : ∃ S, highK mul div tk hz l k = S := ⟨_, rfl⟩
      rw [hP] at hb1
      rw [hQ] at hb2
      simp only [hP, hQ]
      have hsucc : lowK mul div l (k + 1) = P' + baseV mul div (nth l k).op ∧ highK mul div tk hz l (k + 1) = Q' + mostV mul div tk hz (nth l k).op (nth l k).a (nth l k).b (nth l k).c (nth l k).m := by rw [← hP, ← hQ]; exact ⟨rfl, rfl⟩
      clear hP hQ
      have hopk := hop k hlt
      have c0 := hS.at0 k hlt
      have c1 := hS.at1 k hlt
      have c2 := hS.at2 k hlt
      have c3 := hS.at3 k hlt
      have c4 := hS.at4 k hlt
      generalize nth l k = x at hsucc hopk c0 c1 c2 c3 c4
      obtain ⟨op, a, b, c, m⟩ := x
      dsimp only at hsucc hopk c0 c1 c2 c3 c4
      have hC1 := HC1.out op
      have hC2 := HC2.out op a b c m
      obtain ⟨C, hCC⟩ : ∃ C, baseV mul div op = C := ⟨_, rfl⟩
      obtain ⟨X, hX⟩ : ∃ X, mostV mul div tk hz op a b c m = X := ⟨_, rfl⟩
      rw [hCC] at hC1 hsucc
      rw [hX] at hsucc hC2
      have K1 := Lib.hid (fun W => Hlo.out op a b c m C hCC W)
      have K2 := Lib.hid (fun W => Hhi.out op a b c m hopk.1 hopk.2 X hX W)
      have HSu := Lib.hid hsucc
      have GS := Lib.hid hS
      have GT := Lib.hid hT
      have GB := Lib.hid hB
      clear hS hT hB hsucc hopk hCC hX hop HL HH HC1 HC2 Hlo Hhi H1 H2
      have GT_lt := GT.out.lt
      have GT_i0 := GT.out.i0
      have GT_i1 := GT.out.i1
      have GT_i2 := GT.out.i2
      have GT_i3 := GT.out.i3
      have GS_lt := GS.out.lt
      go_wp2_with fail
      have GT' := Lib.hid (GT.out.alloc (.cells #[.int .u8 (op), .int .i64 (a), .int .i64 (b), .int .i64 (c), .int .i64 (m)] 23))
      have GS' := Lib.hid (GS.out.alloc (.cells #[.int .u8 (op), .int .i64 (a), .int .i64 (b), .int .i64 (c), .int .i64 (m)] 23))
      have XI20 := Lib.hid (IF.newAt (op) (a) (b) (c) (m) (wr) (wr.heap.size) (by simp))
      have BxI20 := Lib.hid (below_new GB.out (.cells #[.int .u8 (op), .int .i64 (a), .int .i64 (b), .int .i64 (c), .int .i64 (m)] 23))
      refine (K1.out _).mono ?_
      rintro e w21 ⟨rfl, hb21⟩
      have B21 := Lib.hid (below_next BxI20.out hb21)
      have XT21 := Lib.hid (GT'.out.step hb21)
      have XS21 := Lib.hid (GS'.out.step hb21)
      have XI21 := Lib.hid (XI20.out.step hb21)
      clear hb21
      have XT21_lt := XT21.out.lt
      have XT21_i0 := XT21.out.i0
      have XT21_i1 := XT21.out.i1
      have XT21_i2 := XT21.out.i2
      have XT21_i3 := XT21.out.i3
      have XS21_lt := XS21.out.lt
      have XI21_lt := XI21.out.lt
      have XI21_i0 := XI21.out.i0
      have XI21_i1 := XI21.out.i1
      have XI21_i2 := XI21.out.i2
      have XI21_i3 := XI21.out.i3
      have XI21_i4 := XI21.out.i4
      go_wp2_with fail
      refine (K2.out _).mono ?_
      rintro e w22 ⟨rfl, hb22⟩
      have B22 := Lib.hid (below_next B21.out hb22)
      have XT22 := Lib.hid (XT21.out.step hb22)
      have XS22 := Lib.hid (XS21.out.step hb22)
      have XI22 := Lib.hid (XI21.out.step hb22)
      clear hb22
      have XT22_lt := XT22.out.lt
      have XT22_i0 := XT22.out.i0
      have XT22_i1 := XT22.out.i1
      have XT22_i2 := XT22.out.i2
      have XT22_i3 := XT22.out.i3
      have XS22_lt := XS22.out.lt
      have XI22_lt := XI22.out.lt
      have XI22_i0 := XI22.out.i0
      have XI22_i1 := XI22.out.i1
      have XI22_i2 := XI22.out.i2
      have XI22_i3 := XI22.out.i3
      have XI22_i4 := XI22.out.i4
      go_wp2_with fail
      go_roundw
      case rel =>
        refine ⟨k + 1, by omega, by go_num, ?_, ?_, XS22.out, XT22.out, B22.out⟩
        · rw [HSu.out.1]
        · rw [HSu.out.2]
      case measure => simp [intOf]; omega
    · have hkk : k = l.length := by omega
      subst hkk
      simp only [HP.out, HQ.out]
      have GS := Lib.hid hS
      have GT := Lib.hid hT
      have GB := Lib.hid hB
      clear hS hT hB hop HL HH HC1 HC2 Hlo Hhi HP HQ
      have GT_lt := GT.out.lt
      have GT_i0 := GT.out.i0
      have GT_i1 := GT.out.i1
      have GT_i2 := GT.out.i2
      have GT_i3 := GT.out.i3
      have GS_lt := GS.out.lt
      go_wp2_with fail
      refine (H2.out _ GS.out).mono ?_
      rintro e w41 ⟨rfl, hb41⟩
      have B41 := Lib.hid (below_next GB.out hb41)
      have XT41 := Lib.hid (GT.out.step hb41)
      have XS41 := Lib.hid (GS.out.step hb41)
      clear hb41
      have XT41_lt := XT41.out.lt
      have XT41_i0 := XT41.out.i0
      have XT41_i1 := XT41.out.i1
      have XT41_i2 := XT41.out.i2
      have XT41_i3 := XT41.out.i3
      have XS41_lt := XS41.out.lt
      go_wp2_with fail
      go_ret
      exact ⟨rfl, B41.out⟩
theorem walk_PipelineBounds (mul div tk hz : Int) (w1 : (Lit.int .i64 mul).wf = true) (w2 : (Lit.int .i64 div).wf = true) (w3 : (Lit.int .i64 tk).wf = true) (w4 : (Lit.int .i64 hz).wf = true) (s : Int) (w5 : (Lit.int .i64 s).wf = true) (v : Value) (l : List Ins) (hop : insOK l) (w : World) (hV : SV v l w) :
    Calls Try.prog 19 #[.agg #[.int .i64 mul, .int .i64 div, .int .i64 tk, .int .i64 hz], .int .i64 s, v] w fun e w' => e = .returned (.bool true) ∧ Below w.heap.size w w' := by
  cases hv : tval mul div tk hz
  · rcases hV with ⟨_, A, c, rfl⟩ | ⟨g, off, c, rfl, _⟩
    · exact bounds_early1 mul div tk hz s _ _ _ hv w
    · exact bounds_early1 mul div tk hz s _ _ _ hv w
  · obtain ⟨hm, hd, ht, hh⟩ := tval_parts hv
    rcases hV with ⟨hl0, A, c, rfl⟩ | ⟨g, off, c, rfl, hS⟩
    · exact bounds_none mul div tk hz s hm hd ht hh l (by rw [hl0]; simp) hop hv w A c hl0
    · by_cases hl : l.length ≤ 40
      · exact bounds_some mul div tk hz s hm hd ht hh l hl hop hv _ _ _ _ rfl rfl rfl rfl w g off c hS
      · exact bounds_early2 mul div tk hz s _ _ _ hv (by omega) w
end Go.Proofs.Ytgjpenhfechhcaa
