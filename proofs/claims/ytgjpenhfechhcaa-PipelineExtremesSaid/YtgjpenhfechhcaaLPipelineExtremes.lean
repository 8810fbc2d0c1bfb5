/- The walk of PipelineExtremes: it returns true whatever the input. -/
import Derived.Test.YtgjpenhfechhcaaA22
import Derived.BigQuiet
import Derived.Deep.RegionHeld3
namespace Go.Proofs.Ytgjpenhfechhcaa
set_option linter.unusedVariables false
set_option linter.unusedSimpArgs false
open Go.RowKit Go.Proofs.YtgjpenhfechhcaaW.PrintWords Go.Proofs.YtgjpenhfechhcaaW.PrintLast Go.Proofs.YtgjpenhfechhcaaW.PrintMore
open PIsaDecodes
theorem tval_in {mul div tk hz : Int} (h : tval mul div tk hz = true) : (0 ≤ mul ∧ mul ≤ 1000) ∧ (0 ≤ div ∧ div ≤ 1000) ∧ (0 ≤ tk ∧ tk ≤ 1000) ∧ (0 ≤ hz ∧ hz ≤ 1000) := by
  unfold tval okD at h
  simpa using h
set_option maxRecDepth 100000 in
set_option maxHeartbeats 4000000 in
theorem ext_early (mul div tk hz s op a b c m : Int) (taken : Bool) (hv : tval mul div tk hz = false) (w : World) :
    Calls Try.prog 18 #[.agg #[.int .i64 mul, .int .i64 div, .int .i64 tk, .int .i64 hz], .agg #[.int .u8 op, .int .i64 a, .int .i64 b, .int .i64 c, .int .i64 m]] w fun e w' => e = .returned (.bool true) ∧ Below w.heap.size w w' := by
  have H1 := Lib.hid (fun W => valid8_any mul div tk hz false hv W)
  clear hv
  go_enter Try.func18, Try.ntmps18
  go_wp2_with fail
  have XT0 := Lib.hid (TF.newAt (mul) (div) (tk) (hz) (w) (w.heap.size) (by simp))
  have BxT0 := Lib.hid (below_new (Below.refl w.heap.size w) (.cells #[.int .i64 (mul), .int .i64 (div), .int .i64 (tk), .int .i64 (hz)] 49))
  have XT0' := Lib.hid (XT0.out.alloc (.cells #[.int .u8 (op), .int .i64 (a), .int .i64 (b), .int .i64 (c), .int .i64 (m)] 23))
  have XI0 := Lib.hid (IF.newAt (op) (a) (b) (c) (m) ((w).alloc (.cells #[.int .i64 (mul), .int .i64 (div), .int .i64 (tk), .int .i64 (hz)] 49)) (w.heap.size + 1) (by simp))
  have BxI0 := Lib.hid (below_new BxT0.out (.cells #[.int .u8 (op), .int .i64 (a), .int .i64 (b), .int .i64 (c), .int .i64 (m)] 23))
  have XT0'_lt := XT0'.out.lt
  have XT0'_i0 := XT0'.out.i0
  have XT0'_i1 := XT0'.out.i1
  have XT0'_i2 := XT0'.out.i2
  have XT0'_i3 := XT0'.out.i3
  have XI0_lt := XI0.out.lt
  have XI0_i0 := XI0.out.i0
  have XI0_i1 := XI0.out.i1
  have XI0_i2 := XI0.out.i2
  have XI0_i3 := XI0.out.i3
  have XI0_i4 := XI0.out.i4
  refine (awake8 _).mono ?_
  rintro e w1 ⟨rfl, hb1⟩
  have B1 := Lib.hid (below_next BxI0.out hb1)
  have XT1 := Lib.hid (XT0'.out.step hb1)
  have XI1 := Lib.hid (XI0.out.step hb1)
  clear hb1
  have XT1_lt := XT1.out.lt
  have XT1_i0 := XT1.out.i0
  have XT1_i1 := XT1.out.i1
  have XT1_i2 := XT1.out.i2
  have XT1_i3 := XT1.out.i3
  have XI1_lt := XI1.out.lt
  have XI1_i0 := XI1.out.i0
  have XI1_i1 := XI1.out.i1
  have XI1_i2 := XI1.out.i2
  have XI1_i3 := XI1.out.i3
  have XI1_i4 := XI1.out.i4
  go_wp2_with fail
  refine (H1.out _).mono ?_
  rintro e w2 ⟨rfl, hb2⟩
  have B2 := Lib.hid (below_next B1.out hb2)
  have XT2 := Lib.hid (XT1.out.step hb2)
  have XI2 := Lib.hid (XI1.out.step hb2)
  clear hb2
  have XT2_lt := XT2.out.lt
  have XT2_i0 := XT2.out.i0
  have XT2_i1 := XT2.out.i1
  have XT2_i2 := XT2.out.i2
  have XT2_i3 := XT2.out.i3
  have XI2_lt := XI2.out.lt
  have XI2_i0 := XI2.out.i0
  have XI2_i1 := XI2.out.i1
  have XI2_i2 := XI2.out.i2
  have XI2_i3 := XI2.out.i3
  have XI2_i4 := XI2.out.i4
  go_wp2_with fail
  go_ret
  exact ⟨rfl, B2.out⟩
/-- what no state exceeds -/
theorem cyc_low (mul div tk hz op a b c m s : Int) (taken : Bool) (ht : 0 ≤ tk) (hh : 0 ≤ hz) : baseV mul div op ≤ cycV mul div tk hz op a b c m s taken := by
  unfold cycV; split <;> split <;> omega
theorem haz_none {op a b c m s : Int} (h : (readsV op a b c m).length = 0) : hazB op a b c m s = false := by
  unfold hazB; rw [List.length_eq_zero_iff.1 h]; rfl
theorem cyc_high (mul div tk hz op a b c m s : Int) (taken : Bool) (ht : 0 ≤ tk) (hh : 0 ≤ hz) : cycV mul div tk hz op a b c m s taken ≤ mostV mul div tk hz op a b c m := by
  unfold cycV mostV
  by_cases hl : (readsV op a b c m).length = 0
  · rw [haz_none hl, if_pos hl]
    cases taken <;> cases brB op <;> simp <;> omega
  · rw [if_neg hl]
    cases hazB op a b c m s <;> cases taken <;> cases brB op <;> simp <;> omega
theorem cyc_first (mul div tk hz op a b c m : Int) (h0 : 0 ≤ op) : cycV mul div tk hz op a b c m 0 false = baseV mul div op := by
  unfold cycV; rw [haz_zero op a b c m h0]; simp
theorem cyc_top (mul div tk hz op a b c m : Int) (h0 : 0 ≤ op) : ∃ s : Nat, s < 16 ∧ cycV mul div tk hz op a b c m s true = mostV mul div tk hz op a b c m := by
  by_cases hl : (readsV op a b c m).length = 0
  · refine ⟨0, by omega, ?_⟩
    unfold cycV mostV; rw [haz_none hl, if_pos hl]; simp
  · obtain ⟨x, hx⟩ := List.exists_mem_of_length_pos (Nat.pos_of_ne_zero hl)
    have hv : validB op a b c m = true := by
      cases hv : validB op a b c m
      · unfold readsV at hx; rw [hv] at hx; simp at hx
      · rfl
    have hf := up_facts' _ x (by rw [← readsV_up' h0 hv]; exact hx)
    refine ⟨x.toNat, by omega, ?_⟩
    have e : ((x.toNat : Nat) : Int) = x := by omega
    rw [e]
    have hz' : hazB op a b c m x = true := List.contains_iff_mem.2 hx
    unfold cycV mostV; rw [hz', if_neg hl]; simp
set_option maxRecDepth 100000 in
set_option maxHeartbeats 4000000 in
theorem ext_late (mul div tk hz op a b c m : Int) (h0 : 0 ≤ op) (h1 : op ≤ 255) (hv : tval mul div tk hz = true) (hm : 0 ≤ mul ∧ mul ≤ 1000) (hd : 0 ≤ div ∧ div ≤ 1000) (ht : 0 ≤ tk ∧ tk ≤ 1000) (hh : 0 ≤ hz ∧ hz ≤ 1000) (Y Z : Int) (hY : mostV mul div tk hz op a b c m = Y) (hZ : baseV mul div op = Z) (hZ1 : 1 ≤ Z) (w : World) :
    Calls Try.prog 18 #[.agg #[.int .i64 mul, .int .i64 div, .int .i64 tk, .int .i64 hz], .agg #[.int .u8 op, .int .i64 a, .int .i64 b, .int .i64 c, .int .i64 m]] w fun e w' => e = .returned (.bool true) ∧ Below w.heap.size w w' := by
  have hc := cyc_first mul div tk hz op a b c m h0
  have Hlow := Lib.hid (fun s t => cyc_low mul div tk hz op a b c m s t ht.1 hh.1)
  have Hhigh := Lib.hid (fun s t => cyc_high mul div tk hz op a b c m s t ht.1 hh.1)
  have Htop := Lib.hid (cyc_top mul div tk hz op a b c m h0)
  rw [hZ] at hc
  have Hlow := Lib.hid (by have h := Hlow.out; rw [hZ] at h; exact h)
  have Hhigh := Lib.hid (by have h := Hhigh.out; rw [hY] at h; exact h)
  have Htop := Lib.hid (by have h := Htop.out; rw [hY] at h; exact h)
  have H1 := Lib.hid (fun W => valid8_any mul div tk hz true hv W)
  have H2 := Lib.hid (fun s t r hr W => cycles44 s mul div tk hz op a b c m hm hd ht hh h0 h1 t r hr W)
  have H20 := Lib.hid (fun W => cycles44 0 mul div tk hz op a b c m hm hd ht hh h0 h1 false Z hc W)
  have H4 := Lib.hid (fun W => most47 mul div tk hz op a b c m hm hd ht hh h0 h1 Y hY W)
  have H6 := Lib.hid (fun W => least49 mul div tk hz op a b c m hm hd Z hZ W)
  clear hv hY hZ hm hd ht hh hc
  go_enter Try.func18, Try.ntmps18
  go_wp2_with fail
  have XT0 := Lib.hid (TF.newAt (mul) (div) (tk) (hz) (w) (w.heap.size) (by simp))
  have BxT0 := Lib.hid (below_new (Below.refl w.heap.size w) (.cells #[.int .i64 (mul), .int .i64 (div), .int .i64 (tk), .int .i64 (hz)] 49))
  have XT0' := Lib.hid (XT0.out.alloc (.cells #[.int .u8 (op), .int .i64 (a), .int .i64 (b), .int .i64 (c), .int .i64 (m)] 23))
  have XI0 := Lib.hid (IF.newAt (op) (a) (b) (c) (m) ((w).alloc (.cells #[.int .i64 (mul), .int .i64 (div), .int .i64 (tk), .int .i64 (hz)] 49)) (w.heap.size + 1) (by simp))
  have BxI0 := Lib.hid (below_new BxT0.out (.cells #[.int .u8 (op), .int .i64 (a), .int .i64 (b), .int .i64 (c), .int .i64 (m)] 23))
  have XT0'_lt := XT0'.out.lt
  have XT0'_i0 := XT0'.out.i0
  have XT0'_i1 := XT0'.out.i1
  have XT0'_i2 := XT0'.out.i2
  have XT0'_i3 := XT0'.out.i3
  have XI0_lt := XI0.out.lt
  have XI0_i0 := XI0.out.i0
  have XI0_i1 := XI0.out.i1
  have XI0_i2 := XI0.out.i2
  have XI0_i3 := XI0.out.i3
  have XI0_i4 := XI0.out.i4
  refine (awake8 _).mono ?_
  rintro e w1 ⟨rfl, hb1⟩
  have B1 := Lib.hid (below_next BxI0.out hb1)
  have XT1 := Lib.hid (XT0'.out.step hb1)
  have XI1 := Lib.hid (XI0.out.step hb1)
  clear hb1
  have XT1_lt := XT1.out.lt
  have XT1_i0 := XT1.out.i0
  have XT1_i1 := XT1.out.i1
  have XT1_i2 := XT1.out.i2
  have XT1_i3 := XT1.out.i3
  have XI1_lt := XI1.out.lt
  have XI1_i0 := XI1.out.i0
  have XI1_i1 := XI1.out.i1
  have XI1_i2 := XI1.out.i2
  have XI1_i3 := XI1.out.i3
  have XI1_i4 := XI1.out.i4
  go_wp2_with fail
  refine (H1.out _).mono ?_
  rintro e w2 ⟨rfl, hb2⟩
  have B2 := Lib.hid (below_next B1.out hb2)
  have XT2 := Lib.hid (XT1.out.step hb2)
  have XI2 := Lib.hid (XI1.out.step hb2)
  clear hb2
  have XT2_lt := XT2.out.lt
  have XT2_i0 := XT2.out.i0
  have XT2_i1 := XT2.out.i1
  have XT2_i2 := XT2.out.i2
  have XT2_i3 := XT2.out.i3
  have XI2_lt := XI2.out.lt
  have XI2_i0 := XI2.out.i0
  have XI2_i1 := XI2.out.i1
  have XI2_i2 := XI2.out.i2
  have XI2_i3 := XI2.out.i3
  have XI2_i4 := XI2.out.i4
  go_wp2_with fail
  refine (H20.out _).mono ?_
  rintro e w3 ⟨rfl, hb3⟩
  have B3 := Lib.hid (below_next B2.out hb3)
  have XT3 := Lib.hid (XT2.out.step hb3)
  have XI3 := Lib.hid (XI2.out.step hb3)
  clear hb3
  have XT3_lt := XT3.out.lt
  have XT3_i0 := XT3.out.i0
  have XT3_i1 := XT3.out.i1
  have XT3_i2 := XT3.out.i2
  have XT3_i3 := XT3.out.i3
  have XI3_lt := XI3.out.lt
  have XI3_i0 := XI3.out.i0
  have XI3_i1 := XI3.out.i1
  have XI3_i2 := XI3.out.i2
  have XI3_i3 := XI3.out.i3
  have XI3_i4 := XI3.out.i4
  go_wp2_with fail
  go_loopw [5, 6, 19] (fun lo hi i wr => ∃ (k : Nat) (h : Int), k ≤ 16 ∧ i = .int .i64 k ∧ lo = .int .i64 Z ∧ hi = .int .i64 h ∧ 0 ≤ h ∧ h ≤ Y ∧ (∀ s : Nat, s < k → cycV mul div tk hz op a b c m s true ≤ h) ∧ TF w.heap.size mul div tk hz wr ∧ IF (w.heap.size + 1) op a b c m wr ∧ Below w.heap.size w wr) (fun _ _ i _ => 16 - (intOf i).toNat)
  case atStart => exact ⟨0, 0, by omega, rfl, rfl, rfl, by omega, by (have := Htop.out; obtain ⟨s, _, hs⟩ := this; have := Hlow.out s true; omega), fun s hs => by omega, XT3.out, XI3.out, B3.out⟩
  case round =>
    obtain ⟨k, h, hk, rfl, rfl, rfl, hh0, hh1, hall, hT, hI, hB⟩ := hrel
    by_cases hlt : k < 16
    · obtain ⟨n1, hn1⟩ : ∃ n, cycV mul div tk hz op a b c m k false = n := ⟨_, rfl⟩
      obtain ⟨n2, hn2⟩ : ∃ n, cycV mul div tk hz op a b c m k true = n := ⟨_, rfl⟩
      have H21 := Lib.hid (fun W => H2.out k false n1 hn1 W)
      have H22 := Lib.hid (fun W => H2.out k true n2 hn2 W)
      have l1 := Hlow.out k false
      have l2 := Hlow.out k true
      have u1 := Hhigh.out k false
      have u2 := Hhigh.out k true
      rw [hn1] at l1 u1
      rw [hn2] at l2 u2
      have Hn2 := Lib.hid hn2
      have Hall := Lib.hid hall
      have GT0 := Lib.hid (hT.alloc (.cells #[.bool false, .bool true] 4))
      have GI0 := Lib.hid (hI.alloc (.cells #[.bool false, .bool true] 4))
      have GB0 := Lib.hid (below_new hB (.cells #[.bool false, .bool true] 4))
      have hB0 := Lib.hid hB
      clear hn1 hn2 hall hT hI hB
      have GT0_lt := GT0.out.lt
      have GT0_i0 := GT0.out.i0
      have GT0_i1 := GT0.out.i1
      have GT0_i2 := GT0.out.i2
      have GT0_i3 := GT0.out.i3
      have GI0_lt := GI0.out.lt
      have GI0_i0 := GI0.out.i0
      have GI0_i1 := GI0.out.i1
      have GI0_i2 := GI0.out.i2
      have GI0_i3 := GI0.out.i3
      have GI0_i4 := GI0.out.i4
      go_wp2_with fail
      refine wp_loop_rounds 3 ?_
      rw [rounds_succ]
      go_wp2_with fail
      have bs : wr.heap.size < (wr.alloc (.cells #[.bool false, .bool true] 4)).heap.size := by simp
      have bt : (wr.alloc (.cells #[.bool false, .bool true] 4)).cell? ⟨wr.heap.size, 1, none⟩ = some (.bool true) := by rw [World.cell?_alloc_at _ _ _ _ rfl]; rfl
      refine (H21.out _).mono ?_
      rintro e w1 ⟨rfl, hb1⟩
      have B1 := Lib.hid (below_next GB0.out hb1)
      have XT1 := Lib.hid (GT0.out.step hb1)
      have XI1 := Lib.hid (GI0.out.step hb1)
      have bt' := (hb1.cell (p := ⟨wr.heap.size, 1, none⟩) bs).trans bt
      clear hb1 bs bt
      have XT1_lt := XT1.out.lt
      have XT1_i0 := XT1.out.i0
      have XT1_i1 := XT1.out.i1
      have XT1_i2 := XT1.out.i2
      have XT1_i3 := XT1.out.i3
      have XI1_lt := XI1.out.lt
      have XI1_i0 := XI1.out.i0
      have XI1_i1 := XI1.out.i1
      have XI1_i2 := XI1.out.i2
      have XI1_i3 := XI1.out.i3
      have XI1_i4 := XI1.out.i4
      go_wp2_with fail
      rw [rounds_succ]
      go_wp2_with fail
      refine (H22.out _).mono ?_
      rintro e w2 ⟨rfl, hb2⟩
      have B2 := Lib.hid (below_next B1.out hb2)
      have XT2 := Lib.hid (XT1.out.step hb2)
      have XI2 := Lib.hid (XI1.out.step hb2)
      clear hb2
      have XT2_lt := XT2.out.lt
      have XT2_i0 := XT2.out.i0
      have XT2_i1 := XT2.out.i1
      have XT2_i2 := XT2.out.i2
      have XT2_i3 := XT2.out.i3
      have XI2_lt := XI2.out.lt
      have XI2_i0 := XI2.out.i0
      have XI2_i1 := XI2.out.i1
      have XI2_i2 := XI2.out.i2
      have XI2_i3 := XI2.out.i3
      have XI2_i4 := XI2.out.i4
      go_wp2_with fail
      rw [rounds_succ]
      go_wp2_with fail
      go_roundw
      case rel =>
        refine ⟨k + 1, max (max h n1) n2, by omega, by go_num, ?_, ?_, by omega, by omega, fun s hs => ?_, XT2.out, XI2.out, B2.out⟩
        · first | rfl | (congr 1; omega) | (simp; omega)
        · first | rfl | (congr 1; omega) | (simp; omega)
        · by_cases hsk : s = k
          · subst hsk; rw [Hn2.out]; omega
          · have := Hall.out s (by omega); omega
      case measure => simp [intOf]; omega
    · have hkk : k = 16 := by omega
      subst hkk
      have hY : h = Y := by
        obtain ⟨s, hs, he⟩ := Htop.out
        have := hall s hs
        omega
      subst hY
      have e1 : decide (1 ≤ Z) = true := decide_eq_true hZ1
      have GT0 := Lib.hid hT
      have GI0 := Lib.hid hI
      clear hall hT hI
      have GT0_lt := GT0.out.lt
      have GT0_i0 := GT0.out.i0
      have GT0_i1 := GT0.out.i1
      have GT0_i2 := GT0.out.i2
      have GT0_i3 := GT0.out.i3
      have GI0_lt := GI0.out.lt
      have GI0_i0 := GI0.out.i0
      have GI0_i1 := GI0.out.i1
      have GI0_i2 := GI0.out.i2
      have GI0_i3 := GI0.out.i3
      have GI0_i4 := GI0.out.i4
      go_wp2_with fail
      refine (H6.out _).mono ?_
      rintro e w41 ⟨rfl, hb41⟩
      have B41 := Lib.hid (below_next hB hb41)
      have XT41 := Lib.hid (GT0.out.step hb41)
      have XI41 := Lib.hid (GI0.out.step hb41)
      clear hb41
      have XT41_lt := XT41.out.lt
      have XT41_i0 := XT41.out.i0
      have XT41_i1 := XT41.out.i1
      have XT41_i2 := XT41.out.i2
      have XT41_i3 := XT41.out.i3
      have XI41_lt := XI41.out.lt
      have XI41_i0 := XI41.out.i0
      have XI41_i1 := XI41.out.i1
      have XI41_i2 := XI41.out.i2
      have XI41_i3 := XI41.out.i3
      have XI41_i4 := XI41.out.i4
      go_wp2_with fail
      refine (H4.out _).mono ?_
      rintro e w42 ⟨rfl, hb42⟩
      have B42 := Lib.hid (below_next B41.out hb42)
      have XT42 := Lib.hid (XT41.out.step hb42)
      have XI42 := Lib.hid (XI41.out.step hb42)
      clear hb42
      have XT42_lt := XT42.out.lt
      have XT42_i0 := XT42.out.i0
      have XT42_i1 := XT42.out.i1
      have XT42_i2 := XT42.out.i2
      have XT42_i3 := XT42.out.i3
      have XI42_lt := XI42.out.lt
      have XI42_i0 := XI42.out.i0
      have XI42_i1 := XI42.out.i1
      have XI42_i2 := XI42.out.i2
      have XI42_i3 := XI42.out.i3
      have XI42_i4 := XI42.out.i4
      go_wp2_with fail
      go_ret
      exact ⟨rfl, B42.out⟩
theorem walk_PipelineExtremes (mul div tk hz : Int) (w1 : (Lit.int .i64 mul).wf = true) (w2 : (Lit.int .i64 div).wf = true) (w3 : (Lit.int .i64 tk).wf = true) (w4 : (Lit.int .i64 hz).wf = true) (op a b c m : Int) (w6 : (Lit.int .u8 op).wf = true) (w7 : (Lit.int .i64 a).wf = true) (w8 : (Lit.int .i64 b).wf = true) (w9 : (Lit.int .i64 c).wf = true) (w10 : (Lit.int .i64 m).wf = true) (w : World) :
    Calls Try.prog 18 #[.agg #[.int .i64 mul, .int .i64 div, .int .i64 tk, .int .i64 hz], .agg #[.int .u8 op, .int .i64 a, .int .i64 b, .int .i64 c, .int .i64 m]] w fun e w' => e = .returned (.bool true) ∧ Below w.heap.size w w' := by
  obtain ⟨h0, h1⟩ := u8_bounds w6
  cases hv : tval mul div tk hz
  · exact ext_early mul div tk hz 0 op a b c m true hv w
  · obtain ⟨hm, hd, ht, hh⟩ := tval_in hv
    exact ext_late mul div tk hz op a b c m h0 h1 hv hm hd ht hh _ _ rfl rfl (baseV_in hm hd).1 w
end Go.Proofs.Ytgjpenhfechhcaa
