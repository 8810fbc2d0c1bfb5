/- The walk of IsaNames: it returns true whatever the input. -/
import Derived.Test.YtgjpenhfechhcaaIF
import Derived.Test.YtgjpenhfechhcaaPIsaNamesx1
namespace Go.Proofs.Ytgjpenhfechhcaa
set_option linter.unusedVariables false
set_option linter.unusedSimpArgs false
open Go.RowKit Go.Proofs.YtgjpenhfechhcaaW.PrintWords Go.Proofs.YtgjpenhfechhcaaW.PrintLast Go.Proofs.YtgjpenhfechhcaaW.PrintMore

/-- the mnemonic of an opcode -/
def mn (op : Int) : ByteArray := ((PIsaNames.isa_Mnemonic.f 20 op).getD ⟨#[]⟩)
theorem mn_fin : ∀ n : Fin 256, PIsaNames.isa_Mnemonic.f 20 (n.1 : Int) = some (mn (n.1 : Int)) ∧ PIsaNames.ontimeref04_Mnemonic.f (n.1 : Int) = some (mn (n.1 : Int)) ∧ (mn (n.1 : Int)).toList.isEmpty = decide (30 ≤ (n.1 : Int)) := by decide +kernel
theorem mn_ne : ∀ n k : Fin 30, ((mn (n.1 : Int)).toList == (mn (k.1 : Int)).toList) = decide ((n.1 : Int) = (k.1 : Int)) := by decide +kernel
theorem mn_at (op : Int) (h0 : 0 ≤ op) (h1 : op ≤ 255) : PIsaNames.isa_Mnemonic.f 20 op = some (mn op) ∧ PIsaNames.ontimeref04_Mnemonic.f op = some (mn op) ∧ (mn op).toList.isEmpty = decide (30 ≤ op) := by
  obtain ⟨n, rfl⟩ := Int.eq_ofNat_of_zero_le h0
  exact mn_fin ⟨n, by omega⟩
theorem mn_eq (op other : Int) (h0 : 0 ≤ op) (h1 : op ≤ 255) (k0 : 0 ≤ other) (k1 : other ≤ 255) : ((mn op).toList == (mn other).toList) = (op == other || ((mn op).toList.isEmpty && (mn other).toList.isEmpty)) := by
  obtain ⟨_, _, e1⟩ := mn_at op h0 h1
  obtain ⟨_, _, e2⟩ := mn_at other k0 k1
  rw [e1, e2]
  by_cases h : op = other
  · subst h; simp
  · have hne : (op == other) = false := by simpa using h
    rw [hne, Bool.false_or]
    by_cases a : 30 ≤ op
    · rw [decide_eq_true a] at e1
      have n1 : (mn op).toList = [] := by simpa using e1
      rw [n1, decide_eq_true a, Bool.true_and, ← e2]
      cases (mn other).toList <;> rfl
    · by_cases b : 30 ≤ other
      · rw [decide_eq_true b] at e2
        rw [decide_eq_false a] at e1
        have n2 : (mn other).toList = [] := by simpa using e2
        rw [n2, decide_eq_false a, Bool.false_and]
        cases hl : (mn op).toList
        · rw [hl] at e1; simp at e1
        · rfl
      · obtain ⟨n, rfl⟩ := Int.eq_ofNat_of_zero_le h0
        obtain ⟨k, rfl⟩ := Int.eq_ofNat_of_zero_le k0
        rw [mn_ne ⟨n, by omega⟩ ⟨k, by omega⟩, decide_eq_false a]
        simpa using h
theorem mnem_any (op : Int) (h0 : 0 ≤ op) (h1 : op ≤ 255) (w : World) : Calls Try.prog 29 #[.int .u8 op] w fun e w' => e = .returned (.string (mn op)) ∧ Below w.heap.size w w' := PIsaNames.isa_Mnemonic.calls 20 op _ w (mn_at op h0 h1).1
theorem ref_mnem_any (op : Int) (h0 : 0 ≤ op) (h1 : op ≤ 255) (w : World) : Calls Try.prog 30 #[.int .u8 op] w fun e w' => e = .returned (.string (mn op)) ∧ Below w.heap.size w w' := PIsaNames.ontimeref04_Mnemonic.calls op _ w (mn_at op h0 h1).2.1
theorem transfers_at (op : Int) (v : Bool) (h : PIsaNames.isa_Transfers.f op = some v) (w : World) : Calls Try.prog 31 #[.int .u8 op] w fun e w' => e = .returned (.bool v) ∧ Below w.heap.size w w' := (PIsaNames.isa_Transfers.calls op v w h).mono fun _ _ h => ⟨h.1, h.2.below⟩
theorem branch_at (op : Int) (v : Bool) (h : PIsaNames.isa_IsBranch.f op = some v) (w : World) : Calls Try.prog 28 #[.int .u8 op] w fun e w' => e = .returned (.bool v) ∧ Below w.heap.size w w' := (PIsaNames.isa_IsBranch.calls op v w h).mono fun _ _ h => ⟨h.1, h.2.below⟩
set_option maxRecDepth 100000 in
set_option maxHeartbeats 2000000 in
theorem names_c19 (op other : Int) (h0 : 0 ≤ op) (h1 : op ≤ 255) (k0 : 0 ≤ other) (k1 : other ≤ 255) (hc : op = 19) (w : World) :
    Calls Try.prog 9 #[.int .u8 op, .int .u8 other] w fun e w' => e = .returned (.bool true) ∧ Below w.heap.size w w' := by
  have Ma := Lib.hid (fun W => mnem_any op h0 h1 W)
  have Mb := Lib.hid (fun W => mnem_any other k0 k1 W)
  have Mr := Lib.hid (fun W => ref_mnem_any op h0 h1 W)
  have Br := Lib.hid (fun W => branch_at op false (by unfold PIsaNames.isa_IsBranch.f; first | (rw [if_pos (by omega)]; simp; done) | (rw [if_pos (by omega)]; simp; omega) | (rw [if_neg (by omega)])) W)
  have Tr := Lib.hid (fun W => transfers_at op true (by unfold PIsaNames.isa_Transfers.f; rw [if_pos (by omega)]) W)
  have hme := mn_eq op other h0 h1 k0 k1
  have ea := (mn_at op h0 h1).2.2
  have eb := (mn_at other k0 k1).2.2
  have q22 : (op == 22) = false := by simp; omega
  have q23 : (op == 23) = false := by simp; omega
  have q24 : (op == 24) = false := by simp; omega
  have q19 : (op == 19) = true := by simpa using hc
  have q20 : (op == 20) = false := by simp; omega
  have q21 : (op == 21) = false := by simp; omega
  have q26 : decide (26 ≤ op) = false := by apply decide_eq_false; omega
  have q29 : decide (op ≤ 29) = true := by apply decide_eq_true; omega
  rw [decide_eq_false (by omega)] at ea
  obtain ⟨A, hA⟩ : ∃ A, mn op = A := ⟨_, rfl⟩
  obtain ⟨B, hB⟩ : ∃ B, mn other = B := ⟨_, rfl⟩
  rw [hA] at ea Ma Mr
  rw [hB] at eb Mb
  rw [hA, hB, ea, eb] at hme
  have haa : (A.toList == A.toList) = true := by simp
  clear hA hB
  by_cases ho : op = other
  · have hoo : (op == other) = true := by simpa using ho
    rw [hoo, Bool.true_or] at hme
    clear ho hc eb k0 k1 h0 h1
    go_enter Try.func9, Try.ntmps9
    go_wp2_with fail
    refine (awake_any _).mono ?_
    rintro e w1 ⟨rfl, hb1⟩
    have B1 := Lib.hid (below_next (Below.refl w.heap.size w) hb1)
    clear hb1
    go_wp2_with fail
    refine (Ma.out _).mono ?_
    rintro e w2 ⟨rfl, hb2⟩
    have B2 := Lib.hid (below_next B1.out hb2)
    clear hb2
    go_wp2_with fail
    refine (Mb.out _).mono ?_
    rintro e w3 ⟨rfl, hb3⟩
    have B3 := Lib.hid (below_next B2.out hb3)
    clear hb3
    go_wp2_with fail
    refine (Mr.out _).mono ?_
    rintro e w4 ⟨rfl, hb4⟩
    have B4 := Lib.hid (below_next B3.out hb4)
    clear hb4
    go_wp2_with fail
    refine (Br.out _).mono ?_
    rintro e w5 ⟨rfl, hb5⟩
    have B5 := Lib.hid (below_next B4.out hb5)
    clear hb5
    go_wp2_with fail
    refine (Tr.out _).mono ?_
    rintro e w6 ⟨rfl, hb6⟩
    have B6 := Lib.hid (below_next B5.out hb6)
    clear hb6
    go_wp2_with fail
    go_ret
    exact ⟨rfl, B6.out⟩
  · have hoo : (op == other) = false := by simpa using ho
    rw [hoo, Bool.false_or] at hme
    rw [Bool.false_and] at hme
    clear ho hc eb k0 k1 h0 h1
    go_enter Try.func9, Try.ntmps9
    go_wp2_with fail
    refine (awake_any _).mono ?_
    rintro e w1 ⟨rfl, hb1⟩
    have B1 := Lib.hid (below_next (Below.refl w.heap.size w) hb1)
    clear hb1
    go_wp2_with fail
    refine (Ma.out _).mono ?_
    rintro e w2 ⟨rfl, hb2⟩
    have B2 := Lib.hid (below_next B1.out hb2)
    clear hb2
    go_wp2_with fail
    refine (Mb.out _).mono ?_
    rintro e w3 ⟨rfl, hb3⟩
    have B3 := Lib.hid (below_next B2.out hb3)
    clear hb3
    go_wp2_with fail
    refine (Mr.out _).mono ?_
    rintro e w4 ⟨rfl, hb4⟩
    have B4 := Lib.hid (below_next B3.out hb4)
    clear hb4
    go_wp2_with fail
    refine (Br.out _).mono ?_
    rintro e w5 ⟨rfl, hb5⟩
    have B5 := Lib.hid (below_next B4.out hb5)
    clear hb5
    go_wp2_with fail
    refine (Tr.out _).mono ?_
    rintro e w6 ⟨rfl, hb6⟩
    have B6 := Lib.hid (below_next B5.out hb6)
    clear hb6
    go_wp2_with fail
    go_ret
    exact ⟨rfl, B6.out⟩
set_option maxRecDepth 100000 in
set_option maxHeartbeats 2000000 in
theorem names_c20 (op other : Int) (h0 : 0 ≤ op) (h1 : op ≤ 255) (k0 : 0 ≤ other) (k1 : other ≤ 255) (hc : op = 20) (w : World) :
    Calls Try.prog 9 #[.int .u8 op, .int .u8 other] w fun e w' => e = .returned (.bool true) ∧ Below w.heap.size w w' := by
  have Ma := Lib.hid (fun W => mnem_any op h0 h1 W)
  have Mb := Lib.hid (fun W => mnem_any other k0 k1 W)
  have Mr := Lib.hid (fun W => ref_mnem_any op h0 h1 W)
  have Br := Lib.hid (fun W => branch_at op false (by unfold PIsaNames.isa_IsBranch.f; first | (rw [if_pos (by omega)]; simp; done) | (rw [if_pos (by omega)]; simp; omega) | (rw [if_neg (by omega)])) W)
  have Tr := Lib.hid (fun W => transfers_at op true (by unfold PIsaNames.isa_Transfers.f; rw [if_neg (by omega)]; rw [if_pos (by omega)]) W)
  have hme := mn_eq op other h0 h1 k0 k1
  have ea := (mn_at op h0 h1).2.2
  have eb := (mn_at other k0 k1).2.2
  have q22 : (op == 22) = false := by simp; omega
  have q23 : (op == 23) = false := by simp; omega
  have q24 : (op == 24) = false := by simp; omega
  have q19 : (op == 19) = false := by simp; omega
  have q20 : (op == 20) = true := by simpa using hc
  have q21 : (op == 21) = false := by simp; omega
  have q26 : decide (26 ≤ op) = false := by apply decide_eq_false; omega
  have q29 : decide (op ≤ 29) = true := by apply decide_eq_true; omega
  rw [decide_eq_false (by omega)] at ea
  obtain ⟨A, hA⟩ : ∃ A, mn op = A := ⟨_, rfl⟩
  obtain ⟨B, hB⟩ : ∃ B, mn other = B := ⟨_, rfl⟩
  rw [hA] at ea Ma Mr
  rw [hB] at eb Mb
  rw [hA, hB, ea, eb] at hme
  have haa : (A.toList == A.toList) = true := by simp
  clear hA hB
  by_cases ho : op = other
  · have hoo : (op == other) = true := by simpa using ho
    rw [hoo, Bool.true_or] at hme
    clear ho hc eb k0 k1 h0 h1
    go_enter Try.func9, Try.ntmps9
    go_wp2_with fail
    refine (awake_any _).mono ?_
    rintro e w1 ⟨rfl, hb1⟩
    have B1 := Lib.hid (below_next (Below.refl w.heap.size w) hb1)
    clear hb1
    go_wp2_with fail
    refine (Ma.out _).mono ?_
    rintro e w2 ⟨rfl, hb2⟩
    have B2 := Lib.hid (below_next B1.out hb2)
    clear hb2
    go_wp2_with fail
    refine (Mb.out _).mono ?_
    rintro e w3 ⟨rfl, hb3⟩
    have B3 := Lib.hid (below_next B2.out hb3)
    clear hb3
    go_wp2_with fail
    refine (Mr.out _).mono ?_
    rintro e w4 ⟨rfl, hb4⟩
    have B4 := Lib.hid (below_next B3.out hb4)
    clear hb4
    go_wp2_with fail
    refine (Br.out _).mono ?_
    rintro e w5 ⟨rfl, hb5⟩
    have B5 := Lib.hid (below_next B4.out hb5)
    clear hb5
    go_wp2_with fail
    refine (Tr.out _).mono ?_
    rintro e w6 ⟨rfl, hb6⟩
    have B6 := Lib.hid (below_next B5.out hb6)
    clear hb6
    go_wp2_with fail
    go_ret
    exact ⟨rfl, B6.out⟩
  · have hoo : (op == other) = false := by simpa using ho
    rw [hoo, Bool.false_or] at hme
    rw [Bool.false_and] at hme
    clear ho hc eb k0 k1 h0 h1
    go_enter Try.func9, Try.ntmps9
    go_wp2_with fail
    refine (awake_any _).mono ?_
    rintro e w1 ⟨rfl, hb1⟩
    have B1 := Lib.hid (below_next (Below.refl w.heap.size w) hb1)
    clear hb1
    go_wp2_with fail
    refine (Ma.out _).mono ?_
    rintro e w2 ⟨rfl, hb2⟩
    have B2 := Lib.hid (below_next B1.out hb2)
    clear hb2
    go_wp2_with fail
    refine (Mb.out _).mono ?_
    rintro e w3 ⟨rfl, hb3⟩
    have B3 := Lib.hid (below_next B2.out hb3)
    clear hb3
    go_wp2_with fail
    refine (Mr.out _).mono ?_
    rintro e w4 ⟨rfl, hb4⟩
    have B4 := Lib.hid (below_next B3.out hb4)
    clear hb4
    go_wp2_with fail
    refine (Br.out _).mono ?_
    rintro e w5 ⟨rfl, hb5⟩
    have B5 := Lib.hid (below_next B4.out hb5)
    clear hb5
    go_wp2_with fail
    refine (Tr.out _).mono ?_
    rintro e w6 ⟨rfl, hb6⟩
    have B6 := Lib.hid (below_next B5.out hb6)
    clear hb6
    go_wp2_with fail
    go_ret
    exact ⟨rfl, B6.out⟩
set_option maxRecDepth 100000 in
set_option maxHeartbeats 2000000 in
theorem names_c21 (op other : Int) (h0 : 0 ≤ op) (h1 : op ≤ 255) (k0 : 0 ≤ other) (k1 : other ≤ 255) (hc : op = 21) (w : World) :
    Calls Try.prog 9 #[.int .u8 op, .int .u8 other] w fun e w' => e = .returned (.bool true) ∧ Below w.heap.size w w' := by
  have Ma := Lib.hid (fun W => mnem_any op h0 h1 W)
  have Mb := Lib.hid (fun W => mnem_any other k0 k1 W)
  have Mr := Lib.hid (fun W => ref_mnem_any op h0 h1 W)
  have Br := Lib.hid (fun W => branch_at op false (by unfold PIsaNames.isa_IsBranch.f; first | (rw [if_pos (by omega)]; simp; done) | (rw [if_pos (by omega)]; simp; omega) | (rw [if_neg (by omega)])) W)
  have Tr := Lib.hid (fun W => transfers_at op true (by unfold PIsaNames.isa_Transfers.f; rw [if_neg (by omega)]; rw [if_neg (by omega)]; rw [if_pos (by omega)]) W)
  have hme := mn_eq op other h0 h1 k0 k1
  have ea := (mn_at op h0 h1).2.2
  have eb := (mn_at other k0 k1).2.2
  have q22 : (op == 22) = false := by simp; omega
  have q23 : (op == 23) = false := by simp; omega
  have q24 : (op == 24) = false := by simp; omega
  have q19 : (op == 19) = false := by simp; omega
  have q20 : (op == 20) = false := by simp; omega
  have q21 : (op == 21) = true := by simpa using hc
  have q26 : decide (26 ≤ op) = false := by apply decide_eq_false; omega
  have q29 : decide (op ≤ 29) = true := by apply decide_eq_true; omega
  rw [decide_eq_false (by omega)] at ea
  obtain ⟨A, hA⟩ : ∃ A, mn op = A := ⟨_, rfl⟩
  obtain ⟨B, hB⟩ : ∃ B, mn other = B := ⟨_, rfl⟩
  rw [hA] at ea Ma Mr
  rw [hB] at eb Mb
  rw [hA, hB, ea, eb] at hme
  have haa : (A.toList == A.toList) = true := by simp
  clear hA hB
  by_cases ho : op = other
  · have hoo : (op == other) = true := by simpa using ho
    rw [hoo, Bool.true_or] at hme
    clear ho hc eb k0 k1 h0 h1
    go_enter Try.func9, Try.ntmps9
    go_wp2_with fail
    refine (awake_any _).mono ?_
    rintro e w1 ⟨rfl, hb1⟩
    have B1 := Lib.hid (below_next (Below.refl w.heap.size w) hb1)
    clear hb1
    go_wp2_with fail
    refine (Ma.out _).mono ?_
    rintro e w2 ⟨rfl, hb2⟩
    have B2 := Lib.hid (below_next B1.out hb2)
    clear hb2
    go_wp2_with fail
    refine (Mb.out _).mono ?_
    rintro e w3 ⟨rfl, hb3⟩
    have B3 := Lib.hid (below_next B2.out hb3)
    clear hb3
    go_wp2_with fail
    refine (Mr.out _).mono ?_
    rintro e w4 ⟨rfl, hb4⟩
    have B4 := Lib.hid (below_next B3.out hb4)
    clear hb4
    go_wp2_with fail
    refine (Br.out _).mono ?_
    rintro e w5 ⟨rfl, hb5⟩
    have B5 := Lib.hid (below_next B4.out hb5)
    clear hb5
    go_wp2_with fail
    refine (Tr.out _).mono ?_
    rintro e w6 ⟨rfl, hb6⟩
    have B6 := Lib.hid (below_next B5.out hb6)
    clear hb6
    go_wp2_with fail
    go_ret
    exact ⟨rfl, B6.out⟩
  · have hoo : (op == other) = false := by simpa using ho
    rw [hoo, Bool.false_or] at hme
    rw [Bool.false_and] at hme
    clear ho hc eb k0 k1 h0 h1
    go_enter Try.func9, Try.ntmps9
    go_wp2_with fail
    refine (awake_any _).mono ?_
    rintro e w1 ⟨rfl, hb1⟩
    have B1 := Lib.hid (below_next (Below.refl w.heap.size w) hb1)
    clear hb1
    go_wp2_with fail
    refine (Ma.out _).mono ?_
    rintro e w2 ⟨rfl, hb2⟩
    have B2 := Lib.hid (below_next B1.out hb2)
    clear hb2
    go_wp2_with fail
    refine (Mb.out _).mono ?_
    rintro e w3 ⟨rfl, hb3⟩
    have B3 := Lib.hid (below_next B2.out hb3)
    clear hb3
    go_wp2_with fail
    refine (Mr.out _).mono ?_
    rintro e w4 ⟨rfl, hb4⟩
    have B4 := Lib.hid (below_next B3.out hb4)
    clear hb4
    go_wp2_with fail
    refine (Br.out _).mono ?_
    rintro e w5 ⟨rfl, hb5⟩
    have B5 := Lib.hid (below_next B4.out hb5)
    clear hb5
    go_wp2_with fail
    refine (Tr.out _).mono ?_
    rintro e w6 ⟨rfl, hb6⟩
    have B6 := Lib.hid (below_next B5.out hb6)
    clear hb6
    go_wp2_with fail
    go_ret
    exact ⟨rfl, B6.out⟩
set_option maxRecDepth 100000 in
set_option maxHeartbeats 2000000 in
theorem names_c22 (op other : Int) (h0 : 0 ≤ op) (h1 : op ≤ 255) (k0 : 0 ≤ other) (k1 : other ≤ 255) (hc : op = 22) (w : World) :
    Calls Try.prog 9 #[.int .u8 op, .int .u8 other] w fun e w' => e = .returned (.bool true) ∧ Below w.heap.size w w' := by
  have Ma := Lib.hid (fun W => mnem_any op h0 h1 W)
  have Mb := Lib.hid (fun W => mnem_any other k0 k1 W)
  have Mr := Lib.hid (fun W => ref_mnem_any op h0 h1 W)
  have Br := Lib.hid (fun W => branch_at op true (by unfold PIsaNames.isa_IsBranch.f; first | (rw [if_pos (by omega)]; simp; done) | (rw [if_pos (by omega)]; simp; omega) | (rw [if_neg (by omega)])) W)
  have Tr := Lib.hid (fun W => transfers_at op false (by unfold PIsaNames.isa_Transfers.f; rw [if_neg (by omega)]; rw [if_neg (by omega)]; rw [if_neg (by omega)]; rw [if_neg (by omega)]) W)
  have hme := mn_eq op other h0 h1 k0 k1
  have ea := (mn_at op h0 h1).2.2
  have eb := (mn_at other k0 k1).2.2
  have q22 : (op == 22) = true := by simpa using hc
  have q23 : (op == 23) = false := by simp; omega
  have q24 : (op == 24) = false := by simp; omega
  have q19 : (op == 19) = false := by simp; omega
  have q20 : (op == 20) = false := by simp; omega
  have q21 : (op == 21) = false := by simp; omega
  have q26 : decide (26 ≤ op) = false := by apply decide_eq_false; omega
  have q29 : decide (op ≤ 29) = true := by apply decide_eq_true; omega
  rw [decide_eq_false (by omega)] at ea
  obtain ⟨A, hA⟩ : ∃ A, mn op = A := ⟨_, rfl⟩
  obtain ⟨B, hB⟩ : ∃ B, mn other = B := ⟨_, rfl⟩
  rw [hA] at ea Ma Mr
  rw [hB] at eb Mb
  rw [hA, hB, ea, eb] at hme
  have haa : (A.toList == A.toList) = true := by simp
  clear hA hB
  by_cases ho : op = other
  · have hoo : (op == other) = true := by simpa using ho
    rw [hoo, Bool.true_or] at hme
    clear ho hc eb k0 k1 h0 h1
    go_enter Try.func9, Try.ntmps9
    go_wp2_with fail
    refine (awake_any _).mono ?_
    rintro e w1 ⟨rfl, hb1⟩
    have B1 := Lib.hid (below_next (Below.refl w.heap.size w) hb1)
    clear hb1
    go_wp2_with fail
    refine (Ma.out _).mono ?_
    rintro e w2 ⟨rfl, hb2⟩
    have B2 := Lib.hid (below_next B1.out hb2)
    clear hb2
    go_wp2_with fail
    refine (Mb.out _).mono ?_
    rintro e w3 ⟨rfl, hb3⟩
    have B3 := Lib.hid (below_next B2.out hb3)
    clear hb3
    go_wp2_with fail
    refine (Mr.out _).mono ?_
    rintro e w4 ⟨rfl, hb4⟩
    have B4 := Lib.hid (below_next B3.out hb4)
    clear hb4
    go_wp2_with fail
    refine (Br.out _).mono ?_
    rintro e w5 ⟨rfl, hb5⟩
    have B5 := Lib.hid (below_next B4.out hb5)
    clear hb5
    go_wp2_with fail
    refine (Tr.out _).mono ?_
    rintro e w6 ⟨rfl, hb6⟩
    have B6 := Lib.hid (below_next B5.out hb6)
    clear hb6
    go_wp2_with fail
    go_ret
    exact ⟨rfl, B6.out⟩
  · have hoo : (op == other) = false := by simpa using ho
    rw [hoo, Bool.false_or] at hme
    rw [Bool.false_and] at hme
    clear ho hc eb k0 k1 h0 h1
    go_enter Try.func9, Try.ntmps9
    go_wp2_with fail
    refine (awake_any _).mono ?_
    rintro e w1 ⟨rfl, hb1⟩
    have B1 := Lib.hid (below_next (Below.refl w.heap.size w) hb1)
    clear hb1
    go_wp2_with fail
    refine (Ma.out _).mono ?_
    rintro e w2 ⟨rfl, hb2⟩
    have B2 := Lib.hid (below_next B1.out hb2)
    clear hb2
    go_wp2_with fail
    refine (Mb.out _).mono ?_
    rintro e w3 ⟨rfl, hb3⟩
    have B3 := Lib.hid (below_next B2.out hb3)
    clear hb3
    go_wp2_with fail
    refine (Mr.out _).mono ?_
    rintro e w4 ⟨rfl, hb4⟩
    have B4 := Lib.hid (below_next B3.out hb4)
    clear hb4
    go_wp2_with fail
    refine (Br.out _).mono ?_
    rintro e w5 ⟨rfl, hb5⟩
    have B5 := Lib.hid (below_next B4.out hb5)
    clear hb5
    go_wp2_with fail
    refine (Tr.out _).mono ?_
    rintro e w6 ⟨rfl, hb6⟩
    have B6 := Lib.hid (below_next B5.out hb6)
    clear hb6
    go_wp2_with fail
    go_ret
    exact ⟨rfl, B6.out⟩
set_option maxRecDepth 100000 in
set_option maxHeartbeats 2000000 in
theorem names_c23 (op other : Int) (h0 : 0 ≤ op) (h1 : op ≤ 255) (k0 : 0 ≤ other) (k1 : other ≤ 255) (hc : op = 23) (w : World) :
    Calls Try.prog 9 #[.int .u8 op, .int .u8 other] w fun e w' => e = .returned (.bool true) ∧ Below w.heap.size w w' := by
  have Ma := Lib.hid (fun W => mnem_any op h0 h1 W)
  have Mb := Lib.hid (fun W => mnem_any other k0 k1 W)
  have Mr := Lib.hid (fun W => ref_mnem_any op h0 h1 W)
  have Br := Lib.hid (fun W => branch_at op true (by unfold PIsaNames.isa_IsBranch.f; first | (rw [if_pos (by omega)]; simp; done) | (rw [if_pos (by omega)]; simp; omega) | (rw [if_neg (by omega)])) W)
  have Tr := Lib.hid (fun W => transfers_at op false (by unfold PIsaNames.isa_Transfers.f; rw [if_neg (by omega)]; rw [if_neg (by omega)]; rw [if_neg (by omega)]; rw [if_neg (by omega)]) W)
  have hme := mn_eq op other h0 h1 k0 k1
  have ea := (mn_at op h0 h1).2.2
  have eb := (mn_at other k0 k1).2.2
  have q22 : (op == 22) = false := by simp; omega
  have q23 : (op == 23) = true := by simpa using hc
  have q24 : (op == 24) = false := by simp; omega
  have q19 : (op == 19) = false := by simp; omega
  have q20 : (op == 20) = false := by simp; omega
  have q21 : (op == 21) = false := by simp; omega
  have q26 : decide (26 ≤ op) = false := by apply decide_eq_false; omega
  have q29 : decide (op ≤ 29) = true := by apply decide_eq_true; omega
  rw [decide_eq_false (by omega)] at ea
  obtain ⟨A, hA⟩ : ∃ A, mn op = A := ⟨_, rfl⟩
  obtain ⟨B, hB⟩ : ∃ B, mn other = B := ⟨_, rfl⟩
  rw [hA] at ea Ma Mr
  rw [hB] at eb Mb
  rw [hA, hB, ea, eb] at hme
  have haa : (A.toList == A.toList) = true := by simp
  clear hA hB
  by_cases ho : op = other
  · have hoo : (op == other) = true := by simpa using ho
    rw [hoo, Bool.true_or] at hme
    clear ho hc eb k0 k1 h0 h1
    go_enter Try.func9, Try.ntmps9
    go_wp2_with fail
    refine (awake_any _).mono ?_
    rintro e w1 ⟨rfl, hb1⟩
    have B1 := Lib.hid (below_next (Below.refl w.heap.size w) hb1)
    clear hb1
    go_wp2_with fail
    refine (Ma.out _).mono ?_
    rintro e w2 ⟨rfl, hb2⟩
    have B2 := Lib.hid (below_next B1.out hb2)
    clear hb2
    go_wp2_with fail
    refine (Mb.out _).mono ?_
    rintro e w3 ⟨rfl, hb3⟩
    have B3 := Lib.hid (below_next B2.out hb3)
    clear hb3
    go_wp2_with fail
    refine (Mr.out _).mono ?_
    rintro e w4 ⟨rfl, hb4⟩
    have B4 := Lib.hid (below_next B3.out hb4)
    clear hb4
    go_wp2_with fail
    refine (Br.out _).mono ?_
    rintro e w5 ⟨rfl, hb5⟩
    have B5 := Lib.hid (below_next B4.out hb5)
    clear hb5
    go_wp2_with fail
    refine (Tr.out _).mono ?_
    rintro e w6 ⟨rfl, hb6⟩
    have B6 := Lib.hid (below_next B5.out hb6)
    clear hb6
    go_wp2_with fail
    go_ret
    exact ⟨rfl, B6.out⟩
  · have hoo : (op == other) = false := by simpa using ho
    rw [hoo, Bool.false_or] at hme
    rw [Bool.false_and] at hme
    clear ho hc eb k0 k1 h0 h1
    go_enter Try.func9, Try.ntmps9
    go_wp2_with fail
    refine (awake_any _).mono ?_
    rintro e w1 ⟨rfl, hb1⟩
    have B1 := Lib.hid (below_next (Below.refl w.heap.size w) hb1)
    clear hb1
    go_wp2_with fail
    refine (Ma.out _).mono ?_
    rintro e w2 ⟨rfl, hb2⟩
    have B2 := Lib.hid (below_next B1.out hb2)
    clear hb2
    go_wp2_with fail
    refine (Mb.out _).mono ?_
    rintro e w3 ⟨rfl, hb3⟩
    have B3 := Lib.hid (below_next B2.out hb3)
    clear hb3
    go_wp2_with fail
    refine (Mr.out _).mono ?_
    rintro e w4 ⟨rfl, hb4⟩
    have B4 := Lib.hid (below_next B3.out hb4)
    clear hb4
    go_wp2_with fail
    refine (Br.out _).mono ?_
    rintro e w5 ⟨rfl, hb5⟩
    have B5 := Lib.hid (below_next B4.out hb5)
    clear hb5
    go_wp2_with fail
    refine (Tr.out _).mono ?_
    rintro e w6 ⟨rfl, hb6⟩
    have B6 := Lib.hid (below_next B5.out hb6)
    clear hb6
    go_wp2_with fail
    go_ret
    exact ⟨rfl, B6.out⟩
set_option maxRecDepth 100000 in
set_option maxHeartbeats 2000000 in
theorem names_c24 (op other : Int) (h0 : 0 ≤ op) (h1 : op ≤ 255) (k0 : 0 ≤ other) (k1 : other ≤ 255) (hc : op = 24) (w : World) :
    Calls Try.prog 9 #[.int .u8 op, .int .u8 other] w fun e w' => e = .returned (.bool true) ∧ Below w.heap.size w w' := by
  have Ma := Lib.hid (fun W => mnem_any op h0 h1 W)
  have Mb := Lib.hid (fun W => mnem_any other k0 k1 W)
  have Mr := Lib.hid (fun W => ref_mnem_any op h0 h1 W)
  have Br := Lib.hid (fun W => branch_at op true (by unfold PIsaNames.isa_IsBranch.f; first | (rw [if_pos (by omega)]; simp; done) | (rw [if_pos (by omega)]; simp; omega) | (rw [if_neg (by omega)])) W)
  have Tr := Lib.hid (fun W => transfers_at op false (by unfold PIsaNames.isa_Transfers.f; rw [if_neg (by omega)]; rw [if_neg (by omega)]; rw [if_neg (by omega)]; rw [if_neg (by omega)]) W)
  have hme := mn_eq op other h0 h1 k0 k1
  have ea := (mn_at op h0 h1).2.2
  have eb := (mn_at other k0 k1).2.2
  have q22 : (op == 22) = false := by simp; omega
  have q23 : (op == 23) = false := by simp; omega
  have q24 : (op == 24) = true := by simpa using hc
  have q19 : (op == 19) = false := by simp; omega
  have q20 : (op == 20) = false := by simp; omega
  have q21 : (op == 21) = false := by simp; omega
  have q26 : decide (26 ≤ op) = false := by apply decide_eq_false; omega
  have q29 : decide (op ≤ 29) = true := by apply decide_eq_true; omega
  rw [decide_eq_false (by omega)] at ea
  obtain ⟨A, hA⟩ : ∃ A, mn op = A := ⟨_, rfl⟩
  obtain ⟨B, hB⟩ : ∃ B, mn other = B := ⟨_, rfl⟩
  rw [hA] at ea Ma Mr
  rw [hB] at eb Mb
  rw [hA, hB, ea, eb] at hme
  have haa : (A.toList == A.toList) = true := by simp
  clear hA hB
  by_cases ho : op = other
  · have hoo : (op == other) = true := by simpa using ho
    rw [hoo, Bool.true_or] at hme
    clear ho hc eb k0 k1 h0 h1
    go_enter Try.func9, Try.ntmps9
    go_wp2_with fail
    refine (awake_any _).mono ?_
    rintro e w1 ⟨rfl, hb1⟩
    have B1 := Lib.hid (below_next (Below.refl w.heap.size w) hb1)
    clear hb1
    go_wp2_with fail
    refine (Ma.out _).mono ?_
    rintro e w2 ⟨rfl, hb2⟩
    have B2 := Lib.hid (below_next B1.out hb2)
    clear hb2
    go_wp2_with fail
    refine (Mb.out _).mono ?_
    rintro e w3 ⟨rfl, hb3⟩
    have B3 := Lib.hid (below_next B2.out hb3)
    clear hb3
    go_wp2_with fail
    refine (Mr.out _).mono ?_
    rintro e w4 ⟨rfl, hb4⟩
    have B4 := Lib.hid (below_next B3.out hb4)
    clear hb4
    go_wp2_with fail
    refine (Br.out _).mono ?_
    rintro e w5 ⟨rfl, hb5⟩
    have B5 := Lib.hid (below_next B4.out hb5)
    clear hb5
    go_wp2_with fail
    refine (Tr.out _).mono ?_
    rintro e w6 ⟨rfl, hb6⟩
    have B6 := Lib.hid (below_next B5.out hb6)
    clear hb6
    go_wp2_with fail
    go_ret
    exact ⟨rfl, B6.out⟩
  · have hoo : (op == other) = false := by simpa using ho
    rw [hoo, Bool.false_or] at hme
    rw [Bool.false_and] at hme
    clear ho hc eb k0 k1 h0 h1
    go_enter Try.func9, Try.ntmps9
    go_wp2_with fail
    refine (awake_any _).mono ?_
    rintro e w1 ⟨rfl, hb1⟩
    have B1 := Lib.hid (below_next (Below.refl w.heap.size w) hb1)
    clear hb1
    go_wp2_with fail
    refine (Ma.out _).mono ?_
    rintro e w2 ⟨rfl, hb2⟩
    have B2 := Lib.hid (below_next B1.out hb2)
    clear hb2
    go_wp2_with fail
    refine (Mb.out _).mono ?_
    rintro e w3 ⟨rfl, hb3⟩
    have B3 := Lib.hid (below_next B2.out hb3)
    clear hb3
    go_wp2_with fail
    refine (Mr.out _).mono ?_
    rintro e w4 ⟨rfl, hb4⟩
    have B4 := Lib.hid (below_next B3.out hb4)
    clear hb4
    go_wp2_with fail
    refine (Br.out _).mono ?_
    rintro e w5 ⟨rfl, hb5⟩
    have B5 := Lib.hid (below_next B4.out hb5)
    clear hb5
    go_wp2_with fail
    refine (Tr.out _).mono ?_
    rintro e w6 ⟨rfl, hb6⟩
    have B6 := Lib.hid (below_next B5.out hb6)
    clear hb6
    go_wp2_with fail
    go_ret
    exact ⟨rfl, B6.out⟩
set_option maxRecDepth 100000 in
set_option maxHeartbeats 2000000 in
theorem names_lo (op other : Int) (h0 : 0 ≤ op) (h1 : op ≤ 255) (k0 : 0 ≤ other) (k1 : other ≤ 255) (hc : op ≤ 18) (w : World) :
    Calls Try.prog 9 #[.int .u8 op, .int .u8 other] w fun e w' => e = .returned (.bool true) ∧ Below w.heap.size w w' := by
  have Ma := Lib.hid (fun W => mnem_any op h0 h1 W)
  have Mb := Lib.hid (fun W => mnem_any other k0 k1 W)
  have Mr := Lib.hid (fun W => ref_mnem_any op h0 h1 W)
  have Br := Lib.hid (fun W => branch_at op false (by unfold PIsaNames.isa_IsBranch.f; first | (rw [if_pos (by omega)]; simp; done) | (rw [if_pos (by omega)]; simp; omega) | (rw [if_neg (by omega)])) W)
  have Tr := Lib.hid (fun W => transfers_at op false (by unfold PIsaNames.isa_Transfers.f; rw [if_neg (by omega)]; rw [if_neg (by omega)]; rw [if_neg (by omega)]; rw [if_neg (by omega)]) W)
  have hme := mn_eq op other h0 h1 k0 k1
  have ea := (mn_at op h0 h1).2.2
  have eb := (mn_at other k0 k1).2.2
  have q22 : (op == 22) = false := by simp; omega
  have q23 : (op == 23) = false := by simp; omega
  have q24 : (op == 24) = false := by simp; omega
  have q19 : (op == 19) = false := by simp; omega
  have q20 : (op == 20) = false := by simp; omega
  have q21 : (op == 21) = false := by simp; omega
  have q26 : decide (26 ≤ op) = false := by apply decide_eq_false; omega
  have q29 : decide (op ≤ 29) = true := by apply decide_eq_true; omega
  rw [decide_eq_false (by omega)] at ea
  obtain ⟨A, hA⟩ : ∃ A, mn op = A := ⟨_, rfl⟩
  obtain ⟨B, hB⟩ : ∃ B, mn other = B := ⟨_, rfl⟩
  rw [hA] at ea Ma Mr
  rw [hB] at eb Mb
  rw [hA, hB, ea, eb] at hme
  have haa : (A.toList == A.toList) = true := by simp
  clear hA hB
  by_cases ho : op = other
  · have hoo : (op == other) = true := by simpa using ho
    rw [hoo, Bool.true_or] at hme
    clear ho hc eb k0 k1 h0 h1
    go_enter Try.func9, Try.ntmps9
    go_wp2_with fail
    refine (awake_any _).mono ?_
    rintro e w1 ⟨rfl, hb1⟩
    have B1 := Lib.hid (below_next (Below.refl w.heap.size w) hb1)
    clear hb1
    go_wp2_with fail
    refine (Ma.out _).mono ?_
    rintro e w2 ⟨rfl, hb2⟩
    have B2 := Lib.hid (below_next B1.out hb2)
    clear hb2
    go_wp2_with fail
    refine (Mb.out _).mono ?_
    rintro e w3 ⟨rfl, hb3⟩
    have B3 := Lib.hid (below_next B2.out hb3)
    clear hb3
    go_wp2_with fail
    refine (Mr.out _).mono ?_
    rintro e w4 ⟨rfl, hb4⟩
    have B4 := Lib.hid (below_next B3.out hb4)
    clear hb4
    go_wp2_with fail
    refine (Br.out _).mono ?_
    rintro e w5 ⟨rfl, hb5⟩
    have B5 := Lib.hid (below_next B4.out hb5)
    clear hb5
    go_wp2_with fail
    refine (Tr.out _).mono ?_
    rintro e w6 ⟨rfl, hb6⟩
    have B6 := Lib.hid (below_next B5.out hb6)
    clear hb6
    go_wp2_with fail
    go_ret
    exact ⟨rfl, B6.out⟩
  · have hoo : (op == other) = false := by simpa using ho
    rw [hoo, Bool.false_or] at hme
    rw [Bool.false_and] at hme
    clear ho hc eb k0 k1 h0 h1
    go_enter Try.func9, Try.ntmps9
    go_wp2_with fail
    refine (awake_any _).mono ?_
    rintro e w1 ⟨rfl, hb1⟩
    have B1 := Lib.hid (below_next (Below.refl w.heap.size w) hb1)
    clear hb1
    go_wp2_with fail
    refine (Ma.out _).mono ?_
    rintro e w2 ⟨rfl, hb2⟩
    have B2 := Lib.hid (below_next B1.out hb2)
    clear hb2
    go_wp2_with fail
    refine (Mb.out _).mono ?_
    rintro e w3 ⟨rfl, hb3⟩
    have B3 := Lib.hid (below_next B2.out hb3)
    clear hb3
    go_wp2_with fail
    refine (Mr.out _).mono ?_
    rintro e w4 ⟨rfl, hb4⟩
    have B4 := Lib.hid (below_next B3.out hb4)
    clear hb4
    go_wp2_with fail
    refine (Br.out _).mono ?_
    rintro e w5 ⟨rfl, hb5⟩
    have B5 := Lib.hid (below_next B4.out hb5)
    clear hb5
    go_wp2_with fail
    refine (Tr.out _).mono ?_
    rintro e w6 ⟨rfl, hb6⟩
    have B6 := Lib.hid (below_next B5.out hb6)
    clear hb6
    go_wp2_with fail
    go_ret
    exact ⟨rfl, B6.out⟩
set_option maxRecDepth 100000 in
set_option maxHeartbeats 2000000 in
theorem names_c25 (op other : Int) (h0 : 0 ≤ op) (h1 : op ≤ 255) (k0 : 0 ≤ other) (k1 : other ≤ 255) (hc : op = 25) (w : World) :
    Calls Try.prog 9 #[.int .u8 op, .int .u8 other] w fun e w' => e = .returned (.bool true) ∧ Below w.heap.size w w' := by
  have Ma := Lib.hid (fun W => mnem_any op h0 h1 W)
  have Mb := Lib.hid (fun W => mnem_any other k0 k1 W)
  have Mr := Lib.hid (fun W => ref_mnem_any op h0 h1 W)
  have Br := Lib.hid (fun W => branch_at op false (by unfold PIsaNames.isa_IsBranch.f; first | (rw [if_pos (by omega)]; simp; done) | (rw [if_pos (by omega)]; simp; omega) | (rw [if_neg (by omega)])) W)
  have Tr := Lib.hid (fun W => transfers_at op false (by unfold PIsaNames.isa_Transfers.f; rw [if_neg (by omega)]; rw [if_neg (by omega)]; rw [if_neg (by omega)]; rw [if_neg (by omega)]) W)
  have hme := mn_eq op other h0 h1 k0 k1
  have ea := (mn_at op h0 h1).2.2
  have eb := (mn_at other k0 k1).2.2
  have q22 : (op == 22) = false := by simp; omega
  have q23 : (op == 23) = false := by simp; omega
  have q24 : (op == 24) = false := by simp; omega
  have q19 : (op == 19) = false := by simp; omega
  have q20 : (op == 20) = false := by simp; omega
  have q21 : (op == 21) = false := by simp; omega
  have q26 : decide (26 ≤ op) = false := by apply decide_eq_false; omega
  have q29 : decide (op ≤ 29) = true := by apply decide_eq_true; omega
  rw [decide_eq_false (by omega)] at ea
  obtain ⟨A, hA⟩ : ∃ A, mn op = A := ⟨_, rfl⟩
  obtain ⟨B, hB⟩ : ∃ B, mn other = B := ⟨_, rfl⟩
  rw [hA] at ea Ma Mr
  rw [hB] at eb Mb
  rw [hA, hB, ea, eb] at hme
  have haa : (A.toList == A.toList) = true := by simp
  clear hA hB
  by_cases ho : op = other
  · have hoo : (op == other) = true := by simpa using ho
    rw [hoo, Bool.true_or] at hme
    clear ho hc eb k0 k1 h0 h1
    go_enter Try.func9, Try.ntmps9
    go_wp2_with fail
    refine (awake_any _).mono ?_
    rintro e w1 ⟨rfl, hb1⟩
    have B1 := Lib.hid (below_next (Below.refl w.heap.size w) hb1)
    clear hb1
    go_wp2_with fail
    refine (Ma.out _).mono ?_
    rintro e w2 ⟨rfl, hb2⟩
    have B2 := Lib.hid (below_next B1.out hb2)
    clear hb2
    go_wp2_with fail
    refine (Mb.out _).mono ?_
    rintro e w3 ⟨rfl, hb3⟩
    have B3 := Lib.hid (below_next B2.out hb3)
    clear hb3
    go_wp2_with fail
    refine (Mr.out _).mono ?_
    rintro e w4 ⟨rfl, hb4⟩
    have B4 := Lib.hid (below_next B3.out hb4)
    clear hb4
    go_wp2_with fail
    refine (Br.out _).mono ?_
    rintro e w5 ⟨rfl, hb5⟩
    have B5 := Lib.hid (below_next B4.out hb5)
    clear hb5
    go_wp2_with fail
    refine (Tr.out _).mono ?_
    rintro e w6 ⟨rfl, hb6⟩
    have B6 := Lib.hid (below_next B5.out hb6)
    clear hb6
    go_wp2_with fail
    go_ret
    exact ⟨rfl, B6.out⟩
  · have hoo : (op == other) = false := by simpa using ho
    rw [hoo, Bool.false_or] at hme
    rw [Bool.false_and] at hme
    clear ho hc eb k0 k1 h0 h1
    go_enter Try.func9, Try.ntmps9
    go_wp2_with fail
    refine (awake_any _).mono ?_
    rintro e w1 ⟨rfl, hb1⟩
    have B1 := Lib.hid (below_next (Below.refl w.heap.size w) hb1)
    clear hb1
    go_wp2_with fail
    refine (Ma.out _).mono ?_
    rintro e w2 ⟨rfl, hb2⟩
    have B2 := Lib.hid (below_next B1.out hb2)
    clear hb2
    go_wp2_with fail
    refine (Mb.out _).mono ?_
    rintro e w3 ⟨rfl, hb3⟩
    have B3 := Lib.hid (below_next B2.out hb3)
    clear hb3
    go_wp2_with fail
    refine (Mr.out _).mono ?_
    rintro e w4 ⟨rfl, hb4⟩
    have B4 := Lib.hid (below_next B3.out hb4)
    clear hb4
    go_wp2_with fail
    refine (Br.out _).mono ?_
    rintro e w5 ⟨rfl, hb5⟩
    have B5 := Lib.hid (below_next B4.out hb5)
    clear hb5
    go_wp2_with fail
    refine (Tr.out _).mono ?_
    rintro e w6 ⟨rfl, hb6⟩
    have B6 := Lib.hid (below_next B5.out hb6)
    clear hb6
    go_wp2_with fail
    go_ret
    exact ⟨rfl, B6.out⟩
set_option maxRecDepth 100000 in
set_option maxHeartbeats 2000000 in
theorem names_mid (op other : Int) (h0 : 0 ≤ op) (h1 : op ≤ 255) (k0 : 0 ≤ other) (k1 : other ≤ 255) (hc : 26 ≤ op ∧ op ≤ 29) (w : World) :
    Calls Try.prog 9 #[.int .u8 op, .int .u8 other] w fun e w' => e = .returned (.bool true) ∧ Below w.heap.size w w' := by
  have Ma := Lib.hid (fun W => mnem_any op h0 h1 W)
  have Mb := Lib.hid (fun W => mnem_any other k0 k1 W)
  have Mr := Lib.hid (fun W => ref_mnem_any op h0 h1 W)
  have Br := Lib.hid (fun W => branch_at op false (by unfold PIsaNames.isa_IsBranch.f; first | (rw [if_pos (by omega)]; simp; done) | (rw [if_pos (by omega)]; simp; omega) | (rw [if_neg (by omega)])) W)
  have Tr := Lib.hid (fun W => transfers_at op true (by unfold PIsaNames.isa_Transfers.f; rw [if_neg (by omega)]; rw [if_neg (by omega)]; rw [if_neg (by omega)]; rw [if_pos (by omega)]; rw [decide_eq_true (by omega)]) W)
  have hme := mn_eq op other h0 h1 k0 k1
  have ea := (mn_at op h0 h1).2.2
  have eb := (mn_at other k0 k1).2.2
  have q22 : (op == 22) = false := by simp; omega
  have q23 : (op == 23) = false := by simp; omega
  have q24 : (op == 24) = false := by simp; omega
  have q19 : (op == 19) = false := by simp; omega
  have q20 : (op == 20) = false := by simp; omega
  have q21 : (op == 21) = false := by simp; omega
  have q26 : decide (26 ≤ op) = true := by apply decide_eq_true; omega
  have q29 : decide (op ≤ 29) = true := by apply decide_eq_true; omega
  rw [decide_eq_false (by omega)] at ea
  obtain ⟨A, hA⟩ : ∃ A, mn op = A := ⟨_, rfl⟩
  obtain ⟨B, hB⟩ : ∃ B, mn other = B := ⟨_, rfl⟩
  rw [hA] at ea Ma Mr
  rw [hB] at eb Mb
  rw [hA, hB, ea, eb] at hme
  have haa : (A.toList == A.toList) = true := by simp
  clear hA hB
  by_cases ho : op = other
  · have hoo : (op == other) = true := by simpa using ho
    rw [hoo, Bool.true_or] at hme
    clear ho hc eb k0 k1 h0 h1
    go_enter Try.func9, Try.ntmps9
    go_wp2_with fail
    refine (awake_any _).mono ?_
    rintro e w1 ⟨rfl, hb1⟩
    have B1 := Lib.hid (below_next (Below.refl w.heap.size w) hb1)
    clear hb1
    go_wp2_with fail
    refine (Ma.out _).mono ?_
    rintro e w2 ⟨rfl, hb2⟩
    have B2 := Lib.hid (below_next B1.out hb2)
    clear hb2
    go_wp2_with fail
    refine (Mb.out _).mono ?_
    rintro e w3 ⟨rfl, hb3⟩
    have B3 := Lib.hid (below_next B2.out hb3)
    clear hb3
    go_wp2_with fail
    refine (Mr.out _).mono ?_
    rintro e w4 ⟨rfl, hb4⟩
    have B4 := Lib.hid (below_next B3.out hb4)
    clear hb4
    go_wp2_with fail
    refine (Br.out _).mono ?_
    rintro e w5 ⟨rfl, hb5⟩
    have B5 := Lib.hid (below_next B4.out hb5)
    clear hb5
    go_wp2_with fail
    refine (Tr.out _).mono ?_
    rintro e w6 ⟨rfl, hb6⟩
    have B6 := Lib.hid (below_next B5.out hb6)
    clear hb6
    go_wp2_with fail
    go_ret
    exact ⟨rfl, B6.out⟩
  · have hoo : (op == other) = false := by simpa using ho
    rw [hoo, Bool.false_or] at hme
    rw [Bool.false_and] at hme
    clear ho hc eb k0 k1 h0 h1
    go_enter Try.func9, Try.ntmps9
    go_wp2_with fail
    refine (awake_any _).mono ?_
    rintro e w1 ⟨rfl, hb1⟩
    have B1 := Lib.hid (below_next (Below.refl w.heap.size w) hb1)
    clear hb1
    go_wp2_with fail
    refine (Ma.out _).mono ?_
    rintro e w2 ⟨rfl, hb2⟩
    have B2 := Lib.hid (below_next B1.out hb2)
    clear hb2
    go_wp2_with fail
    refine (Mb.out _).mono ?_
    rintro e w3 ⟨rfl, hb3⟩
    have B3 := Lib.hid (below_next B2.out hb3)
    clear hb3
    go_wp2_with fail
    refine (Mr.out _).mono ?_
    rintro e w4 ⟨rfl, hb4⟩
    have B4 := Lib.hid (below_next B3.out hb4)
    clear hb4
    go_wp2_with fail
    refine (Br.out _).mono ?_
    rintro e w5 ⟨rfl, hb5⟩
    have B5 := Lib.hid (below_next B4.out hb5)
    clear hb5
    go_wp2_with fail
    refine (Tr.out _).mono ?_
    rintro e w6 ⟨rfl, hb6⟩
    have B6 := Lib.hid (below_next B5.out hb6)
    clear hb6
    go_wp2_with fail
    go_ret
    exact ⟨rfl, B6.out⟩
set_option maxRecDepth 100000 in
set_option maxHeartbeats 2000000 in
theorem names_hi (op other : Int) (h0 : 0 ≤ op) (h1 : op ≤ 255) (k0 : 0 ≤ other) (k1 : other ≤ 255) (hc : 30 ≤ op) (w : World) :
    Calls Try.prog 9 #[.int .u8 op, .int .u8 other] w fun e w' => e = .returned (.bool true) ∧ Below w.heap.size w w' := by
  have Ma := Lib.hid (fun W => mnem_any op h0 h1 W)
  have Mb := Lib.hid (fun W => mnem_any other k0 k1 W)
  have Mr := Lib.hid (fun W => ref_mnem_any op h0 h1 W)
  have Br := Lib.hid (fun W => branch_at op false (by unfold PIsaNames.isa_IsBranch.f; first | (rw [if_pos (by omega)]; simp; done) | (rw [if_pos (by omega)]; simp; omega) | (rw [if_neg (by omega)])) W)
  have Tr := Lib.hid (fun W => transfers_at op false (by unfold PIsaNames.isa_Transfers.f; rw [if_neg (by omega)]; rw [if_neg (by omega)]; rw [if_neg (by omega)]; rw [if_pos (by omega)]; rw [decide_eq_false (by omega)]) W)
  have hme := mn_eq op other h0 h1 k0 k1
  have ea := (mn_at op h0 h1).2.2
  have eb := (mn_at other k0 k1).2.2
  have q22 : (op == 22) = false := by simp; omega
  have q23 : (op == 23) = false := by simp; omega
  have q24 : (op == 24) = false := by simp; omega
  have q19 : (op == 19) = false := by simp; omega
  have q20 : (op == 20) = false := by simp; omega
  have q21 : (op == 21) = false := by simp; omega
  have q26 : decide (26 ≤ op) = true := by apply decide_eq_true; omega
  have q29 : decide (op ≤ 29) = false := by apply decide_eq_false; omega
  rw [decide_eq_true (by omega)] at ea
  obtain ⟨A, hA⟩ : ∃ A, mn op = A := ⟨_, rfl⟩
  obtain ⟨B, hB⟩ : ∃ B, mn other = B := ⟨_, rfl⟩
  rw [hA] at ea Ma Mr
  rw [hB] at eb Mb
  rw [hA, hB, ea, eb] at hme
  have haa : (A.toList == A.toList) = true := by simp
  clear hA hB
  by_cases ho : op = other
  · have hoo : (op == other) = true := by simpa using ho
    rw [hoo, Bool.true_or] at hme
    clear ho hc eb k0 k1 h0 h1
    go_enter Try.func9, Try.ntmps9
    go_wp2_with fail
    refine (awake_any _).mono ?_
    rintro e w1 ⟨rfl, hb1⟩
    have B1 := Lib.hid (below_next (Below.refl w.heap.size w) hb1)
    clear hb1
    go_wp2_with fail
    refine (Ma.out _).mono ?_
    rintro e w2 ⟨rfl, hb2⟩
    have B2 := Lib.hid (below_next B1.out hb2)
    clear hb2
    go_wp2_with fail
    refine (Mb.out _).mono ?_
    rintro e w3 ⟨rfl, hb3⟩
    have B3 := Lib.hid (below_next B2.out hb3)
    clear hb3
    go_wp2_with fail
    refine (Mr.out _).mono ?_
    rintro e w4 ⟨rfl, hb4⟩
    have B4 := Lib.hid (below_next B3.out hb4)
    clear hb4
    go_wp2_with fail
    refine (Br.out _).mono ?_
    rintro e w5 ⟨rfl, hb5⟩
    have B5 := Lib.hid (below_next B4.out hb5)
    clear hb5
    go_wp2_with fail
    refine (Tr.out _).mono ?_
    rintro e w6 ⟨rfl, hb6⟩
    have B6 := Lib.hid (below_next B5.out hb6)
    clear hb6
    go_wp2_with fail
    go_ret
    exact ⟨rfl, B6.out⟩
  · have hoo : (op == other) = false := by simpa using ho
    rw [hoo, Bool.false_or] at hme
    rw [Bool.true_and] at hme
    by_cases h3 : 30 ≤ other
    · rw [decide_eq_true h3] at eb hme
      clear ho hc k0 k1 h0 h1 h3
      go_enter Try.func9, Try.ntmps9
      go_wp2_with fail
      refine (awake_any _).mono ?_
      rintro e w1 ⟨rfl, hb1⟩
      have B1 := Lib.hid (below_next (Below.refl w.heap.size w) hb1)
      clear hb1
      go_wp2_with fail
      refine (Ma.out _).mono ?_
      rintro e w2 ⟨rfl, hb2⟩
      have B2 := Lib.hid (below_next B1.out hb2)
      clear hb2
      go_wp2_with fail
      refine (Mb.out _).mono ?_
      rintro e w3 ⟨rfl, hb3⟩
      have B3 := Lib.hid (below_next B2.out hb3)
      clear hb3
      go_wp2_with fail
      refine (Mr.out _).mono ?_
      rintro e w4 ⟨rfl, hb4⟩
      have B4 := Lib.hid (below_next B3.out hb4)
      clear hb4
      go_wp2_with fail
      refine (Br.out _).mono ?_
      rintro e w5 ⟨rfl, hb5⟩
      have B5 := Lib.hid (below_next B4.out hb5)
      clear hb5
      go_wp2_with fail
      refine (Tr.out _).mono ?_
      rintro e w6 ⟨rfl, hb6⟩
      have B6 := Lib.hid (below_next B5.out hb6)
      clear hb6
      go_wp2_with fail
      go_ret
      exact ⟨rfl, B6.out⟩
    · rw [decide_eq_false h3] at eb hme
      clear ho hc k0 k1 h0 h1 h3
      go_enter Try.func9, Try.ntmps9
      go_wp2_with fail
      refine (awake_any _).mono ?_
      rintro e w1 ⟨rfl, hb1⟩
      have B1 := Lib.hid (below_next (Below.refl w.heap.size w) hb1)
      clear hb1
      go_wp2_with fail
      refine (Ma.out _).mono ?_
      rintro e w2 ⟨rfl, hb2⟩
      have B2 := Lib.hid (below_next B1.out hb2)
      clear hb2
      go_wp2_with fail
      refine (Mb.out _).mono ?_
      rintro e w3 ⟨rfl, hb3⟩
      have B3 := Lib.hid (below_next B2.out hb3)
      clear hb3
      go_wp2_with fail
      refine (Mr.out _).mono ?_
      rintro e w4 ⟨rfl, hb4⟩
      have B4 := Lib.hid (below_next B3.out hb4)
      clear hb4
      go_wp2_with fail
      refine (Br.out _).mono ?_
      rintro e w5 ⟨rfl, hb5⟩
      have B5 := Lib.hid (below_next B4.out hb5)
      clear hb5
      go_wp2_with fail
      refine (Tr.out _).mono ?_
      rintro e w6 ⟨rfl, hb6⟩
      have B6 := Lib.hid (below_next B5.out hb6)
      clear hb6
      go_wp2_with fail
      go_ret
      exact ⟨rfl, B6.out⟩
theorem walk_IsaNames (op : Int) (w0 : (Lit.int .u8 op).wf = true) (other : Int) (w1 : (Lit.int .u8 other).wf = true) (w : World) :
    Calls Try.prog 9 #[.int .u8 op, .int .u8 other] w fun e w' => e = .returned (.bool true) ∧ Below w.heap.size w w' := by
  obtain ⟨h0, h1⟩ := u8_bounds w0
  obtain ⟨k0, k1⟩ := u8_bounds w1
  by_cases c1 : op ≤ 18
  · exact names_lo op other h0 h1 k0 k1 c1 w
  by_cases c2 : 30 ≤ op
  · exact names_hi op other h0 h1 k0 k1 c2 w
  by_cases c3 : 26 ≤ op
  · exact names_mid op other h0 h1 k0 k1 ⟨c3, by omega⟩ w
  have h : op = 19 ∨ op = 20 ∨ op = 21 ∨ op = 22 ∨ op = 23 ∨ op = 24 ∨ op = 25 := by omega
  rcases h with h | h | h | h | h | h | h
  · exact names_c19 op other h0 h1 k0 k1 h w
  · exact names_c20 op other h0 h1 k0 k1 h w
  · exact names_c21 op other h0 h1 k0 k1 h w
  · exact names_c22 op other h0 h1 k0 k1 h w
  · exact names_c23 op other h0 h1 k0 k1 h w
  · exact names_c24 op other h0 h1 k0 k1 h w
  · exact names_c25 op other h0 h1 k0 k1 h w
end Go.Proofs.Ytgjpenhfechhcaa
