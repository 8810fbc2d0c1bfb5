/- The contract of isa.Valid: for every instruction it returns whether each operand is in the range that the row gives. -/
import Derived.Test.YtgjpenhfechhcaaA2
import Derived.Deep.QuietTactic
import Derived.BigQuiet
import Derived.Lib.SlBytesConst
import Derived.Lib.SmallJoins
namespace Go.Proofs.Ytgjpenhfechhcaa
set_option linter.unusedVariables false
set_option linter.unusedSimpArgs false
open Go.RowKit Go.Proofs.YtgjpenhfechhcaaW.PrintWords Go.Proofs.YtgjpenhfechhcaaW.PrintLast Go.Proofs.YtgjpenhfechhcaaW.PrintMore
open PIsaDecodes

/-- the operands of an opcode -/
def opnds (op : Int) : ByteArray := (rowOf op).f1
def lowOf (op c : Int) : Int := if hasB (opnds op) c && decide (c = 105) then (rowOf op).f2 else 0
def highOf (op c : Int) : Int := if hasB (opnds op) c then (if c = 105 then (rowOf op).f3 else 15) else 0
def chk (op c x : Int) : Bool := decide (lowOf op c ≤ x) && decide (x ≤ highOf op c)
/-- the letters of the operands, in the order in which isa.Valid looks at them -/
def letter (k : Nat) : Int := if k = 0 then 97 else if k = 1 then 98 else if k = 2 then 99 else 105
/-- the operand with a letter -/
def opnd (a b c m ch : Int) : Int := if ch = 97 then a else if ch = 98 then b else if ch = 99 then c else m
def validB (op a b c m : Int) : Bool := decide (op < 30) && (chk op 97 a && chk op 98 b && chk op 99 c && chk op 105 m)

def instrV (op a b c m : Int) : Value := .agg #[.int .u8 op, .int .i64 a, .int .i64 b, .int .i64 c, .int .i64 m]


/-- what isa.Valid and its like have in memory: the instruction in block A, the row in block B, and all that was there before -/
structure VF (w : World) (A B : Nat) (op a b c m : Int) (W : World) : Prop where
  below : Below w.heap.size w W
  ltA : A < W.heap.size
  ltB : B < W.heap.size
  i0 : W.cell? ⟨A, 0, none⟩ = some (.int .u8 op)
  i1 : W.cell? ⟨A, 1, none⟩ = some (.int .i64 a)
  i2 : W.cell? ⟨A, 2, none⟩ = some (.int .i64 b)
  i3 : W.cell? ⟨A, 3, none⟩ = some (.int .i64 c)
  i4 : W.cell? ⟨A, 4, none⟩ = some (.int .i64 m)
  r1 : W.cell? ⟨B, 1, none⟩ = some (.string (opnds op))
  r2 : W.cell? ⟨B, 2, none⟩ = some (.int .i64 (rowOf op).f2)
  r3 : W.cell? ⟨B, 3, none⟩ = some (.int .i64 (rowOf op).f3)
theorem VF.step {w : World} {A B : Nat} {op a b c m : Int} {W W' : World} (h : VF w A B op a b c m W) (hb : Below W.heap.size W W') : VF w A B op a b c m W' :=
  ⟨h.below.trans (hb.mono h.below.size), Nat.lt_of_lt_of_le h.ltA hb.size, Nat.lt_of_lt_of_le h.ltB hb.size,
   (hb.cell (p := ⟨A, 0, none⟩) h.ltA).trans h.i0, (hb.cell (p := ⟨A, 1, none⟩) h.ltA).trans h.i1, (hb.cell (p := ⟨A, 2, none⟩) h.ltA).trans h.i2, (hb.cell (p := ⟨A, 3, none⟩) h.ltA).trans h.i3, (hb.cell (p := ⟨A, 4, none⟩) h.ltA).trans h.i4,
   (hb.cell (p := ⟨B, 1, none⟩) h.ltB).trans h.r1, (hb.cell (p := ⟨B, 2, none⟩) h.ltB).trans h.r2, (hb.cell (p := ⟨B, 3, none⟩) h.ltB).trans h.r3⟩
theorem VF.at {w : World} {A B : Nat} {op a b c m : Int} {W : World} (h : VF w A B op a b c m W) (ch : Int) : W.cell? ⟨A, fieldOff ch, none⟩ = some (.int .i64 (opnd a b c m ch)) := by
  unfold fieldOff opnd
  by_cases h1 : ch = 97
  · simp only [h1, if_true]; exact h.i1
  · by_cases h2 : ch = 98
    · simp only [h1, h2, if_true, if_false]; exact h.i2
    · by_cases h3 : ch = 99
      · simp only [h1, h2, h3, if_true, if_false]; exact h.i3
      · simp only [h1, h2, h3, if_false]; exact h.i4

theorem opnds_small (op : Int) : (opnds op).size ≤ 1000 := by
  unfold opnds rowOf rd_T71
  by_cases h : op.toNat < 30
  · obtain ⟨n, hn⟩ : ∃ n, n = op.toNat := ⟨_, rfl⟩
    rw [← hn] at h ⊢
    have : ∀ n : Fin 30, (tab.getD n.1 z71).f1.size ≤ 1000 := by decide
    exact this ⟨n, h⟩
  · rw [List.getD_eq_getElem?_getD, List.getElem?_eq_none (by show 30 ≤ _; omega)]; decide

theorem validB_no {op a b c m : Int} {k : Nat} (hk : k < 4) (h : chk op (letter k) (opnd a b c m (letter k)) = false) : validB op a b c m = false := by
  unfold validB
  match k, hk with
  | 0, _ => have h' : chk op 97 a = false := h; simp [h']
  | 1, _ => have h' : chk op 98 b = false := h; simp [h']
  | 2, _ => have h' : chk op 99 c = false := h; simp [h']
  | 3, _ => have h' : chk op 105 m = false := h; simp [h']
theorem validB_yes {op a b c m : Int} (hop : op < 30) (h : ∀ j, j < 4 → chk op (letter j) (opnd a b c m (letter j)) = true) : validB op a b c m = true := by
  have h0 : chk op 97 a = true := h 0 (by omega)
  have h1 : chk op 98 b = true := h 1 (by omega)
  have h2 : chk op 99 c = true := h 2 (by omega)
  have h3 : chk op 105 m = true := h 3 (by omega)
  simp [validB, hop, h0, h1, h2, h3]

set_option maxRecDepth 100000 in
set_option maxHeartbeats 400000 in
theorem valid_any (op a b c m : Int) (h0 : 0 ≤ op) (h1 : op ≤ 255) (w : World) :
    Calls Try.prog 23 #[.agg #[.int .u8 op, .int .i64 a, .int .i64 b, .int .i64 c, .int .i64 m]] w fun e w' => e = .returned (.bool (validB op a b c m)) ∧ Below w.heap.size w w' := by
  by_cases hop : op < 30
  · have hd : decide (op < 30) = true := decide_eq_true hop
    have hf := find_any op h0 h1 (w.alloc (.cells #[.int .u8 op, .int .i64 a, .int .i64 b, .int .i64 c, .int .i64 m] 23))
    rw [hd] at hf
    have Hf := Lib.hid hf
    have Hop := Lib.hid hop
    clear hf hd hop
    go_enter Try.func23, Try.ntmps23
    go_wp2_with fail
    refine Hf.out.mono ?_
    rintro e w1 ⟨rfl, hb1⟩
    have kc := Go.Joins.run_convert_bytes_const_at (P := Try.prog) (w1.alloc (.cells #[.string (rowOf op).f0, .string (rowOf op).f1, .int .i64 (rowOf op).f2, .int .i64 (rowOf op).f3, .string (rowOf op).f4, .string (rowOf op).f5] 71)) 75 5 #[.int .u8 97, .int .u8 98, .int .u8 99, .int .u8 105] 4 4 (w1.heap.size + 1) (by simp) Try.underlying75 Try.underlying5
    have Hb1 := Lib.hid hb1
    clear hb1
    go_wp2_with fail
    go_loopw [21] (fun i wr => ∃ k : Nat, k ≤ 4 ∧ i = .int .i64 k ∧ (∀ j, j < k → chk op (letter j) (opnd a b c m (letter j)) = true) ∧ VF w w.heap.size w1.heap.size op a b c m wr ∧
        (w1.heap.size + 1 < wr.heap.size) ∧ (∀ j, j < 4 → wr.cell? ⟨w1.heap.size + 1, j, none⟩ = some (.int .u8 (letter j))))
      (fun i _ => 4 - (intOf i).toNat)
    case atStart =>
      have hs1 := Hb1.out.size
      rw [World.size_alloc] at hs1
      have hne : w.heap.size ≠ w1.heap.size := by omega
      have hne' : w.heap.size ≠ w1.heap.size + 1 := by omega
      have hc := fun j => Hb1.out.cell (p := ⟨w.heap.size, j, none⟩) (by simp)
      refine ⟨0, by omega, rfl, fun j hj => absurd hj (Nat.not_lt_zero _), ⟨?_, by simp; omega, by simp; omega, ?_, ?_, ?_, ?_, ?_, ?_, ?_, ?_⟩, by simp, ?_⟩
      · exact ((((Below.refl _ _).alloc (Nat.le_refl _) _).trans (Hb1.out.mono (by simp))).alloc (by omega) _).alloc (by simp; omega) _
      iterate 5
        rw [World.cell?_alloc_past _ _ _ (by simp; omega), World.cell?_alloc_past _ _ _ (by omega), hc, World.cell?_alloc_at _ _ _ _ rfl]; rfl
      iterate 3
        rw [World.cell?_alloc_past _ _ _ (by simp), World.cell?_alloc_at _ _ _ _ rfl]; rfl
      intro j hj
      rw [Go.Joins.cell_alloc_mark_at _ _ _ _ _ _ (by simp)]
      match j, hj with
      | 0, _ => rfl
      | 1, _ => rfl
      | 2, _ => rfl
      | 3, _ => rfl
    case round =>
      obtain ⟨k, hk, rfl, hchk, hvf, hlt, hby⟩ := hrel
      by_cases hk4 : k < 4
      · have hck := hby k hk4
        obtain ⟨ch, hch⟩ : ∃ ch, ch = letter k := ⟨_, rfl⟩
        rw [← hch] at hck
        have hx := hvf.at ch
        have Hhas := Lib.hid (has_any (opnds op) ch wr (opnds_small op))
        have Hvf := Lib.hid hvf
        have Hchk := Lib.hid hchk
        have Hby := Lib.hid hby
        have Hch := Lib.hid hch
        clear hvf hchk hby hch
        obtain ⟨hB, hHB⟩ : ∃ hB, hB = hasB (opnds op) ch := ⟨_, rfl⟩
        rw [← hHB] at Hhas
        have HHB := Lib.hid hHB
        clear hHB
        have hr1 := Hvf.out.r1
        cases hB
        · have hlo := Lib.hid (show lowOf op ch = 0 by unfold lowOf; rw [← HHB.out]; rfl)
          have hhi := Lib.hid (show highOf op ch = 0 by unfold highOf; rw [← HHB.out]; rfl)
          go_wp2_with (first
            | (go_at_call 52; refine (field_any _ _ _ _).mono ?_; rintro e w' ⟨rfl, rfl⟩; simp only [Nat.zero_add])
            | (go_at_call 56; refine Hhas.out.mono ?_; rintro e w2 ⟨rfl, hb2⟩; have Hb2 := Lib.hid hb2; clear hb2))
          all_goals first
            | (go_ret
               refine ⟨?_, Hvf.out.below.trans (Hb2.out.mono Hvf.out.below.size)⟩
               rw [validB_no hk4 (by rw [← Hch.out]; unfold chk; rw [hlo.out, hhi.out]; simp; omega)]; rfl)
            | (go_roundw
               case rel =>
                 refine ⟨k + 1, by omega, by go_num, ?_, Hvf.out.step Hb2.out, Nat.lt_of_lt_of_le hlt Hb2.out.size, fun j hj => (Hb2.out.cell (p := ⟨w1.heap.size + 1, j, none⟩) hlt).trans (Hby.out j hj)⟩
                 intro j hj
                 rcases Nat.lt_succ_iff_lt_or_eq.1 hj with h | rfl
                 · exact Hchk.out j h
                 · rw [← Hch.out]; unfold chk; rw [hlo.out, hhi.out]; simp; omega
               case measure => simp [intOf]; omega)
        · by_cases h105 : ch = 105
          · have hlo := Lib.hid (show lowOf op ch = (rowOf op).f2 by unfold lowOf; rw [← HHB.out, h105]; rfl)
            have hhi := Lib.hid (show highOf op ch = (rowOf op).f3 by unfold highOf; rw [← HHB.out, h105]; rfl)
            have hi : (ch == 105) = true := by simpa using h105
            have H105 := Lib.hid h105
            clear h105
            go_wp2_with (first
              | (go_at_call 52; refine (field_any _ _ _ _).mono ?_; rintro e w' ⟨rfl, rfl⟩; simp only [Nat.zero_add])
              | (go_at_call 56; refine Hhas.out.mono ?_; rintro e w2 ⟨rfl, hb2⟩; have hr2 := (Hvf.out.step hb2).r2; have hr3 := (Hvf.out.step hb2).r3; have Hb2 := Lib.hid hb2; clear hb2))
            go_quiet (fail)
            have Hb3 := Lib.hid (pw_below_drewN Hb2.out nq)
            go_wp2
            all_goals first
              | (go_ret
                 refine ⟨?_, Hvf.out.below.trans (Hb3.out.mono Hvf.out.below.size)⟩
                 rw [validB_no hk4 (by rw [← Hch.out]; unfold chk; rw [hlo.out, hhi.out]; simp; omega)]; rfl)
              | (go_roundw
                 case rel =>
                   refine ⟨k + 1, by omega, by go_num, ?_, Hvf.out.step Hb3.out, Nat.lt_of_lt_of_le hlt Hb3.out.size, fun j hj => (Hb3.out.cell (p := ⟨w1.heap.size + 1, j, none⟩) hlt).trans (Hby.out j hj)⟩
                   intro j hj
                   rcases Nat.lt_succ_iff_lt_or_eq.1 hj with h | rfl
                   · exact Hchk.out j h
                   · rw [← Hch.out]; unfold chk; rw [hlo.out, hhi.out]; simp; omega
                 case measure => simp [intOf]; omega)
          · have hlo := Lib.hid (show lowOf op ch = 0 by unfold lowOf; rw [← HHB.out, decide_eq_false h105]; rfl)
            have hhi := Lib.hid (show highOf op ch = 15 by unfold highOf; rw [← HHB.out, if_neg h105]; rfl)
            have hi : (ch == 105) = false := by simpa using h105
            have H105 := Lib.hid h105
            clear h105
            go_wp2_with (first
              | (go_at_call 52; refine (field_any _ _ _ _).mono ?_; rintro e w' ⟨rfl, rfl⟩; simp only [Nat.zero_add])
              | (go_at_call 56; refine Hhas.out.mono ?_; rintro e w2 ⟨rfl, hb2⟩; have Hb2 := Lib.hid hb2; clear hb2))
            all_goals first
              | (go_ret
                 refine ⟨?_, Hvf.out.below.trans (Hb2.out.mono Hvf.out.below.size)⟩
                 rw [validB_no hk4 (by rw [← Hch.out]; unfold chk; rw [hlo.out, hhi.out]; simp; omega)]; rfl)
              | (go_roundw
                 case rel =>
                   refine ⟨k + 1, by omega, by go_num, ?_, Hvf.out.step Hb2.out, Nat.lt_of_lt_of_le hlt Hb2.out.size, fun j hj => (Hb2.out.cell (p := ⟨w1.heap.size + 1, j, none⟩) hlt).trans (Hby.out j hj)⟩
                   intro j hj
                   rcases Nat.lt_succ_iff_lt_or_eq.1 hj with h | rfl
                   · exact Hchk.out j h
                   · rw [← Hch.out]; unfold chk; rw [hlo.out, hhi.out]; simp; omega
                 case measure => simp [intOf]; omega)
      · go_wp2_with fail
        go_ret
        have : k = 4 := by omega
        subst this
        exact ⟨by rw [validB_yes Hop.out hchk]; rfl, hvf.below⟩
  · have hd : decide (op < 30) = false := decide_eq_false hop
    have hf := find_any op h0 h1 (w.alloc (.cells #[.int .u8 op, .int .i64 a, .int .i64 b, .int .i64 c, .int .i64 m] 23))
    rw [hd] at hf
    have Hf := Lib.hid hf
    have Hd := Lib.hid hd
    clear hf hd hop
    go_enter Try.func23, Try.ntmps23
    go_wp2_with fail
    refine Hf.out.mono ?_
    rintro e w1 ⟨rfl, hb1⟩
    have hs1 := hb1.size
    rw [World.size_alloc] at hs1
    have Hb1 := Lib.hid hb1
    clear hb1
    go_wp2_with fail
    go_ret
    refine ⟨by unfold validB; rw [Hd.out]; rfl, ?_⟩
    exact (((Below.refl _ _).alloc (Nat.le_refl _) _).trans (Hb1.out.mono (by simp))).alloc (by omega) _
end Go.Proofs.Ytgjpenhfechhcaa
