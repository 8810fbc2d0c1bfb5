/- The contract of isa.Encode: zero and ErrForm where the instruction is not valid; else the word that its loop over the operands makes. -/
import Derived.Test.YtgjpenhfechhcaaA3
namespace Go.Proofs.Ytgjpenhfechhcaa
set_option linter.unusedVariables false
set_option linter.unusedSimpArgs false
open Go.RowKit Go.Proofs.YtgjpenhfechhcaaW.PrintWords Go.Proofs.YtgjpenhfechhcaaW.PrintLast Go.Proofs.YtgjpenhfechhcaaW.PrintMore
open PIsaDecodes

theorem valid_at (op a b c m : Int) (v : Bool) (hv : validB op a b c m = v) (h0 : 0 ≤ op) (h1 : op ≤ 255) (w : World) :
    Calls Try.prog 23 #[.agg #[.int .u8 op, .int .i64 a, .int .i64 b, .int .i64 c, .int .i64 m]] w fun e w' => e = .returned (.bool v) ∧ Below w.heap.size w w' := by
  subst hv; exact valid_any op a b c m h0 h1 w

set_option maxRecDepth 100000 in
set_option maxHeartbeats 400000 in
theorem encode_no (op a b c m : Int) (hv : validB op a b c m = false) (h0 : 0 ≤ op) (h1 : op ≤ 255) (w : World) :
    Calls Try.prog 21 #[.agg #[.int .u8 op, .int .i64 a, .int .i64 b, .int .i64 c, .int .i64 m]] w fun e w' => e = .returned (.tuple #[.int .u32 0, .int .i64 3]) ∧ Below w.heap.size w w' := by
  have Hv := Lib.hid (fun W => valid_at op a b c m false hv h0 h1 W)
  clear hv
  go_enter Try.func21, Try.ntmps21
  go_wp2_with fail
  refine (Hv.out _).mono ?_
  rintro e w1 ⟨rfl, hb1⟩
  have Hb1 := Lib.hid hb1
  clear hb1
  go_wp2_with fail
  go_ret2
  exact ⟨rfl, ((Below.refl _ _).alloc (Nat.le_refl _) _).trans (Hb1.out.mono (by simp))⟩

/-- one round of Encode's loop: the operand with the letter ch, laid into the word v -/
def encStep (v ch x : Int) : Int := bits .or .u32 v ((if ch = 105 then bits .and .u32 (x % 4294967296) 262143 else x % 4294967296) * 2 ^ (posOf ch).toNat % 4294967296)
def encK (op a b c m : Int) : Nat → Int
  | 0 => op * 67108864
  | k + 1 => encStep (encK op a b c m k) (bt (rowOf op).f1 k) (opnd a b c m (bt (rowOf op).f1 k))
/-- the word that Encode makes -/
def encW (op a b c m : Int) : Int := encK op a b c m (rowOf op).f1.size

theorem letters_fin : ∀ n : Fin 30, (tab.getD n.1 z71).f1.size ≤ 3 ∧ ∀ k : Fin 3, k.1 < (tab.getD n.1 z71).f1.size → (bt (tab.getD n.1 z71).f1 k.1 = 97 ∨ bt (tab.getD n.1 z71).f1 k.1 = 98 ∨ bt (tab.getD n.1 z71).f1 k.1 = 99 ∨ bt (tab.getD n.1 z71).f1 k.1 = 105) := by decide
theorem letters_at (op : Int) (h0 : 0 ≤ op) (h1 : op < 30) : (rowOf op).f1.size ≤ 3 ∧ ∀ k : Nat, k < (rowOf op).f1.size → (bt (rowOf op).f1 k = 97 ∨ bt (rowOf op).f1 k = 98 ∨ bt (rowOf op).f1 k = 99 ∨ bt (rowOf op).f1 k = 105) := by
  obtain ⟨n, rfl⟩ := Int.eq_ofNat_of_zero_le h0
  have h := letters_fin ⟨n, by omega⟩
  have e : rowOf (n : Int) = tab.getD n z71 := rfl
  rw [e]
  exact ⟨h.1, fun k hk => h.2 ⟨k, by have := h.1; simp only at this; omega⟩ hk⟩

set_option maxRecDepth 100000 in
set_option maxHeartbeats 400000 in
theorem encode_yes (op a b c m : Int) (hv : validB op a b c m = true) (h0 : 0 ≤ op) (h1 : op < 30) (w : World) :
    Calls Try.prog 21 #[.agg #[.int .u8 op, .int .i64 a, .int .i64 b, .int .i64 c, .int .i64 m]] w fun e w' => e = .returned (.tuple #[.int .u32 (encW op a b c m), .int .i64 0]) ∧ Below w.heap.size w w' := by
  have Hv := Lib.hid (fun W => valid_at op a b c m true hv h0 (by omega) W)
  have hf := fun W => find_any op h0 (by omega) W
  rw [decide_eq_true h1] at hf
  have Hf := Lib.hid hf
  have kb := fun W => print_bytes (P := Try.prog) 9 75 5 Try.underlying9 Try.underlying75 Try.underlying5 (rowOf op).f1 W
  have hsz := (letters_at op h0 h1).1
  have Hle := Lib.hid (letters_at op h0 h1).2
  clear hv hf
  go_enter Try.func21, Try.ntmps21
  go_wp2_with fail
  refine (Hv.out _).mono ?_
  rintro e w1 ⟨rfl, hb1⟩
  have hc := fun j => hb1.cell (p := ⟨w.heap.size, j, none⟩) (by simp)
  have hs1 := hb1.size
  rw [World.size_alloc] at hs1
  have e0 : w1.cell? ⟨w.heap.size, 0, none⟩ = some (.int .u8 op) := by rw [hc]; simp
  have Hb1 := Lib.hid hb1
  clear hb1 hc
  go_wp2_with fail
  refine (Hf.out _).mono ?_
  rintro e w2 ⟨rfl, hb2⟩
  have hs2 := hb2.size
  have e2 : w2.cell? ⟨w.heap.size, 0, none⟩ = some (.int .u8 op) := (hb2.cell (p := ⟨w.heap.size, 0, none⟩) hs1).trans e0
  have hlt2 : w.heap.size < w2.heap.size := by omega
  have Hb2 := Lib.hid hb2
  clear hb2
  go_wp2_with fail
  go_loopw [6, 27] (fun v i wr => ∃ k : Nat, k ≤ (rowOf op).f1.size ∧ i = .int .i64 k ∧ v = .int .u32 (encK op a b c m k) ∧ VF w w.heap.size w2.heap.size op a b c m wr ∧
        (w2.heap.size + 1 < wr.heap.size) ∧ (∀ j, j < (rowOf op).f1.size → wr.cell? ⟨w2.heap.size + 1, j, none⟩ = some (.int .u8 (bt (rowOf op).f1 j))))
      (fun _ i _ => (rowOf op).f1.size - (intOf i).toNat)
  case atStart =>
    have hc := fun j => Hb1.out.cell (p := ⟨w.heap.size, j, none⟩) (by simp)
    have hc2 := fun j => Hb2.out.cell (p := ⟨w.heap.size, j, none⟩) (by simp; omega)
    have hbb : Below w.heap.size w (Lib.bytesWorld (w2.alloc (.cells #[.string (rowOf op).f0, .string (rowOf op).f1, .int .i64 (rowOf op).f2, .int .i64 (rowOf op).f3, .string (rowOf op).f4, .string (rowOf op).f5] 71)) 5 (rowOf op).f1) := by
      refine bytes_below (((((Below.refl _ _).alloc (Nat.le_refl _) _).trans (Hb1.out.mono (by simp))).trans (Hb2.out.mono (by omega))).alloc (by omega) _) (by simp; omega) _ _
    have hold : ∀ W s b j, b < W.heap.size → (Lib.bytesWorld W 5 s).cell? ⟨b, j, none⟩ = W.cell? ⟨b, j, none⟩ := fun W s b j h => World.cell?_of_block (Lib.bytesWorld_at_old W 5 s b h)
    refine ⟨0, by omega, rfl, rfl, ⟨hbb, by rw [Lib.bytesWorld_size]; simp; omega, by rw [Lib.bytesWorld_size]; simp; omega, ?_, ?_, ?_, ?_, ?_, ?_, ?_, ?_⟩, by rw [Lib.bytesWorld_size]; simp, ?_⟩
    iterate 5
      rw [hold _ _ _ _ (by simp; omega), World.cell?_alloc_past _ _ _ (by omega), hc2, hc, World.cell?_alloc_at _ _ _ _ rfl]; rfl
    iterate 3
      rw [hold _ _ _ _ (by simp), World.cell?_alloc_at _ _ _ _ rfl]; rfl
    intro j hj
    have h := (bytes_reads (w2.alloc (.cells #[.string (rowOf op).f0, .string (rowOf op).f1, .int .i64 (rowOf op).f2, .int .i64 (rowOf op).f3, .string (rowOf op).f4, .string (rowOf op).f5] 71)) 5 (rowOf op).f1 (by omega)).at_ (j : Int) (by omega) (by omega)
    obtain ⟨ad, e1, e2⟩ := h
    cases e1
    rw [rd_bytesOf] at e2
    cases j <;> simpa [Addr.add] using e2
  case round =>
    obtain ⟨k, hk, rfl, rfl, hvf, hlt, hby⟩ := hrel
    by_cases hk4 : k < (rowOf op).f1.size
    · have hck := hby k hk4
      obtain ⟨ch, hch⟩ : ∃ ch, ch = bt (rowOf op).f1 k := ⟨_, rfl⟩
      rw [← hch] at hck
      have hx := hvf.at ch
      have Hvf := Lib.hid hvf
      have Hby := Lib.hid hby
      have Hch := Lib.hid hch
      clear hvf hby hch
      have Hpos := Lib.hid (fun W => position_any ch (by rw [Hch.out]; exact Hle.out k hk4) W)
      have hp0 : 0 ≤ posOf ch := by unfold posOf; split <;> (try split) <;> (try split) <;> omega
      have hp1 : posOf ch ≤ 22 := by unfold posOf; split <;> (try split) <;> (try split) <;> omega
      go_wp2_with (first
            | (go_at_call 52; refine (field_any _ _ _ _).mono ?_; rintro e w' ⟨rfl, rfl⟩; simp only [Nat.zero_add])
            | (go_at_call 53; refine (Hpos.out _).mono ?_; rintro e w4 ⟨rfl, hb4⟩; have Hb4 := Lib.hid hb4; clear hb4))
      all_goals
        go_roundw
        case rel =>
          refine ⟨k + 1, by omega, by go_num, ?_, Hvf.out.step Hb4.out, Nat.lt_of_lt_of_le hlt Hb4.out.size, fun j hj => (Hb4.out.cell (p := ⟨w2.heap.size + 1, j, none⟩) hlt).trans (Hby.out j hj)⟩
          have e : encK op a b c m (k + 1) = encStep (encK op a b c m k) ch (opnd a b c m ch) := by rw [Hch.out]; rfl
          rw [e]; unfold encStep
          first
            | (have h5 : (ch == 105) = true := by assumption
               rw [if_pos (by simpa using h5)])
            | (have h5 : (ch == 105) = false := by assumption
               rw [if_neg (by simpa using h5)])
        case measure => simp [intOf]; omega
    · go_wp2_with fail
      have : k = (rowOf op).f1.size := by omega
      subst this
      go_ret2
      exact ⟨rfl, hvf.below⟩
end Go.Proofs.Ytgjpenhfechhcaa
