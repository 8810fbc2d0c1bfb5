/- The contract of isa.Decode: for every word it returns the instruction that its loop over the operands makes, if that instruction's encoding is the word; else a zero instruction and ErrForm. -/
import Derived.Test.YtgjpenhfechhcaaA4
namespace Go.Proofs.Ytgjpenhfechhcaa
set_option linter.unusedVariables false
set_option linter.unusedSimpArgs false
open Go.RowKit Go.Proofs.YtgjpenhfechhcaaW.PrintWords Go.Proofs.YtgjpenhfechhcaaW.PrintLast Go.Proofs.YtgjpenhfechhcaaW.PrintMore
open PIsaDecodes

/-- block R holds a zero instruction that may be written -/
structure ZF (R : Nat) (W : World) : Prop where
  lt : R < W.heap.size
  blk : W.heap[R]? = some (.cells #[.int .u8 0, .int .i64 0, .int .i64 0, .int .i64 0, .int .i64 0] 23 (0, 0))
theorem ZF.step {R : Nat} {W W' : World} (h : ZF R W) (hb : Below W.heap.size W W') : ZF R W' := ⟨Nat.lt_of_lt_of_le h.lt hb.size, (hb.block R h.lt).trans h.blk⟩
theorem ZF.set {R : Nat} {W : World} (h : ZF R W) {p : Addr} (hp : p.block ≠ R) (u : Value) : ZF R (W.setCell p u) := ⟨by simp only [World.setCell, Array.size_modify]; exact h.lt, (Below.heap_setCell W p u R (Ne.symm hp)).trans h.blk⟩

/-- the operand with the letter ch of the word v, as Decode takes it -/
def valW (v ch : Int) : Int := if ch = 105 then wrap64 (wrap32 (v * 16384 % 4294967296) / 16384) else wrap64 (bits .and .u32 (v / 2 ^ (posOf ch).toNat) 15)
def decO (v op ch : Int) : Nat → Int
  | 0 => 0
  | k + 1 => if bt (rowOf op).f1 k = ch then valW v ch else decO v op ch k

/-- the operand with the letter ch of the instruction that Decode makes -/
def decF (v ch : Int) : Int := decO v (v / 67108864) ch (rowOf (v / 67108864)).f1.size
/-- whether the word v is an encoding -/
def decOK (v : Int) : Bool := decide (v / 67108864 < 30) && (validB (v / 67108864) (decF v 97) (decF v 98) (decF v 99) (decF v 105) && decide (encW (v / 67108864) (decF v 97) (decF v 98) (decF v 99) (decF v 105) = v))

theorem VF.put {w : World} {A B : Nat} {op v ch : Int} {k : Nat} {W : World} (h : VF w A B op (decO v op 97 k) (decO v op 98 k) (decO v op 99 k) (decO v op 105 k) W) (hch : ch = bt (rowOf op).f1 k) (hc : ch = 97 ∨ ch = 98 ∨ ch = 99 ∨ ch = 105) (hAB : A ≠ B) (hA : w.heap.size ≤ A) :
    VF w A B op (decO v op 97 (k + 1)) (decO v op 98 (k + 1)) (decO v op 99 (k + 1)) (decO v op 105 (k + 1)) (W.setCell ⟨A, fieldOff ch, none⟩ (.int .i64 (valW v ch))) := by
  have hsz : (W.setCell ⟨A, fieldOff ch, none⟩ (.int .i64 (valW v ch))).heap.size = W.heap.size := by simp [World.setCell]
  have hB : ∀ j, (W.setCell ⟨A, fieldOff ch, none⟩ (.int .i64 (valW v ch))).cell? ⟨B, j, none⟩ = W.cell? ⟨B, j, none⟩ := fun j => World.cell?_of_block (Below.heap_setCell W _ _ B (Ne.symm hAB))
  have hs : ∀ x, decO v op x (k + 1) = if ch = x then valW v x else decO v op x k := fun x => by rw [hch]; rfl
  have hold := h.at ch
  have hsame : (W.setCell ⟨A, fieldOff ch, none⟩ (.int .i64 (valW v ch))).cell? ⟨A, fieldOff ch, none⟩ = some (.int .i64 (valW v ch)) := World.cell?_setCell_same' _ _ _ (by rw [hold]; rfl)
  have hne : ∀ j, j ≠ fieldOff ch → (W.setCell ⟨A, fieldOff ch, none⟩ (.int .i64 (valW v ch))).cell? ⟨A, j, none⟩ = W.cell? ⟨A, j, none⟩ := fun j hj => by
    apply World.cell?_setCell_other
    intro e
    injection e with _ e
    exact hj e.symm
  refine ⟨h.below.setCell hA _, by rw [hsz]; exact h.ltA, by rw [hsz]; exact h.ltB, ?_, ?_, ?_, ?_, ?_, (hB 1).trans h.r1, (hB 2).trans h.r2, (hB 3).trans h.r3⟩
  · exact (hne 0 (by unfold fieldOff; split <;> (try split) <;> (try split) <;> omega)).trans h.i0
  all_goals
    rw [hs]
    rcases hc with rfl | rfl | rfl | rfl
  all_goals first
    | (rw [if_pos rfl]; exact hsame)
    | (rw [if_neg (by decide)]; first | exact (hne _ (by decide)).trans h.i1 | exact (hne _ (by decide)).trans h.i2 | exact (hne _ (by decide)).trans h.i3 | exact (hne _ (by decide)).trans h.i4)

set_option maxRecDepth 100000 in
set_option maxHeartbeats 1000000 in
theorem decode_bad (v : Int) (h0 : 0 ≤ v) (h1 : v < 4294967296) (h2 : v / 67108864 < 30) (hv : validB (v / 67108864) (decF v 97) (decF v 98) (decF v 99) (decF v 105) = false) (w : World) :
    Calls Try.prog 25 #[.int .u32 v] w fun e w' => e = .returned (.tuple #[.agg #[.int .u8 0, .int .i64 0, .int .i64 0, .int .i64 0, .int .i64 0], .int .i64 3]) ∧ Below w.heap.size w w' := by
  have Hv := Lib.hid hv
  clear hv
  obtain ⟨op, hop⟩ : ∃ op, v / 67108864 = op := ⟨_, rfl⟩
  have hop0 : 0 ≤ op := by omega
  have hop1 : op < 30 := by omega
  have hf := fun W => find_any op hop0 (by omega) W
  rw [decide_eq_true hop1] at hf
  have Hf := Lib.hid hf
  have kb := fun W => print_bytes (P := Try.prog) 9 75 5 Try.underlying9 Try.underlying75 Try.underlying5 (rowOf op).f1 W
  have hsz := (letters_at op hop0 hop1).1
  have Hle := Lib.hid (letters_at op hop0 hop1).2
  clear hf h2
  go_enter Try.func25, Try.ntmps25
  go_wp2_with fail
  refine (Hf.out _).mono ?_
  rintro e w2 ⟨rfl, hb2⟩
  have hs2 := hb2.size
  rw [World.size_alloc, World.size_alloc] at hs2
  have hlt2 : w.heap.size + 1 < w2.heap.size := by omega
  have hlt3 : w.heap.size < w2.heap.size := by omega
  have Hb2 := Lib.hid hb2
  clear hb2
  go_wp2_with fail
  go_loopw [28] (fun i wr => ∃ k : Nat, k ≤ (rowOf op).f1.size ∧ i = .int .i64 k ∧ VF w (w.heap.size + 1) w2.heap.size op (decO v op 97 k) (decO v op 98 k) (decO v op 99 k) (decO v op 105 k) wr ∧ ZF w.heap.size wr ∧ (∀ j, wr.frozen? ⟨w.heap.size + 1, j, none⟩ = false) ∧
        (w2.heap.size + 1 < wr.heap.size) ∧ (∀ j, j < (rowOf op).f1.size → wr.cell? ⟨w2.heap.size + 1, j, none⟩ = some (.int .u8 (bt (rowOf op).f1 j))))
      (fun i _ => (rowOf op).f1.size - (intOf i).toNat)
  case atStart =>
    have hc2 := fun j => Hb2.out.cell (p := ⟨w.heap.size + 1, j, none⟩) (by simp)
    have hR := Hb2.out.block w.heap.size (by simp; omega)
    have hfA := fun j => Hb2.out.frozen (p := ⟨w.heap.size + 1, j, none⟩) (by simp)
    have hbb : Below w.heap.size w (Lib.bytesWorld (w2.alloc (.cells #[.string (rowOf op).f0, .string (rowOf op).f1, .int .i64 (rowOf op).f2, .int .i64 (rowOf op).f3, .string (rowOf op).f4, .string (rowOf op).f5] 71)) 5 (rowOf op).f1) := by
      refine bytes_below (((((Below.refl _ _).alloc (Nat.le_refl _) _).alloc (by simp) _).trans (Hb2.out.mono (by simp; omega))).alloc (by omega) _) (by simp; omega) _ _
    have hold : ∀ W s b j, b < W.heap.size → (Lib.bytesWorld W 5 s).cell? ⟨b, j, none⟩ = W.cell? ⟨b, j, none⟩ := fun W s b j h => World.cell?_of_block (Lib.bytesWorld_at_old W 5 s b h)
    have holdf : ∀ W s b j, b < W.heap.size → (Lib.bytesWorld W 5 s).frozen? ⟨b, j, none⟩ = W.frozen? ⟨b, j, none⟩ := fun W s b j h => World.frozen?_of_block (Lib.bytesWorld_at_old W 5 s b h)
    refine ⟨0, by omega, rfl, ⟨hbb, by rw [Lib.bytesWorld_size]; simp; omega, by rw [Lib.bytesWorld_size]; simp; omega, ?_, ?_, ?_, ?_, ?_, ?_, ?_, ?_⟩, ⟨by rw [Lib.bytesWorld_size]; simp; omega, ?_⟩, ?_, by rw [Lib.bytesWorld_size]; simp, ?_⟩
    iterate 5
      rw [hold _ _ _ _ (by simp; omega), World.cell?_alloc_past _ _ _ (by omega), hc2, World.cell?_alloc_at _ _ _ _ (by simp)]; rfl
    iterate 3
      rw [hold _ _ _ _ (by simp), World.cell?_alloc_at _ _ _ _ rfl]; rfl
    · rw [Lib.bytesWorld_at_old _ _ _ _ (by simp; omega), Below.heap_alloc _ _ _ (by omega), hR, Below.heap_alloc _ _ _ (by simp)]
      show (w.heap.push _)[w.heap.size]? = _
      simp
    · intro j
      rw [holdf _ _ _ _ (by simp; omega), World.frozen?_alloc_past _ _ _ (by omega), hfA, World.frozen?_alloc_at _ _ _ _ (by simp)]
    intro j hj
    have h := (bytes_reads (w2.alloc (.cells #[.string (rowOf op).f0, .string (rowOf op).f1, .int .i64 (rowOf op).f2, .int .i64 (rowOf op).f3, .string (rowOf op).f4, .string (rowOf op).f5] 71)) 5 (rowOf op).f1 (by omega)).at_ (j : Int) (by omega) (by omega)
    obtain ⟨ad, e1, e2⟩ := h
    cases e1
    rw [rd_bytesOf] at e2
    cases j <;> simpa [Addr.add] using e2
  case round =>
    obtain ⟨k, hk, rfl, hvf, hzf, hfr, hlt, hby⟩ := hrel
    by_cases hk4 : k < (rowOf op).f1.size
    · have hck := hby k hk4
      obtain ⟨ch, hch⟩ : ∃ ch, ch = bt (rowOf op).f1 k := ⟨_, rfl⟩
      rw [← hch] at hck
      have hx := hvf.at ch
      have hx4 := hvf.i4
      have hfr4 := hfr 4
      have hfrc := hfr (fieldOff ch)
      have Hvf := Lib.hid hvf
      have Hzf := Lib.hid hzf
      have Hfr := Lib.hid hfr
      have Hby := Lib.hid hby
      have Hch := Lib.hid hch
      clear hvf hby hch hzf hfr
      have Hpos := Lib.hid (fun W => position_any ch (by rw [Hch.out]; exact Hle.out k hk4) W)
      have hp0 : 0 ≤ posOf ch := by unfold posOf; split <;> (try split) <;> (try split) <;> omega
      have hp1 : posOf ch ≤ 22 := by unfold posOf; split <;> (try split) <;> (try split) <;> omega
      go_wp2_with (first
            | (go_at_call 52; refine (field_any _ _ _ _).mono ?_; rintro e w' ⟨rfl, rfl⟩; simp only [Nat.zero_add])
            | (go_at_call 53; refine (Hpos.out _).mono ?_; rintro e w4 ⟨rfl, hb4⟩; have hx5 := (hb4.cell (p := ⟨w.heap.size + 1, fieldOff ch, none⟩) Hvf.out.ltA).trans hx; have hfr5 := (hb4.frozen (p := ⟨w.heap.size + 1, fieldOff ch, none⟩) Hvf.out.ltA).trans hfrc; have Hb4 := Lib.hid hb4; clear hb4))
      · have h5 : (ch == 105) = true := by assumption
        have h105 : ch = 105 := by simpa using h5
        have hp := Hvf.out.put (v := v) Hch.out (by rw [Hch.out]; exact Hle.out k hk4) (by omega) (by omega)
        have e1 : fieldOff ch = 4 := by rw [h105]; rfl
        have e2 : valW v ch = wrap64 (wrap32 (v * 16384 % 4294967296) / 16384) := by rw [h105]; rfl
        rw [e1, e2] at hp
        have Hp := Lib.hid hp
        clear hp
        go_roundw
        case rel =>
          refine ⟨k + 1, by omega, by go_num, Hp.out, Hzf.out.set (by show w.heap.size + 1 ≠ w.heap.size; omega) _, ?_, by simpa [World.setCell] using hlt, fun j hj => (World.cell?_of_block (Below.heap_setCell _ _ _ (w2.heap.size + 1) (by show w2.heap.size + 1 ≠ w.heap.size + 1; omega))).trans (Hby.out j hj)⟩
          intro j
          rw [World.frozen?_setCell]; exact Hfr.out j
        case measure => simp [intOf]; omega
      · have h5 : (ch == 105) = false := by assumption
        have h105 : ¬ ch = 105 := by simpa using h5
        have hp := (Hvf.out.step Hb4.out).put (v := v) Hch.out (by rw [Hch.out]; exact Hle.out k hk4) (by omega) (by omega)
        have e2 : valW v ch = wrap64 (bits .and .u32 (v / 2 ^ (posOf ch).toNat) 15) := by unfold valW; rw [if_neg h105]
        rw [e2] at hp
        have Hp := Lib.hid hp
        have hltA := Hvf.out.ltA
        clear hp
        go_roundw
        case rel =>
          refine ⟨k + 1, by omega, by go_num, Hp.out, (Hzf.out.step Hb4.out).set (by show w.heap.size + 1 ≠ w.heap.size; omega) _, ?_, ?_, fun j hj => (World.cell?_of_block (Below.heap_setCell _ _ _ (w2.heap.size + 1) (by show w2.heap.size + 1 ≠ w.heap.size + 1; omega))).trans ((Hb4.out.cell (p := ⟨w2.heap.size + 1, j, none⟩) hlt).trans (Hby.out j hj))⟩
          · intro j
            rw [World.frozen?_setCell]; exact (Hb4.out.frozen (p := ⟨w.heap.size + 1, j, none⟩) hltA).trans (Hfr.out j)
          · have := Hb4.out.size
            simp only [World.setCell, Array.size_modify]; omega
        case measure => simp [intOf]; omega
    · have hkk : k = (rowOf op).f1.size := by omega
      subst hkk
      obtain ⟨dA, hdA⟩ : ∃ d, decO v op 97 (rowOf op).f1.size = d := ⟨_, rfl⟩
      obtain ⟨dB, hdB⟩ : ∃ d, decO v op 98 (rowOf op).f1.size = d := ⟨_, rfl⟩
      obtain ⟨dC, hdC⟩ : ∃ d, decO v op 99 (rowOf op).f1.size = d := ⟨_, rfl⟩
      obtain ⟨dM, hdM⟩ : ∃ d, decO v op 105 (rowOf op).f1.size = d := ⟨_, rfl⟩
      rw [hdA, hdB, hdC, hdM] at hvf
      have hv' := Hv.out
      simp only [decF, hop] at hv'
      rw [hdA, hdB, hdC, hdM] at hv'
      have HE := Lib.hid (encode_no op dA dB dC dM hv' (by omega) (by omega) wr)
      clear hv'
      clear hdA hdB hdC hdM
      have ci0 := hvf.i0
      have ci1 := hvf.i1
      have ci2 := hvf.i2
      have ci3 := hvf.i3
      have ci4 := hvf.i4
      have Hvf := Lib.hid hvf
      have Hzf := Lib.hid hzf
      clear hvf hzf hfr hby
      go_wp2_with fail
      refine HE.out.mono ?_
      rintro e w5 ⟨rfl, hb5⟩
      have hz5 := Hzf.out.step hb5
      have hv5 := Hvf.out.step hb5
      have z0 : w5.cell? ⟨w.heap.size, 0, none⟩ = some (.int .u8 0) := blk_cell hz5.blk 0
      have z1 : w5.cell? ⟨w.heap.size, 1, none⟩ = some (.int .i64 0) := blk_cell hz5.blk 1
      have z2 : w5.cell? ⟨w.heap.size, 2, none⟩ = some (.int .i64 0) := blk_cell hz5.blk 2
      have z3 : w5.cell? ⟨w.heap.size, 3, none⟩ = some (.int .i64 0) := blk_cell hz5.blk 3
      have z4 : w5.cell? ⟨w.heap.size, 4, none⟩ = some (.int .i64 0) := blk_cell hz5.blk 4
      have zf0 := blk_frozen hz5.blk 0
      have zf1 := blk_frozen hz5.blk 1
      have zf2 := blk_frozen hz5.blk 2
      have zf3 := blk_frozen hz5.blk 3
      have zf4 := blk_frozen hz5.blk 4
      have c50 := hv5.i0
      have c51 := hv5.i1
      have c52 := hv5.i2
      have c53 := hv5.i3
      have c54 := hv5.i4
      have Hb5 := Lib.hid hv5.below
      clear hz5 hv5 hb5
      go_wp2_with fail
      refine bodyPost_ret (v := .tuple #[.agg #[.int .u8 0, .int .i64 0, .int .i64 0, .int .i64 0, .int .i64 0], .int .i64 3]) (by simp [results, Try.results25, go_sem, z0, z1, z2, z3, z4, zf0, zf1, zf2, zf3, zf4]) rfl ⟨rfl, ?_⟩
      exact ((((Hb5.out.setCell (Nat.le_refl _) _).setCell (Nat.le_refl _) _).setCell (Nat.le_refl _) _).setCell (Nat.le_refl _) _).setCell (Nat.le_refl _) _

set_option maxRecDepth 100000 in
set_option maxHeartbeats 1000000 in
theorem decode_other (v : Int) (h0 : 0 ≤ v) (h1 : v < 4294967296) (h2 : v / 67108864 < 30) (hv : validB (v / 67108864) (decF v 97) (decF v 98) (decF v 99) (decF v 105) = true) (hw : encW (v / 67108864) (decF v 97) (decF v 98) (decF v 99) (decF v 105) ≠ v) (w : World) :
    Calls Try.prog 25 #[.int .u32 v] w fun e w' => e = .returned (.tuple #[.agg #[.int .u8 0, .int .i64 0, .int .i64 0, .int .i64 0, .int .i64 0], .int .i64 3]) ∧ Below w.heap.size w w' := by
  have Hv := Lib.hid hv
  have Hw := Lib.hid hw
  clear hv hw
  obtain ⟨op, hop⟩ : ∃ op, v / 67108864 = op := ⟨_, rfl⟩
  have hop0 : 0 ≤ op := by omega
  have hop1 : op < 30 := by omega
  have hf := fun W => find_any op hop0 (by omega) W
  rw [decide_eq_true hop1] at hf
  have Hf := Lib.hid hf
  have kb := fun W => print_bytes (P := Try.prog) 9 75 5 Try.underlying9 Try.underlying75 Try.underlying5 (rowOf op).f1 W
  have hsz := (letters_at op hop0 hop1).1
  have Hle := Lib.hid (letters_at op hop0 hop1).2
  clear hf h2
  go_enter Try.func25, Try.ntmps25
  go_wp2_with fail
  refine (Hf.out _).mono ?_
  rintro e w2 ⟨rfl, hb2⟩
  have hs2 := hb2.size
  rw [World.size_alloc, World.size_alloc] at hs2
  have hlt2 : w.heap.size + 1 < w2.heap.size := by omega
  have hlt3 : w.heap.size < w2.heap.size := by omega
  have Hb2 := Lib.hid hb2
  clear hb2
  go_wp2_with fail
  go_loopw [28] (fun i wr => ∃ k : Nat, k ≤ (rowOf op).f1.size ∧ i = .int .i64 k ∧ VF w (w.heap.size + 1) w2.heap.size op (decO v op 97 k) (decO v op 98 k) (decO v op 99 k) (decO v op 105 k) wr ∧ ZF w.heap.size wr ∧ (∀ j, wr.frozen? ⟨w.heap.size + 1, j, none⟩ = false) ∧
        (w2.heap.size + 1 < wr.heap.size) ∧ (∀ j, j < (rowOf op).f1.size → wr.cell? ⟨w2.heap.size + 1, j, none⟩ = some (.int .u8 (bt (rowOf op).f1 j))))
      (fun i _ => (rowOf op).f1.size - (intOf i).toNat)
  case atStart =>
    have hc2 := fun j => Hb2.out.cell (p := ⟨w.heap.size + 1, j, none⟩) (by simp)
    have hR := Hb2.out.block w.heap.size (by simp; omega)
    have hfA := fun j => Hb2.out.frozen (p := ⟨w.heap.size + 1, j, none⟩) (by simp)
    have hbb : Below w.heap.size w (Lib.bytesWorld (w2.alloc (.cells #[.string (rowOf op).f0, .string (rowOf op).f1, .int .i64 (rowOf op).f2, .int .i64 (rowOf op).f3, .string (rowOf op).f4, .string (rowOf op).f5] 71)) 5 (rowOf op).f1) := by
      refine bytes_below (((((Below.refl _ _).alloc (Nat.le_refl _) _).alloc (by simp) _).trans (Hb2.out.mono (by simp; omega))).alloc (by omega) _) (by simp; omega) _ _
    have hold : ∀ W s b j, b < W.heap.size → (Lib.bytesWorld W 5 s).cell? ⟨b, j, none⟩ = W.cell? ⟨b, j, none⟩ := fun W s b j h => World.cell?_of_block (Lib.bytesWorld_at_old W 5 s b h)
    have holdf : ∀ W s b j, b < W.heap.size → (Lib.bytesWorld W 5 s).frozen? ⟨b, j, none⟩ = W.frozen? ⟨b, j, none⟩ := fun W s b j h => World.frozen?_of_block (Lib.bytesWorld_at_old W 5 s b h)
    refine ⟨0, by omega, rfl, ⟨hbb, by rw [Lib.bytesWorld_size]; simp; omega, by rw [Lib.bytesWorld_size]; simp; omega, ?_, ?_, ?_, ?_, ?_, ?_, ?_, ?_⟩, ⟨by rw [Lib.bytesWorld_size]; simp; omega, ?_⟩, ?_, by rw [Lib.bytesWorld_size]; simp, ?_⟩
    iterate 5
      rw [hold _ _ _ _ (by simp; omega), World.cell?_alloc_past _ _ _ (by omega), hc2, World.cell?_alloc_at _ _ _ _ (by simp)]; rfl
    iterate 3
      rw [hold _ _ _ _ (by simp), World.cell?_alloc_at _ _ _ _ rfl]; rfl
    · rw [Lib.bytesWorld_at_old _ _ _ _ (by simp; omega), Below.heap_alloc _ _ _ (by omega), hR, Below.heap_alloc _ _ _ (by simp)]
      show (w.heap.push _)[w.heap.size]? = _
      simp
    · intro j
      rw [holdf _ _ _ _ (by simp; omega), World.frozen?_alloc_past _ _ _ (by omega), hfA, World.frozen?_alloc_at _ _ _ _ (by simp)]
    intro j hj
    have h := (bytes_reads (w2.alloc (.cells #[.string (rowOf op).f0, .string (rowOf op).f1, .int .i64 (rowOf op).f2, .int .i64 (rowOf op).f3, .string (rowOf op).f4, .string (rowOf op).f5] 71)) 5 (rowOf op).f1 (by omega)).at_ (j : Int) (by omega) (by omega)
    obtain ⟨ad, e1, e2⟩ := h
    cases e1
    rw [rd_bytesOf] at e2
    cases j <;> simpa [Addr.add] using e2
  case round =>
    obtain ⟨k, hk, rfl, hvf, hzf, hfr, hlt, hby⟩ := hrel
    by_cases hk4 : k < (rowOf op).f1.size
    · have hck := hby k hk4
      obtain ⟨ch, hch⟩ : ∃ ch, ch = bt (rowOf op).f1 k := ⟨_, rfl⟩
      rw [← hch] at hck
      have hx := hvf.at ch
      have hx4 := hvf.i4
      have hfr4 := hfr 4
      have hfrc := hfr (fieldOff ch)
      have Hvf := Lib.hid hvf
      have Hzf := Lib.hid hzf
      have Hfr := Lib.hid hfr
      have Hby := Lib.hid hby
      have Hch := Lib.hid hch
      clear hvf hby hch hzf hfr
      have Hpos := Lib.hid (fun W => position_any ch (by rw [Hch.out]; exact Hle.out k hk4) W)
      have hp0 : 0 ≤ posOf ch := by unfold posOf; split <;> (try split) <;> (try split) <;> omega
      have hp1 : posOf ch ≤ 22 := by unfold posOf; split <;> (try split) <;> (try split) <;> omega
      go_wp2_with (first
            | (go_at_call 52; refine (field_any _ _ _ _).mono ?_; rintro e w' ⟨rfl, rfl⟩; simp only [Nat.zero_add])
            | (go_at_call 53; refine (Hpos.out _).mono ?_; rintro e w4 ⟨rfl, hb4⟩; have hx5 := (hb4.cell (p := ⟨w.heap.size + 1, fieldOff ch, none⟩) Hvf.out.ltA).trans hx; have hfr5 := (hb4.frozen (p := ⟨w.heap.size + 1, fieldOff ch, none⟩) Hvf.out.ltA).trans hfrc; have Hb4 := Lib.hid hb4; clear hb4))
      · have h5 : (ch == 105) = true := by assumption
        have h105 : ch = 105 := by simpa using h5
        have hp := Hvf.out.put (v := v) Hch.out (by rw [Hch.out]; exact Hle.out k hk4) (by omega) (by omega)
        have e1 : fieldOff ch = 4 := by rw [h105]; rfl
        have e2 : valW v ch = wrap64 (wrap32 (v * 16384 % 4294967296) / 16384) := by rw [h105]; rfl
        rw [e1, e2] at hp
        have Hp := Lib.hid hp
        clear hp
        go_roundw
        case rel =>
          refine ⟨k + 1, by omega, by go_num, Hp.out, Hzf.out.set (by show w.heap.size + 1 ≠ w.heap.size; omega) _, ?_, by simpa [World.setCell] using hlt, fun j hj => (World.cell?_of_block (Below.heap_setCell _ _ _ (w2.heap.size + 1) (by show w2.heap.size + 1 ≠ w.heap.size + 1; omega))).trans (Hby.out j hj)⟩
          intro j
          rw [World.frozen?_setCell]; exact Hfr.out j
        case measure => simp [intOf]; omega
      · have h5 : (ch == 105) = false := by assumption
        have h105 : ¬ ch = 105 := by simpa using h5
        have hp := (Hvf.out.step Hb4.out).put (v := v) Hch.out (by rw [Hch.out]; exact Hle.out k hk4) (by omega) (by omega)
        have e2 : valW v ch = wrap64 (bits .and .u32 (v / 2 ^ (posOf ch).toNat) 15) := by unfold valW; rw [if_neg h105]
        rw [e2] at hp
        have Hp := Lib.hid hp
        have hltA := Hvf.out.ltA
        clear hp
        go_roundw
        case rel =>
          refine ⟨k + 1, by omega, by go_num, Hp.out, (Hzf.out.step Hb4.out).set (by show w.heap.size + 1 ≠ w.heap.size; omega) _, ?_, ?_, fun j hj => (World.cell?_of_block (Below.heap_setCell _ _ _ (w2.heap.size + 1) (by show w2.heap.size + 1 ≠ w.heap.size + 1; omega))).trans ((Hb4.out.cell (p := ⟨w2.heap.size + 1, j, none⟩) hlt).trans (Hby.out j hj))⟩
          · intro j
            rw [World.frozen?_setCell]; exact (Hb4.out.frozen (p := ⟨w.heap.size + 1, j, none⟩) hltA).trans (Hfr.out j)
          · have := Hb4.out.size
            simp only [World.setCell, Array.size_modify]; omega
        case measure => simp [intOf]; omega
    · have hkk : k = (rowOf op).f1.size := by omega
      subst hkk
      obtain ⟨dA, hdA⟩ : ∃ d, decO v op 97 (rowOf op).f1.size = d := ⟨_, rfl⟩
      obtain ⟨dB, hdB⟩ : ∃ d, decO v op 98 (rowOf op).f1.size = d := ⟨_, rfl⟩
      obtain ⟨dC, hdC⟩ : ∃ d, decO v op 99 (rowOf op).f1.size = d := ⟨_, rfl⟩
      obtain ⟨dM, hdM⟩ : ∃ d, decO v op 105 (rowOf op).f1.size = d := ⟨_, rfl⟩
      rw [hdA, hdB, hdC, hdM] at hvf
      have hv' := Hv.out
      have hw' := Hw.out
      simp only [decF, hop] at hv' hw'
      rw [hdA, hdB, hdC, hdM] at hv' hw'
      obtain ⟨ev, hev⟩ : ∃ ev, encW op dA dB dC dM = ev := ⟨_, rfl⟩
      have he' := encode_yes op dA dB dC dM hv' hop0 hop1 wr
      rw [hev] at he' hw'
      have hne : (ev != v) = true := by simpa using hw'
      have hne2 : (ev == v) = false := by simpa using hw'
      have HE := Lib.hid he'
      clear hv' hw' he' hev
      clear hdA hdB hdC hdM
      have ci0 := hvf.i0
      have ci1 := hvf.i1
      have ci2 := hvf.i2
      have ci3 := hvf.i3
      have ci4 := hvf.i4
      have Hvf := Lib.hid hvf
      have Hzf := Lib.hid hzf
      clear hvf hzf hfr hby
      go_wp2_with fail
      refine HE.out.mono ?_
      rintro e w5 ⟨rfl, hb5⟩
      have hz5 := Hzf.out.step hb5
      have hv5 := Hvf.out.step hb5
      have z0 : w5.cell? ⟨w.heap.size, 0, none⟩ = some (.int .u8 0) := blk_cell hz5.blk 0
      have z1 : w5.cell? ⟨w.heap.size, 1, none⟩ = some (.int .i64 0) := blk_cell hz5.blk 1
      have z2 : w5.cell? ⟨w.heap.size, 2, none⟩ = some (.int .i64 0) := blk_cell hz5.blk 2
      have z3 : w5.cell? ⟨w.heap.size, 3, none⟩ = some (.int .i64 0) := blk_cell hz5.blk 3
      have z4 : w5.cell? ⟨w.heap.size, 4, none⟩ = some (.int .i64 0) := blk_cell hz5.blk 4
      have zf0 := blk_frozen hz5.blk 0
      have zf1 := blk_frozen hz5.blk 1
      have zf2 := blk_frozen hz5.blk 2
      have zf3 := blk_frozen hz5.blk 3
      have zf4 := blk_frozen hz5.blk 4
      have c50 := hv5.i0
      have c51 := hv5.i1
      have c52 := hv5.i2
      have c53 := hv5.i3
      have c54 := hv5.i4
      have Hb5 := Lib.hid hv5.below
      clear hz5 hv5 hb5
      go_wp2_with fail
      refine bodyPost_ret (v := .tuple #[.agg #[.int .u8 0, .int .i64 0, .int .i64 0, .int .i64 0, .int .i64 0], .int .i64 3]) (by simp [results, Try.results25, go_sem, z0, z1, z2, z3, z4, zf0, zf1, zf2, zf3, zf4]) rfl ⟨rfl, ?_⟩
      exact ((((Hb5.out.setCell (Nat.le_refl _) _).setCell (Nat.le_refl _) _).setCell (Nat.le_refl _) _).setCell (Nat.le_refl _) _).setCell (Nat.le_refl _) _

set_option maxRecDepth 100000 in
set_option maxHeartbeats 1000000 in
theorem decode_good (v : Int) (h0 : 0 ≤ v) (h1 : v < 4294967296) (h2 : v / 67108864 < 30) (hv : validB (v / 67108864) (decF v 97) (decF v 98) (decF v 99) (decF v 105) = true) (hw : encW (v / 67108864) (decF v 97) (decF v 98) (decF v 99) (decF v 105) = v) (w : World) :
    Calls Try.prog 25 #[.int .u32 v] w fun e w' => e = .returned (.tuple #[.agg #[.int .u8 (v / 67108864), .int .i64 (decF v 97), .int .i64 (decF v 98), .int .i64 (decF v 99), .int .i64 (decF v 105)], .int .i64 0]) ∧ Below w.heap.size w w' := by
  have Hv := Lib.hid hv
  have Hw := Lib.hid hw
  clear hv hw
  obtain ⟨op, hop⟩ : ∃ op, v / 67108864 = op := ⟨_, rfl⟩
  have hop0 : 0 ≤ op := by omega
  have hop1 : op < 30 := by omega
  have hf := fun W => find_any op hop0 (by omega) W
  rw [decide_eq_true hop1] at hf
  have Hf := Lib.hid hf
  have kb := fun W => print_bytes (P := Try.prog) 9 75 5 Try.underlying9 Try.underlying75 Try.underlying5 (rowOf op).f1 W
  have hsz := (letters_at op hop0 hop1).1
  have Hle := Lib.hid (letters_at op hop0 hop1).2
  clear hf h2
  go_enter Try.func25, Try.ntmps25
  go_wp2_with fail
  refine (Hf.out _).mono ?_
  rintro e w2 ⟨rfl, hb2⟩
  have hs2 := hb2.size
  rw [World.size_alloc, World.size_alloc] at hs2
  have hlt2 : w.heap.size + 1 < w2.heap.size := by omega
  have hlt3 : w.heap.size < w2.heap.size := by omega
  have Hb2 := Lib.hid hb2
  clear hb2
  go_wp2_with fail
  go_loopw [28] (fun i wr => ∃ k : Nat, k ≤ (rowOf op).f1.size ∧ i = .int .i64 k ∧ VF w (w.heap.size + 1) w2.heap.size op (decO v op 97 k) (decO v op 98 k) (decO v op 99 k) (decO v op 105 k) wr ∧ ZF w.heap.size wr ∧ (∀ j, wr.frozen? ⟨w.heap.size + 1, j, none⟩ = false) ∧
        (w2.heap.size + 1 < wr.heap.size) ∧ (∀ j, j < (rowOf op).f1.size → wr.cell? ⟨w2.heap.size + 1, j, none⟩ = some (.int .u8 (bt (rowOf op).f1 j))))
      (fun i _ => (rowOf op).f1.size - (intOf i).toNat)
  case atStart =>
    have hc2 := fun j => Hb2.out.cell (p := ⟨w.heap.size + 1, j, none⟩) (by simp)
    have hR := Hb2.out.block w.heap.size (by simp; omega)
    have hfA := fun j => Hb2.out.frozen (p := ⟨w.heap.size + 1, j, none⟩) (by simp)
    have hbb : Below w.heap.size w (Lib.bytesWorld (w2.alloc (.cells #[.string (rowOf op).f0, .string (rowOf op).f1, .int .i64 (rowOf op).f2, .int .i64 (rowOf op).f3, .string (rowOf op).f4, .string (rowOf op).f5] 71)) 5 (rowOf op).f1) := by
      refine bytes_below (((((Below.refl _ _).alloc (Nat.le_refl _) _).alloc (by simp) _).trans (Hb2.out.mono (by simp; omega))).alloc (by omega) _) (by simp; omega) _ _
    have hold : ∀ W s b j, b < W.heap.size → (Lib.bytesWorld W 5 s).cell? ⟨b, j, none⟩ = W.cell? ⟨b, j, none⟩ := fun W s b j h => World.cell?_of_block (Lib.bytesWorld_at_old W 5 s b h)
    have holdf : ∀ W s b j, b < W.heap.size → (Lib.bytesWorld W 5 s).frozen? ⟨b, j, none⟩ = W.frozen? ⟨b, j, none⟩ := fun W s b j h => World.frozen?_of_block (Lib.bytesWorld_at_old W 5 s b h)
    refine ⟨0, by omega, rfl, ⟨hbb, by rw [Lib.bytesWorld_size]; simp; omega, by rw [Lib.bytesWorld_size]; simp; omega, ?_, ?_, ?_, ?_, ?_, ?_, ?_, ?_⟩, ⟨by rw [Lib.bytesWorld_size]; simp; omega, ?_⟩, ?_, by rw [Lib.bytesWorld_size]; simp, ?_⟩
    iterate 5
      rw [hold _ _ _ _ (by simp; omega), World.cell?_alloc_past _ _ _ (by omega), hc2, World.cell?_alloc_at _ _ _ _ (by simp)]; rfl
    iterate 3
      rw [hold _ _ _ _ (by simp), World.cell?_alloc_at _ _ _ _ rfl]; rfl
    · rw [Lib.bytesWorld_at_old _ _ _ _ (by simp; omega), Below.heap_alloc _ _ _ (by omega), hR, Below.heap_alloc _ _ _ (by simp)]
      show (w.heap.push _)[w.heap.size]? = _
      simp
    · intro j
      rw [holdf _ _ _ _ (by simp; omega), World.frozen?_alloc_past _ _ _ (by omega), hfA, World.frozen?_alloc_at _ _ _ _ (by simp)]
    intro j hj
    have h := (bytes_reads (w2.alloc (.cells #[.string (rowOf op).f0, .string (rowOf op).f1, .int .i64 (rowOf op).f2, .int .i64 (rowOf op).f3, .string (rowOf op).f4, .string (rowOf op).f5] 71)) 5 (rowOf op).f1 (by omega)).at_ (j : Int) (by omega) (by omega)
    obtain ⟨ad, e1, e2⟩ := h
    cases e1
    rw [rd_bytesOf] at e2
    cases j <;> simpa [Addr.add] using e2
  case round =>
    obtain ⟨k, hk, rfl, hvf, hzf, hfr, hlt, hby⟩ := hrel
    by_cases hk4 : k < (rowOf op).f1.size
    · have hck := hby k hk4
      obtain ⟨ch, hch⟩ : ∃ ch, ch = bt (rowOf op).f1 k := ⟨_, rfl⟩
      rw [← hch] at hck
      have hx := hvf.at ch
      have hx4 := hvf.i4
      have hfr4 := hfr 4
      have hfrc := hfr (fieldOff ch)
      have Hvf := Lib.hid hvf
      have Hzf := Lib.hid hzf
      have Hfr := Lib.hid hfr
      have Hby := Lib.hid hby
      have Hch := Lib.hid hch
      clear hvf hby hch hzf hfr
      have Hpos := Lib.hid (fun W => position_any ch (by rw [Hch.out]; exact Hle.out k hk4) W)
      have hp0 : 0 ≤ posOf ch := by unfold posOf; split <;> (try split) <;> (try split) <;> omega
      have hp1 : posOf ch ≤ 22 := by unfold posOf; split <;> (try split) <;> (try split) <;> omega
      go_wp2_with (first
            | (go_at_call 52; refine (field_any _ _ _ _).mono ?_; rintro e w' ⟨rfl, rfl⟩; simp only [Nat.zero_add])
            | (go_at_call 53; refine (Hpos.out _).mono ?_; rintro e w4 ⟨rfl, hb4⟩; have hx5 := (hb4.cell (p := ⟨w.heap.size + 1, fieldOff ch, none⟩) Hvf.out.ltA).trans hx; have hfr5 := (hb4.frozen (p := ⟨w.heap.size + 1, fieldOff ch, none⟩) Hvf.out.ltA).trans hfrc; have Hb4 := Lib.hid hb4; clear hb4))
      · have h5 : (ch == 105) = true := by assumption
        have h105 : ch = 105 := by simpa using h5
        have hp := Hvf.out.put (v := v) Hch.out (by rw [Hch.out]; exact Hle.out k hk4) (by omega) (by omega)
        have e1 : fieldOff ch = 4 := by rw [h105]; rfl
        have e2 : valW v ch = wrap64 (wrap32 (v * 16384 % 4294967296) / 16384) := by rw [h105]; rfl
        rw [e1, e2] at hp
        have Hp := Lib.hid hp
        clear hp
        go_roundw
        case rel =>
          refine ⟨k + 1, by omega, by go_num, Hp.out, Hzf.out.set (by show w.heap.size + 1 ≠ w.heap.size; omega) _, ?_, by simpa [World.setCell] using hlt, fun j hj => (World.cell?_of_block (Below.heap_setCell _ _ _ (w2.heap.size + 1) (by show w2.heap.size + 1 ≠ w.heap.size + 1; omega))).trans (Hby.out j hj)⟩
          intro j
          rw [World.frozen?_setCell]; exact Hfr.out j
        case measure => simp [intOf]; omega
      · have h5 : (ch == 105) = false := by assumption
        have h105 : ¬ ch = 105 := by simpa using h5
        have hp := (Hvf.out.step Hb4.out).put (v := v) Hch.out (by rw [Hch.out]; exact Hle.out k hk4) (by omega) (by omega)
        have e2 : valW v ch = wrap64 (bits .and .u32 (v / 2 ^ (posOf ch).toNat) 15) := by unfold valW; rw [if_neg h105]
        rw [e2] at hp
        have Hp := Lib.hid hp
        have hltA := Hvf.out.ltA
        clear hp
        go_roundw
        case rel =>
          refine ⟨k + 1, by omega, by go_num, Hp.out, (Hzf.out.step Hb4.out).set (by show w.heap.size + 1 ≠ w.heap.size; omega) _, ?_, ?_, fun j hj => (World.cell?_of_block (Below.heap_setCell _ _ _ (w2.heap.size + 1) (by show w2.heap.size + 1 ≠ w.heap.size + 1; omega))).trans ((Hb4.out.cell (p := ⟨w2.heap.size + 1, j, none⟩) hlt).trans (Hby.out j hj))⟩
          · intro j
            rw [World.frozen?_setCell]; exact (Hb4.out.frozen (p := ⟨w.heap.size + 1, j, none⟩) hltA).trans (Hfr.out j)
          · have := Hb4.out.size
            simp only [World.setCell, Array.size_modify]; omega
        case measure => simp [intOf]; omega
    · have hkk : k = (rowOf op).f1.size := by omega
      subst hkk
      obtain ⟨dA, hdA⟩ : ∃ d, decO v op 97 (rowOf op).f1.size = d := ⟨_, rfl⟩
      obtain ⟨dB, hdB⟩ : ∃ d, decO v op 98 (rowOf op).f1.size = d := ⟨_, rfl⟩
      obtain ⟨dC, hdC⟩ : ∃ d, decO v op 99 (rowOf op).f1.size = d := ⟨_, rfl⟩
      obtain ⟨dM, hdM⟩ : ∃ d, decO v op 105 (rowOf op).f1.size = d := ⟨_, rfl⟩
      rw [hdA, hdB, hdC, hdM] at hvf
      have hv' := Hv.out
      have hw' := Hw.out
      have hfin : (Value.agg #[.int .u8 (v / 67108864), .int .i64 (decF v 97), .int .i64 (decF v 98), .int .i64 (decF v 99), .int .i64 (decF v 105)]) = .agg #[.int .u8 op, .int .i64 dA, .int .i64 dB, .int .i64 dC, .int .i64 dM] := by
        simp only [decF, hop]; rw [hdA, hdB, hdC, hdM]
      have Hfin := Lib.hid hfin
      clear hfin
      simp only [decF, hop] at hv' hw'
      rw [hdA, hdB, hdC, hdM] at hv' hw'
      have he' := encode_yes op dA dB dC dM hv' hop0 hop1 wr
      rw [hw'] at he'
      have HE := Lib.hid he'
      clear hv' hw' he'
      clear hdA hdB hdC hdM
      have ci0 := hvf.i0
      have ci1 := hvf.i1
      have ci2 := hvf.i2
      have ci3 := hvf.i3
      have ci4 := hvf.i4
      have Hvf := Lib.hid hvf
      have Hzf := Lib.hid hzf
      clear hvf hzf hfr hby
      go_wp2_with fail
      refine HE.out.mono ?_
      rintro e w5 ⟨rfl, hb5⟩
      have hz5 := Hzf.out.step hb5
      have hv5 := Hvf.out.step hb5
      have z0 : w5.cell? ⟨w.heap.size, 0, none⟩ = some (.int .u8 0) := blk_cell hz5.blk 0
      have z1 : w5.cell? ⟨w.heap.size, 1, none⟩ = some (.int .i64 0) := blk_cell hz5.blk 1
      have z2 : w5.cell? ⟨w.heap.size, 2, none⟩ = some (.int .i64 0) := blk_cell hz5.blk 2
      have z3 : w5.cell? ⟨w.heap.size, 3, none⟩ = some (.int .i64 0) := blk_cell hz5.blk 3
      have z4 : w5.cell? ⟨w.heap.size, 4, none⟩ = some (.int .i64 0) := blk_cell hz5.blk 4
      have zf0 := blk_frozen hz5.blk 0
      have zf1 := blk_frozen hz5.blk 1
      have zf2 := blk_frozen hz5.blk 2
      have zf3 := blk_frozen hz5.blk 3
      have zf4 := blk_frozen hz5.blk 4
      have c50 := hv5.i0
      have c51 := hv5.i1
      have c52 := hv5.i2
      have c53 := hv5.i3
      have c54 := hv5.i4
      have Hb5 := Lib.hid hv5.below
      clear hz5 hv5 hb5
      go_wp2_with fail
      refine bodyPost_ret (v := .tuple #[.agg #[.int .u8 op, .int .i64 dA, .int .i64 dB, .int .i64 dC, .int .i64 dM], .int .i64 0]) (by simp [results, Try.results25, go_sem, z0, z1, z2, z3, z4, zf0, zf1, zf2, zf3, zf4]) rfl ⟨by rw [Hfin.out], ?_⟩
      exact ((((Hb5.out.setCell (Nat.le_refl _) _).setCell (Nat.le_refl _) _).setCell (Nat.le_refl _) _).setCell (Nat.le_refl _) _).setCell (Nat.le_refl _) _

end Go.Proofs.Ytgjpenhfechhcaa
