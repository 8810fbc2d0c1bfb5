/- The contract of isa.Decode at words without an opcode, and the two contracts of Decode: a word that is an encoding, a word that is none. -/
import Derived.Test.YtgjpenhfechhcaaA5
namespace Go.Proofs.Ytgjpenhfechhcaa
set_option linter.unusedVariables false
set_option linter.unusedSimpArgs false
open Go.RowKit Go.Proofs.YtgjpenhfechhcaaW.PrintWords Go.Proofs.YtgjpenhfechhcaaW.PrintLast Go.Proofs.YtgjpenhfechhcaaW.PrintMore
open PIsaDecodes

set_option maxRecDepth 100000 in
set_option maxHeartbeats 1000000 in
theorem decode_none (v : Int) (h0 : 0 ≤ v) (h1 : v < 4294967296) (h2 : ¬ v / 67108864 < 30) (w : World) :
    Calls Try.prog 25 #[.int .u32 v] w fun e w' => e = .returned (.tuple #[.agg #[.int .u8 0, .int .i64 0, .int .i64 0, .int .i64 0, .int .i64 0], .int .i64 3]) ∧ Below w.heap.size w w' := by
  obtain ⟨op, hop⟩ : ∃ op, v / 67108864 = op := ⟨_, rfl⟩
  have hop0 : 0 ≤ op := by omega
  have hop1 : op ≤ 255 := by omega
  have hf := fun W => find_any op hop0 hop1 W
  rw [decide_eq_false (by omega)] at hf
  have Hf := Lib.hid hf
  clear hf h2
  go_enter Try.func25, Try.ntmps25
  go_wp2_with fail
  refine (Hf.out _).mono ?_
  rintro e w5 ⟨rfl, hb5⟩
  have hb : ZF w.heap.size ((w.alloc (.cells #[.int .u8 0, .int .i64 0, .int .i64 0, .int .i64 0, .int .i64 0] 23)).alloc (.cells #[.int .u8 op, .int .i64 0, .int .i64 0, .int .i64 0, .int .i64 0] 23)) :=
    ⟨by simp; omega, by rw [Below.heap_alloc _ _ _ (by simp)]; show (w.heap.push _)[w.heap.size]? = _; simp⟩
  have hz5 := hb.step hb5
  have hlt := hz5.lt
  have z0 : w5.cell? ⟨w.heap.size, 0, none⟩ = some (.int .u8 0) := blk_cell hz5.blk 0
  have z1 : w5.cell? ⟨w.heap.size, 1, none⟩ = some (.int .i64 0) := blk_cell hz5.blk 1
  have z2 : w5.cell? ⟨w.heap.size, 2, none⟩ = some (.int .i64 0) := blk_cell hz5.blk 2
  have z3 : w5.cell? ⟨w.heap.size, 3, none⟩ = some (.int .i64 0) := blk_cell hz5.blk 3
  have z4 : w5.cell? ⟨w.heap.size, 4, none⟩ = some (.int .i64 0) := blk_cell hz5.blk 4
  have zf0 := blk_frozen hz5.blk 0
  have zf1 := blk_frozen hz5.blk 1
  have zf2 := blk_frozen hz5.blk 2
  have zf3 := blk_frozen hz5.blk 3
  have zf4 := blk_frozen hz5.blk 4
  have hb6 : Below w.heap.size w w5 := (((Below.refl _ _).alloc (Nat.le_refl _) _).alloc (by simp) _).trans (hb5.mono (by simp; omega))
  have Hb5 := Lib.hid hb6
  clear hz5 hb5 hb hb6
  go_wp2_with fail
  refine bodyPost_ret (v := .tuple #[.agg #[.int .u8 0, .int .i64 0, .int .i64 0, .int .i64 0, .int .i64 0], .int .i64 3]) (by simp [results, Try.results25, go_sem, z0, z1, z2, z3, z4, zf0, zf1, zf2, zf3, zf4, hlt]) rfl ⟨rfl, ?_⟩
  exact (((((Hb5.out.setCell (Nat.le_refl _) _).setCell (Nat.le_refl _) _).setCell (Nat.le_refl _) _).setCell (Nat.le_refl _) _).setCell (Nat.le_refl _) _).alloc (by simp [World.setCell]; omega) _

theorem decode_yes (v : Int) (h0 : 0 ≤ v) (h1 : v < 4294967296) (h : decOK v = true) (w : World) :
    Calls Try.prog 25 #[.int .u32 v] w fun e w' => e = .returned (.tuple #[.agg #[.int .u8 (v / 67108864), .int .i64 (decF v 97), .int .i64 (decF v 98), .int .i64 (decF v 99), .int .i64 (decF v 105)], .int .i64 0]) ∧ Below w.heap.size w w' := by
  simp only [decOK, Bool.and_eq_true, decide_eq_true_eq] at h
  exact decode_good v h0 h1 h.1 h.2.1 h.2.2 w
theorem decode_no (v : Int) (h0 : 0 ≤ v) (h1 : v < 4294967296) (h : decOK v = false) (w : World) :
    Calls Try.prog 25 #[.int .u32 v] w fun e w' => e = .returned (.tuple #[.agg #[.int .u8 0, .int .i64 0, .int .i64 0, .int .i64 0, .int .i64 0], .int .i64 3]) ∧ Below w.heap.size w w' := by
  by_cases h2 : v / 67108864 < 30
  · by_cases h3 : validB (v / 67108864) (decF v 97) (decF v 98) (decF v 99) (decF v 105) = true
    · refine decode_other v h0 h1 h2 h3 ?_ w
      intro e
      simp [decOK, h2, h3, e] at h
    · exact decode_bad v h0 h1 h2 (by simpa using h3) w
  · exact decode_none v h0 h1 h2 w
end Go.Proofs.Ytgjpenhfechhcaa
