/- The contract of the statements' awake: the examples of the chapter hold, so that it returns true. -/
import Derived.Test.YtgjpenhfechhcaaA7
import Derived.Laws.StructEq
namespace Go.Proofs.Ytgjpenhfechhcaa
open Go.RowKit Go.Proofs.YtgjpenhfechhcaaW.PrintWords Go.Proofs.YtgjpenhfechhcaaW.PrintLast Go.Proofs.YtgjpenhfechhcaaW.PrintMore
open PIsaDecodes

/-- whether two instructions are equal -/
def eqI (op a b c m op' a' b' c' m' : Int) : Bool := op == op' && (a == a' && (b == b' && (c == c' && m == m')))
theorem run_eqI (op a b c m op' a' b' c' m' : Int) (w : World) : (binOp .eql 23 (.agg #[.int .u8 op, .int .i64 a, .int .i64 b, .int .i64 c, .int .i64 m]) (.agg #[.int .u8 op', .int .i64 a', .int .i64 b', .int .i64 c', .int .i64 m'])).run Try.prog w = .ok (.bool (eqI op a b c m op' a' b' c' m')) w := by
  have u3 := Try.underlying3
  have u5 := Try.underlying5
  have hS : Try.prog.underlying 23 = some (.struct (Try.prog.fieldsOf 23)) := by kernel_rfl
  have hp : Try.prog.stoodInHeld 23 = false := by kernel_rfl
  rw [run_eql_struct, show (10000 : Nat) = 9999 + 1 from rfl, run_equalIn_agg w 9999 23 _ _ hS hp]
  simp only [Program.fieldsOf, Try.underlying23]
  unfold eqI
  go_simp
  by_cases h1 : op = op' <;> by_cases h2 : a = a' <;> by_cases h3 : b = b' <;> by_cases h4 : c = c' <;> by_cases h5 : m = m' <;> simp [h1, h2, h3, h4, h5]

theorem ok_add : validB 2 3 1 2 0 = true := by decide
theorem ok_li : validB 14 5 0 0 (-1) = true := by decide
theorem ok_jmp : validB 24 0 0 0 (-3) = true := by decide
theorem w_add : encW 2 3 1 2 0 = 147095552 := by rw [encW_eq (by decide) ok_add]; rfl
theorem w_li : encW 14 5 0 0 (-1) = 960757759 := by rw [encW_eq (by decide) ok_li]; rfl
theorem w_jmp : encW 24 0 0 0 (-3) = 1610874877 := by rw [encW_eq (by decide) ok_jmp]; rfl
theorem enc_add (W : World) : Calls Try.prog 21 #[.agg #[.int .u8 2, .int .i64 3, .int .i64 1, .int .i64 2, .int .i64 0]] W fun e w' => e = .returned (.tuple #[.int .u32 147095552, .int .i64 0]) ∧ Below W.heap.size W w' := by
  have h := encode_yes 2 3 1 2 0 ok_add (by decide) (by decide) W
  rw [w_add] at h; exact h
theorem enc_li (W : World) : Calls Try.prog 21 #[.agg #[.int .u8 14, .int .i64 5, .int .i64 0, .int .i64 0, .int .i64 (-1)]] W fun e w' => e = .returned (.tuple #[.int .u32 960757759, .int .i64 0]) ∧ Below W.heap.size W w' := by
  have h := encode_yes 14 5 0 0 (-1) ok_li (by decide) (by decide) W
  rw [w_li] at h; exact h
theorem enc_jmp (W : World) : Calls Try.prog 21 #[.agg #[.int .u8 24, .int .i64 0, .int .i64 0, .int .i64 0, .int .i64 (-3)]] W fun e w' => e = .returned (.tuple #[.int .u32 1610874877, .int .i64 0]) ∧ Below W.heap.size W w' := by
  have h := encode_yes 24 0 0 0 (-3) ok_jmp (by decide) (by decide) W
  rw [w_jmp] at h; exact h
/-- Decode at the encoding of a valid instruction -/
theorem decode_of {op a b c m : Int} (h0 : 0 ≤ op) (h : validB op a b c m = true) (v : Int) (hv : encW op a b c m = v) (W : World) :
    Calls Try.prog 25 #[.int .u32 v] W fun e w' => e = .returned (.tuple #[.agg #[.int .u8 op, .int .i64 a, .int .i64 b, .int .i64 c, .int .i64 m], .int .i64 0]) ∧ Below W.heap.size W w' := by
  subst hv
  obtain ⟨g0, g1, g2, g3, g4, g5, g6⟩ := dec_enc h0 h
  have hd := decode_yes _ g0 g1 (decOK_enc h0 h) W
  rw [g2, g3, g4, g5, g6] at hd
  exact hd
theorem dec_add (W : World) : Calls Try.prog 25 #[.int .u32 147095552] W fun e w' => e = .returned (.tuple #[.agg #[.int .u8 2, .int .i64 3, .int .i64 1, .int .i64 2, .int .i64 0], .int .i64 0]) ∧ Below W.heap.size W w' := decode_of (by decide) ok_add 147095552 w_add W
theorem no_dec : decOK 147095553 = false := by
  have h2 : (147095553 : Int) / 67108864 = 2 := by decide
  cases h : decOK 147095553
  · rfl
  · exfalso
    simp only [decOK, Bool.and_eq_true, decide_eq_true_eq] at h
    obtain ⟨_, hv, hw⟩ := h
    rw [h2] at hv hw
    rw [encW_eq (by decide) hv] at hw
    have hm := (okay (by decide) hv).2.2.2.2 (by decide)
    unfold encE at hw
    omega
theorem dec_no (W : World) : Calls Try.prog 25 #[.int .u32 147095553] W fun e w' => e = .returned (.tuple #[.agg #[.int .u8 0, .int .i64 0, .int .i64 0, .int .i64 0, .int .i64 0], .int .i64 3]) ∧ Below W.heap.size W w' := decode_no 147095553 (by decide) (by decide) no_dec W

set_option maxRecDepth 100000 in
set_option maxHeartbeats 1000000 in
theorem awake_any (w : World) : Calls Try.prog 20 #[] w fun e w' => e = .returned (.bool true) ∧ Below w.heap.size w w' := by
  go_enter Try.func20, Try.ntmps20
  go_wp2_with fail
  refine (enc_add _).mono ?_
  rintro e w1 ⟨rfl, hb1⟩
  go_wp2_with fail
  refine (enc_li _).mono ?_
  rintro e w2 ⟨rfl, hb2⟩
  go_wp2_with fail
  refine (enc_jmp _).mono ?_
  rintro e w3 ⟨rfl, hb3⟩
  go_wp2_with fail
  refine (dec_add _).mono ?_
  rintro e w4 ⟨rfl, hb4⟩
  go_wp2_with fail
  refine (dec_no _).mono ?_
  rintro e w5 ⟨rfl, hb5⟩
  have hlt := hb5.size
  rw [World.size_alloc] at hlt
  have hlt' : w4.heap.size < w5.heap.size := by omega
  have c0 : w5.cell? ⟨w4.heap.size, 0, none⟩ = some (.int .u8 2) := (hb5.cell (p := ⟨w4.heap.size, 0, none⟩) (by simp)).trans (by rw [World.cell?_alloc_at _ _ _ _ rfl]; rfl)
  have c1 : w5.cell? ⟨w4.heap.size, 1, none⟩ = some (.int .i64 3) := (hb5.cell (p := ⟨w4.heap.size, 1, none⟩) (by simp)).trans (by rw [World.cell?_alloc_at _ _ _ _ rfl]; rfl)
  have c2 : w5.cell? ⟨w4.heap.size, 2, none⟩ = some (.int .i64 1) := (hb5.cell (p := ⟨w4.heap.size, 2, none⟩) (by simp)).trans (by rw [World.cell?_alloc_at _ _ _ _ rfl]; rfl)
  have c3 : w5.cell? ⟨w4.heap.size, 3, none⟩ = some (.int .i64 2) := (hb5.cell (p := ⟨w4.heap.size, 3, none⟩) (by simp)).trans (by rw [World.cell?_alloc_at _ _ _ _ rfl]; rfl)
  have c4 : w5.cell? ⟨w4.heap.size, 4, none⟩ = some (.int .i64 0) := (hb5.cell (p := ⟨w4.heap.size, 4, none⟩) (by simp)).trans (by rw [World.cell?_alloc_at _ _ _ _ rfl]; rfl)
  have heq := fun W => run_eqI 2 3 1 2 0 2 3 1 2 0 W
  have he1 : eqI 2 3 1 2 0 2 3 1 2 0 = true := by decide
  rw [he1] at heq
  have hfin : Below w.heap.size w w5 := ((((hb1.trans (hb2.mono hb1.size)).trans (hb3.mono (Nat.le_trans hb1.size hb2.size))).trans (hb4.mono (Nat.le_trans hb1.size (Nat.le_trans hb2.size hb3.size)))).alloc (Nat.le_trans hb1.size (Nat.le_trans hb2.size (Nat.le_trans hb3.size hb4.size))) _).trans (hb5.mono (by have := hb1.size; have := hb2.size; have := hb3.size; have := hb4.size; simp; omega))
  have Hfin := Lib.hid hfin
  have hle := hfin.size
  clear hfin hb1 hb2 hb3 hb4 hb5
  go_wp2_with fail
  go_ret
  exact ⟨rfl, Hfin.out.alloc hle _⟩
end Go.Proofs.Ytgjpenhfechhcaa
