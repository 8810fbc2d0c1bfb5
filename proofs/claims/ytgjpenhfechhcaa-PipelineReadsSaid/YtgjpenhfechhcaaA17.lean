/- Reads and its reference name the same registers: one contract for both. -/
import Derived.Test.YtgjpenhfechhcaaA16
namespace Go.Proofs.Ytgjpenhfechhcaa
set_option linter.unusedVariables false
set_option linter.unusedSimpArgs false
open Go.RowKit Go.Proofs.YtgjpenhfechhcaaW.PrintWords Go.Proofs.YtgjpenhfechhcaaW.PrintLast Go.Proofs.YtgjpenhfechhcaaW.PrintMore
open PIsaDecodes

def six (op : Int) : Bool := op == 19 || (op == 21 || (op == 22 || (op == 23 || (op == 25 || op == 27))))
def u1B (op : Int) : Bool := if op = 19 ∨ op = 21 then true else if op = 22 ∨ op = 23 ∨ op = 25 ∨ op = 27 then false else decide ((1 : Int) < ((fS op).size : Int))
def u2B (op : Int) : Bool := if op = 19 ∨ op = 21 ∨ op = 22 ∨ op = 23 ∨ op = 25 ∨ op = 27 then false else decide ((2 : Int) < ((fS op).size : Int))
def bts (s : ByteArray) : List Int := bytesOf s
/-- the shapes of the letters that are read -/
theorem lets_fin : ∀ n : Fin 30, let s := (rowOf (n.1 : Int)).f4
    (s.size = 0 ∧ six n.1 = false ∧ u1B n.1 = false ∧ u2B n.1 = false) ∨ (s.size = 1 ∧ bt s 0 = 97 ∧ six n.1 = true ∧ u1B n.1 = false ∧ u2B n.1 = false) ∨ (s.size = 1 ∧ bt s 0 = 98 ∧ six n.1 = false ∧ u1B n.1 = true ∧ u2B n.1 = false) ∨
    (s.size = 2 ∧ bt s 0 = 97 ∧ bt s 1 = 98 ∧ six n.1 = true ∧ u1B n.1 = true ∧ u2B n.1 = false) ∨ (s.size = 2 ∧ bt s 0 = 98 ∧ bt s 1 = 99 ∧ six n.1 = false ∧ u1B n.1 = true ∧ u2B n.1 = true) := by decide +kernel
theorem lets (op : Int) (h0 : 0 ≤ op) (h1 : op < 30) :
    ((rowOf op).f4.size = 0 ∧ six op = false ∧ u1B op = false ∧ u2B op = false) ∨ ((rowOf op).f4.size = 1 ∧ bt (rowOf op).f4 0 = 97 ∧ six op = true ∧ u1B op = false ∧ u2B op = false) ∨ ((rowOf op).f4.size = 1 ∧ bt (rowOf op).f4 0 = 98 ∧ six op = false ∧ u1B op = true ∧ u2B op = false) ∨
    ((rowOf op).f4.size = 2 ∧ bt (rowOf op).f4 0 = 97 ∧ bt (rowOf op).f4 1 = 98 ∧ six op = true ∧ u1B op = true ∧ u2B op = false) ∨ ((rowOf op).f4.size = 2 ∧ bt (rowOf op).f4 0 = 98 ∧ bt (rowOf op).f4 1 = 99 ∧ six op = false ∧ u1B op = true ∧ u2B op = true) := by
  have h := lets_fin ⟨op.toNat, by omega⟩
  have e : ((⟨op.toNat, by omega⟩ : Fin 30).1 : Int) = op := by show ((op.toNat : Nat) : Int) = op; omega
  rwa [e] at h
theorem sort_one (x : Int) : ([x].mergeSort fun x y => decide (x ≤ y)) = [x] := by simp
theorem sort_two (x y : Int) : ([x, y].mergeSort fun x y => decide (x ≤ y)) = if x ≤ y then [x, y] else [y, x] := by
  by_cases h : x ≤ y
  · rw [if_pos h]; simp [List.mergeSort, h]
  · rw [if_neg h]; simp [List.mergeSort, h]
def up (p : Int → Bool) : List Int := ((List.range 15).map fun (j : Nat) => ((j : Int) + 1)).filter p
theorem fin_one : ∀ x : Fin 16, ((Lib.compact [(x.1 : Int)]).filter fun x => !(x == 0)) = up fun r => (x.1 : Int) == r := by decide +kernel
theorem fin_two : ∀ x y : Fin 16, ((Lib.compact (if (x.1 : Int) ≤ y.1 then [(x.1 : Int), y.1] else [(y.1 : Int), x.1])).filter fun x => !(x == 0)) = up fun r => (x.1 : Int) == r || (y.1 : Int) == r := by decide +kernel
theorem fin_one' (x : Int) (h0 : 0 ≤ x) (h1 : x ≤ 15) : fin [x] = up fun r => x == r := by
  unfold fin
  rw [sort_one]
  have h := fin_one ⟨x.toNat, by omega⟩
  have e : ((⟨x.toNat, by omega⟩ : Fin 16).1 : Int) = x := by show ((x.toNat : Nat) : Int) = x; omega
  rwa [e] at h
theorem fin_two' (x y : Int) (h0 : 0 ≤ x) (h1 : x ≤ 15) (h2 : 0 ≤ y) (h3 : y ≤ 15) : fin [x, y] = up fun r => x == r || y == r := by
  unfold fin
  rw [sort_two]
  have h := fin_two ⟨x.toNat, by omega⟩ ⟨y.toNat, by omega⟩
  have e : ((⟨x.toNat, by omega⟩ : Fin 16).1 : Int) = x := by show ((x.toNat : Nat) : Int) = x; omega
  have e' : ((⟨y.toNat, by omega⟩ : Fin 16).1 : Int) = y := by show ((y.toNat : Nat) : Int) = y; omega
  rwa [e, e'] at h
theorem ltrs_at (op a b c m : Int) : ltrs op a b c m 0 = [] ∧ ltrs op a b c m 1 = [opnd a b c m (bt (rowOf op).f4 0)] ∧ ltrs op a b c m 2 = [opnd a b c m (bt (rowOf op).f4 0), opnd a b c m (bt (rowOf op).f4 1)] := ⟨rfl, rfl, rfl⟩
theorem reads_same {op a b c m : Int} (h0 : 0 ≤ op) (hv : validB op a b c m = true) : fin (ltrs op a b c m (rowOf op).f4.size) = hits (six op) (u1B op) (u2B op) a b c 15 := by
  have hop : op < 30 := by unfold validB at hv; simp at hv; exact hv.1
  have hv' := hv
  unfold validB at hv'
  simp only [Bool.and_eq_true] at hv'
  obtain ⟨_, ha, hb, hc, _⟩ : _ ∧ chk op 97 a = true ∧ chk op 98 b = true ∧ chk op 99 c = true ∧ chk op 105 m = true := ⟨hv'.1, hv'.2.1.1.1, hv'.2.1.1.2, hv'.2.1.2, hv'.2.2⟩
  have ra := chk_reg (by decide) ha
  have rb := chk_reg (by decide) hb
  have rc := chk_reg (by decide) hc
  have ea : opnd a b c m 97 = a := rfl
  have eb : opnd a b c m 98 = b := rfl
  have ec : opnd a b c m 99 = c := rfl
  rcases lets op h0 hop with ⟨s, p, q, r⟩ | ⟨s, l0, p, q, r⟩ | ⟨s, l0, p, q, r⟩ | ⟨s, l0, l1, p, q, r⟩ | ⟨s, l0, l1, p, q, r⟩
  · rw [s, p, q, r, (ltrs_at op a b c m).1]; unfold fin; rw [fin_nil]; unfold hits hit; simp
  · rw [s, p, q, r, (ltrs_at op a b c m).2.1, l0, ea, fin_one' a ra.1 ra.2.1]; unfold hits hit up; simp
  · rw [s, p, q, r, (ltrs_at op a b c m).2.1, l0, eb, fin_one' b rb.1 rb.2.1]; unfold hits hit up; simp
  · rw [s, p, q, r, (ltrs_at op a b c m).2.2, l0, l1, ea, eb, fin_two' a b ra.1 ra.2.1 rb.1 rb.2.1]; unfold hits hit up; simp
  · rw [s, p, q, r, (ltrs_at op a b c m).2.2, l0, l1, eb, ec, fin_two' b c rb.1 rb.2.1 rc.1 rc.2.1]; unfold hits hit up; simp
theorem fS_two : ∀ n : Fin 30, decide ((1 : Int) < ((fS (n.1 : Int)).size : Int)) = false → decide ((2 : Int) < ((fS (n.1 : Int)).size : Int)) = false := by decide +kernel
theorem fS_six : ∀ n : Fin 30, (((n.1 : Int) = 19 ∨ (n.1 : Int) = 21) → decide ((1 : Int) < ((fS (n.1 : Int)).size : Int)) = true ∧ decide ((2 : Int) < ((fS (n.1 : Int)).size : Int)) = false) ∧
    (((n.1 : Int) = 22 ∨ (n.1 : Int) = 23 ∨ (n.1 : Int) = 25 ∨ (n.1 : Int) = 27) → decide ((1 : Int) < ((fS (n.1 : Int)).size : Int)) = false ∧ decide ((2 : Int) < ((fS (n.1 : Int)).size : Int)) = false) := by decide +kernel

theorem ref_reads_any (op a b c m : Int) (h0 : 0 ≤ op) (h1 : op ≤ 255) (w : World) :
    Calls Try.prog 33 #[.agg #[.int .u8 op, .int .i64 a, .int .i64 b, .int .i64 c, .int .i64 m]] w fun e w' => ∃ v, e = .returned v ∧ w'.ownsRow w.heap.size 3 1 v (readsV op a b c m).length ((readsV op a b c m).map (Value.int .i64)) ∧ Below w.heap.size w w' := by
  unfold readsV
  cases hv : validB op a b c m
  · simpa using ref_reads_bad op a b c m h0 h1 hv w
  · rw [if_pos rfl, reads_same h0 hv]
    have hop : op < 30 := by have hv' := hv; unfold validB at hv'; simp at hv'; exact hv'.1
    have e : ((⟨op.toNat, by omega⟩ : Fin 30).1 : Int) = op := by show ((op.toNat : Nat) : Int) = op; omega
    have h2 := fS_two ⟨op.toNat, by omega⟩
    have h6 := fS_six ⟨op.toNat, by omega⟩
    rw [e] at h2 h6
    by_cases c19 : op = 19
    · have k := h6.1 (.inl c19)
      have hr := ref_reads_c19 op a b c m h0 h1 hop hv c19 k.1 k.2 w
      have s1 : six op = true := by subst c19; decide
      have s2 : u1B op = true := by subst c19; decide
      have s3 : u2B op = false := by subst c19; decide
      rwa [s1, s2, s3]
    by_cases c21 : op = 21
    · have k := h6.1 (.inr c21)
      have hr := ref_reads_c21 op a b c m h0 h1 hop hv c21 k.1 k.2 w
      have s1 : six op = true := by subst c21; decide
      have s2 : u1B op = true := by subst c21; decide
      have s3 : u2B op = false := by subst c21; decide
      rwa [s1, s2, s3]
    by_cases c22 : op = 22
    · have k := h6.2 (.inl c22)
      have hr := ref_reads_c22 op a b c m h0 h1 hop hv c22 k.1 k.2 w
      have s1 : six op = true := by subst c22; decide
      have s2 : u1B op = false := by subst c22; decide
      have s3 : u2B op = false := by subst c22; decide
      rwa [s1, s2, s3]
    by_cases c23 : op = 23
    · have k := h6.2 (.inr (.inl c23))
      have hr := ref_reads_c23 op a b c m h0 h1 hop hv c23 k.1 k.2 w
      have s1 : six op = true := by subst c23; decide
      have s2 : u1B op = false := by subst c23; decide
      have s3 : u2B op = false := by subst c23; decide
      rwa [s1, s2, s3]
    by_cases c25 : op = 25
    · have k := h6.2 (.inr (.inr (.inl c25)))
      have hr := ref_reads_c25 op a b c m h0 h1 hop hv c25 k.1 k.2 w
      have s1 : six op = true := by subst c25; decide
      have s2 : u1B op = false := by subst c25; decide
      have s3 : u2B op = false := by subst c25; decide
      rwa [s1, s2, s3]
    by_cases c27 : op = 27
    · have k := h6.2 (.inr (.inr (.inr c27)))
      have hr := ref_reads_c27 op a b c m h0 h1 hop hv c27 k.1 k.2 w
      have s1 : six op = true := by subst c27; decide
      have s2 : u1B op = false := by subst c27; decide
      have s3 : u2B op = false := by subst c27; decide
      rwa [s1, s2, s3]
    have s1 : six op = false := by simp [six, *]
    have s2 : u1B op = decide ((1 : Int) < ((fS op).size : Int)) := by simp [u1B, *]
    have s3 : u2B op = decide ((2 : Int) < ((fS op).size : Int)) := by simp [u2B, *]
    rw [s1, s2, s3]
    have hc : op ≠ 19 ∧ op ≠ 21 ∧ op ≠ 22 ∧ op ≠ 23 ∧ op ≠ 25 ∧ op ≠ 27 := ⟨c19, c21, c22, c23, c25, c27⟩
    cases k1 : decide ((1 : Int) < ((fS op).size : Int))
    · have k2 := h2 k1
      rw [k2]
      exact ref_reads_no00 op a b c m h0 h1 hop hv hc k1 k2 w
    · cases k2 : decide ((2 : Int) < ((fS op).size : Int))
      · exact ref_reads_no10 op a b c m h0 h1 hop hv hc k1 k2 w
      · exact ref_reads_no11 op a b c m h0 h1 hop hv hc k1 k2 w
end Go.Proofs.Ytgjpenhfechhcaa
