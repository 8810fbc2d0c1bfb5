/- The contract of dominator.Dominates. -/
import Derived.Test.YtcbofikjcgdjmaaB12
namespace Go.Proofs.Ytcbofikjcgdjmaa
set_option linter.unusedVariables false
set_option linter.unusedSimpArgs false
open Go.RowKit

/-- whether a is met on the chain from b, within k steps -/
def chainB (id : List Int) (a : Int) : Nat → Int → Bool
  | 0, b => a == b
  | k + 1, b => if a = b then true else if inB id.length (id.getD b.toNat 0) then chainB id a k (id.getD b.toNat 0) else false
def domB (id : List Int) (a b : Int) : Bool := inB id.length a && inB id.length b && chainB id a id.length b

set_option maxRecDepth 100000 in
set_option maxHeartbeats 4000000 in
theorem inside48 (A : Option Addr) (m c : Nat) (x : Int) (q : Nat) (W : World) (h : W.cell? ⟨q, 0, none⟩ = some (.slice A m c)) :
    Calls Try.prog 48 #[.int .i64 x, .pointer (some ⟨q, 0, none⟩)] W fun e w' => e = .returned (.bool (inB m x)) ∧ w' = W := by
  by_cases h1 : 0 ≤ x
  · have p1 : decide (0 ≤ x) = true := decide_eq_true h1
    have hr : inB m x = decide (x < m) := by unfold inB; rw [p1]; rfl
    have HR := Lib.hid hr
    clear h1 hr
    go_enter Try.func48, Try.ntmps48
    go_wp2_with fail
    go_ret
    exact ⟨ret_b (by rw [HR.out]), rfl⟩
  · have p1 : decide (0 ≤ x) = false := decide_eq_false h1
    have hr : inB m x = false := by unfold inB; rw [p1]; rfl
    have HR := Lib.hid hr
    clear h1 hr
    go_enter Try.func48, Try.ntmps48
    go_wp2_with fail
    go_ret
    exact ⟨ret_b (by rw [HR.out]), rfl⟩

set_option maxRecDepth 100000 in
set_option maxHeartbeats 4000000 in
theorem dominates27 (A : Option Addr) (id : List Int) (c : Nat) (a b : Int) (w : World) (h : IV w A id) (hl : id.length ≤ 1048576) :
    Calls Try.prog 27 #[.slice A id.length c, .int .i64 a, .int .i64 b] w fun e w' => e = .returned (.bool (domB id a b)) ∧ Below w.heap.size w w' := by
  have HS := Lib.hid h
  have HI := Lib.hid (fun x q W h => inside48 A id.length c x q W h)
  clear h
  cases ha : inB id.length a with
  | false =>
    have HI1 := Lib.hid (fun q W h => HI.out a q W h)
    rw [ha] at HI1
    have hr : domB id a b = false := by rw [domB, ha]; rfl
    have HR := Lib.hid hr
    clear ha hr
    go_enter Try.func27, Try.ntmps27
    go_wp2_with (first | (go_at_call 48; refine (HI1.out _ _ (by simp)).mono ?_; rintro e w1 ⟨rfl, rfl⟩))
    go_ret
    exact ⟨ret_b HR.out.symm, below_new (Below.refl _ _) _⟩
  | true =>
    cases hb : inB id.length b with
    | false =>
      have HI1 := Lib.hid (fun q W h => HI.out a q W h)
      rw [ha] at HI1
      have HI2 := Lib.hid (fun q W h => HI.out b q W h)
      rw [hb] at HI2
      have hr : domB id a b = false := by rw [domB, ha, hb]; rfl
      have HR := Lib.hid hr
      clear ha hb hr
      go_enter Try.func27, Try.ntmps27
      go_wp2_with (first
        | (go_at_call_of 48 (Value.int .i64 a); refine (HI1.out _ _ (by simp)).mono ?_; rintro e w1 ⟨rfl, rfl⟩)
        | (go_at_call_of 48 (Value.int .i64 b); refine (HI2.out _ _ (by simp)).mono ?_; rintro e w1 ⟨rfl, rfl⟩))
      go_ret
      exact ⟨ret_b HR.out.symm, below_new (Below.refl _ _) _⟩
    | true =>
      have HI1 := Lib.hid (fun q W h => HI.out a q W h)
      rw [ha] at HI1
      have HI2 := Lib.hid (fun q W h => HI.out b q W h)
      rw [hb] at HI2
      have hr : domB id a b = chainB id a id.length b := by rw [domB, ha, hb]; rfl
      have hb' : 0 ≤ b ∧ b < id.length := by unfold inB at hb; simpa using hb
      have HR := Lib.hid hr
      have HB' := Lib.hid hb'
      clear ha hb hr hb'
      go_enter Try.func27, Try.ntmps27
      go_wp2_with (first
        | (go_at_call_of 48 (Value.int .i64 a); refine (HI1.out _ _ (by simp)).mono ?_; rintro e w1 ⟨rfl, rfl⟩)
        | (go_at_call_of 48 (Value.int .i64 b); refine (HI2.out _ _ (by simp)).mono ?_; rintro e w1 ⟨rfl, rfl⟩))
      obtain ⟨W0, hW0⟩ : ∃ W0, w.alloc (.cells #[.slice A id.length c] 28) = W0 := ⟨_, rfl⟩
      have HB0 := Lib.hid (show Below w.heap.size w W0 by rw [← hW0]; exact below_new (Below.refl _ _) _)
      have x0 : W0.cell? ⟨w.heap.size, 0, none⟩ = some (.slice A id.length c) := by rw [← hW0]; simp
      rw [hW0]
      clear hW0
      go_loopw [2, 21] (fun s2 i wr => ∃ (k : Nat) (y : Int), k ≤ id.length ∧ i = .int .i64 k ∧ s2 = .int .i64 y ∧ 0 ≤ y ∧ y < id.length ∧ chainB id a id.length b = chainB id a (id.length - k) y ∧ wr = W0) (fun _ i _ => id.length - (intOf i).toNat)
      case atStart => exact ⟨0, b, by omega, rfl, rfl, HB'.out.1, HB'.out.2, rfl, rfl⟩
      case round =>
        obtain ⟨k, y, hk, rfl, rfl, hy0, hy1, hch, rfl⟩ := hrel
        have HCH := Lib.hid hch
        clear hch
        by_cases hlt : k < id.length
        · obtain ⟨b1, off1, rfl, hbl1, hc⟩ := (HS.out.step HB0.out) (by omega)
          obtain ⟨t, rfl⟩ : ∃ t : Nat, y = (t : Int) := ⟨y.toNat, by omega⟩
          have ht : t < id.length := by omega
          have g := hc t ht
          have hn : id.length - k = (id.length - (k + 1)) + 1 := by omega
          have hch := HCH.out
          rw [hn, chainB, Int.toNat_natCast] at hch
          obtain ⟨x, hx⟩ : ∃ x, id.getD t 0 = x := ⟨_, rfl⟩
          rw [hx] at g hch
          clear hc hx hn
          by_cases hq : a = (t : Int)
          · rw [if_pos hq] at hch
            have p1 : (a == (t : Int)) = true := by simpa using hq
            have HC2 := Lib.hid hch
            clear hq hch
            go_wp2_with fail
            go_ret
            exact ⟨ret_b (by rw [HR.out, HC2.out]), HB0.out⟩
          · rw [if_neg hq] at hch
            have p1 : (a == (t : Int)) = false := by simpa using hq
            cases hin : inB id.length x with
            | false =>
              rw [hin, if_neg (by simp)] at hch
              have HI3 := Lib.hid (fun q W h => HI.out x q W h)
              rw [hin] at HI3
              have HC2 := Lib.hid hch
              clear hq hch hin
              go_wp2_with (first | (go_at_call 48; refine (HI3.out _ _ x0).mono ?_; rintro e w1 ⟨rfl, rfl⟩))
              go_ret
              exact ⟨ret_b (by rw [HR.out, HC2.out]), HB0.out⟩
            | true =>
              rw [hin, if_pos rfl] at hch
              have HI3 := Lib.hid (fun q W h => HI.out x q W h)
              rw [hin] at HI3
              have hx' : 0 ≤ x ∧ x < id.length := by unfold inB at hin; simpa using hin
              have HC2 := Lib.hid hch
              have HX := Lib.hid hx'
              clear hq hch hin hx'
              go_wp2_with (first | (go_at_call 48; refine (HI3.out _ _ x0).mono ?_; rintro e w1 ⟨rfl, rfl⟩))
              go_roundw
              case rel => exact ⟨k + 1, x, by omega, by go_num, by go_num, HX.out.1, HX.out.2, HC2.out, trivial⟩
              case measure => simp [intOf]; omega
        · obtain rfl : k = id.length := by omega
          go_wp2_with fail
          go_ret
          exact ⟨ret_b (by rw [HR.out, HCH.out, Nat.sub_self, chainB]), HB0.out⟩
end Go.Proofs.Ytcbofikjcgdjmaa
