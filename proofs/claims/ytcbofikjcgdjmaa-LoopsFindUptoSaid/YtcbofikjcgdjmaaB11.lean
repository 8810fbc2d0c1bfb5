/- The contract of the closure of dominator.Tree. -/
import Derived.Test.YtcbofikjcgdjmaaB10
import Derived.Deep.LoopGhost
namespace Go.Proofs.Ytcbofikjcgdjmaa
set_option linter.unusedVariables false
set_option linter.unusedSimpArgs false
open Go.RowKit

/-- the boxes of dominator.Tree; N: the first block of the call's own -/
structure TS (W1 : World) (N n : Nat) (rk id : Nat → Int) (W : World) : Prop where
  rB : Bx W (N + 1) 28 (.slice (some ⟨N, 0, none⟩) n n)
  iB : Bx W (N + 3) 28 (.slice (some ⟨N + 2, 0, none⟩) n n)
  r : W.rowIs N 3 n (fun t => .int .i64 (rk t))
  i : W.rowIs (N + 2) 3 n (fun t => .int .i64 (id t))
  bel : Below N W1 W
  size : N + 4 ≤ W.heap.size
theorem TS.drew {W1 : World} {N n : Nat} {rk id : Nat → Int} {W : World} (h : TS W1 N n rk id W) : TS W1 N n rk id W.drew :=
  ⟨h.rB, h.iB, h.r, h.i, ⟨h.bel.os, h.bel.tape, h.bel.output, h.bel.size, h.bel.block⟩, h.size⟩
theorem TS.drewN {W1 : World} {N n : Nat} {rk id : Nat → Int} {W : World} (h : TS W1 N n rk id W) (q : Nat) : TS W1 N n rk id (W.drewN q) :=
  ⟨h.rB, h.iB, h.r, h.i, below_drewN h.bel q, h.size⟩

set_option maxRecDepth 100000 in
set_option maxHeartbeats 4000000 in
theorem meet45 (W1 : World) (N n : Nat) (rk id : Nat → Int) (f a b c : Nat) (ha : a < n) (hb : b < n) (hn : n ≤ 1048576) (hm : meetF rk id n f a b = some c) (W : World) (hT : TS W1 N n rk id W) :
    Calls Try.prog 45 #[.int .i64 a, .int .i64 b, .pointer (some ⟨N + 1, 0, none⟩), .pointer (some ⟨N + 3, 0, none⟩)] W fun e w' => (e = .returned (.int .i64 c) ∧ c < n) ∧ ∃ q, w' = W.drewN q := by
  have HT := Lib.hid hT
  have HM := Lib.hid hm
  clear hT hm
  go_enter Try.func45, Try.ntmps45
  go_wp2_with fail
  go_loopg [0, 1] f (fun g s0 s1 wr => ∃ a' b' q : Nat, s0 = .int .i64 a' ∧ s1 = .int .i64 b' ∧ a' < n ∧ b' < n ∧ meetF rk id n g a' b' = some c ∧ wr = W.drewN q)
  case atStart => exact ⟨a, b, 0, rfl, rfl, ha, hb, HM.out, rfl⟩
  case round =>
    obtain ⟨a', b', q, rfl, rfl, ha', hb', hm, rfl⟩ := hrel
    have HM' := Lib.hid hm
    have HT' := Lib.hid (HT.out.drewN q)
    clear hm
    obtain ⟨V, hV⟩ : ∃ V, W.drewN q = V := ⟨_, rfl⟩
    rw [hV] at HT' ⊢
    have HVV := Lib.hid hV
    clear hV
    by_cases hab : a' = b'
    · subst hab
      have hc : c = a' := by
        have := HM'.out
        cases gk with
        | zero => rw [meetF, if_pos rfl] at this; exact (Option.some.inj this).symm
        | succ g => rw [meetF, if_pos rfl] at this; exact (Option.some.inj this).symm
      subst hc
      have q1 : ((c : Int) != (c : Int)) = false := by simp
      go_wp2_with fail
      go_ret
      exact ⟨⟨rfl, ha'⟩, q, HVV.out.symm⟩
    · cases gk with
      | zero => have := HM'.out; rw [meetF, if_neg hab] at this; cases this
      | succ g =>
        have hm := HM'.out
        rw [meetF, if_neg hab] at hm
        have q1 : ((a' : Int) != (b' : Int)) = true := by simp; omega
        have c1 := HT'.out.rB.cell
        have c2 := HT'.out.iB.cell
        have d1 := HT'.out.r.cell ha'
        have d2 := HT'.out.r.cell hb'
        have e1 := HT'.out.i.cell ha'
        have e2 := HT'.out.i.cell hb'
        obtain ⟨ra, hra⟩ : ∃ x, rk a' = x := ⟨_, rfl⟩
        obtain ⟨rb, hrb⟩ : ∃ x, rk b' = x := ⟨_, rfl⟩
        obtain ⟨ia, hia⟩ : ∃ x, id a' = x := ⟨_, rfl⟩
        obtain ⟨ib, hib⟩ : ∃ x, id b' = x := ⟨_, rfl⟩
        rw [hra] at d1
        rw [hrb] at d2
        rw [hia] at e1
        rw [hib] at e2
        rw [hra, hrb, hia, hib] at hm
        clear hra hrb hia hib HM'
        by_cases hlt : rb < ra
        · rw [if_pos hlt] at hm
          have q2 : decide (rb < ra) = true := decide_eq_true hlt
          by_cases hin : 0 ≤ ia ∧ ia < n
          · rw [if_pos hin] at hm
            obtain ⟨x, rfl⟩ : ∃ x : Nat, ia = (x : Int) := ⟨ia.toNat, by omega⟩
            rw [Int.toNat_natCast] at hm
            have HM2 := Lib.hid hm
            clear hm hlt
            go_wp2_with fail
            go_quiet (fail)
            go_wp2_with fail
            go_roundg g
            case rel => exact ⟨x, b', q + nq, by go_num, by go_num, by omega, by omega, HM2.out, by rw [← HVV.out, World.drewN_drewN]⟩
            case measure => omega
          · rw [if_neg hin] at hm; cases hm
        · rw [if_neg hlt] at hm
          have q2 : decide (rb < ra) = false := decide_eq_false hlt
          by_cases hin : 0 ≤ ib ∧ ib < n
          · rw [if_pos hin] at hm
            obtain ⟨x, rfl⟩ : ∃ x : Nat, ib = (x : Int) := ⟨ib.toNat, by omega⟩
            rw [Int.toNat_natCast] at hm
            have HM2 := Lib.hid hm
            clear hm hlt
            go_wp2_with fail
            go_quiet (fail)
            go_wp2_with fail
            go_roundg g
            case rel => exact ⟨a', x, q + nq, by go_num, by go_num, by omega, by omega, HM2.out, by rw [← HVV.out, World.drewN_drewN]⟩
            case measure => omega
          · rw [if_neg hin] at hm; cases hm
end Go.Proofs.Ytcbofikjcgdjmaa
