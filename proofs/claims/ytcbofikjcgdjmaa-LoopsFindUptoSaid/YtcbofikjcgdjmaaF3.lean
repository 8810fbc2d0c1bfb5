/- The contracts of the reference's reaches and Contains. -/
import Derived.Test.YtcbofikjcgdjmaaF2
namespace Go.Proofs.Ytcbofikjcgdjmaa
set_option linter.unusedVariables false
set_option linter.unusedSimpArgs false
open Go.RowKit

/-- whether a path of at most so many steps leads to a node, not through another -/
def rcF (nx : Nat → List Nat) (to wo : Nat) : Nat → Nat → Bool
  | 0, f => decide (f = to)
  | k + 1, f => decide (f = to) || (decide (f ≠ wo) && (nx f).any fun t => decide (t ≠ wo) && rcF nx to wo k t)
set_option maxRecDepth 100000 in
set_option maxHeartbeats 2000000 in
theorem reaches43 (A : Option Addr) (xss : List (List Int)) (n c to wo : Nat) (w : World) (h : RV w A xss) (hn : xss.length = n) (hl : n ≤ 1048576)
    (hz : ∀ j, j < n → (nthR xss j).length ≤ 1048576) (hin : ∀ j, j < n → ∀ t, t ∈ nthR xss j → 0 ≤ t ∧ t < n) :
    ∀ (k f : Nat), f < n → k ≤ 1048576 → Calls Try.prog 43 #[.slice A n c, .int .i64 f, .int .i64 to, .int .i64 wo, .int .i64 k] w fun e w' => e = .returned (.bool (rcF (nxR xss) to wo k f)) ∧ w' = w := by
  intro k
  induction k with
  | zero =>
    intro f hf _
    by_cases e : f = to
    · have e1 : ((f : Int) == (to : Int)) = true := by simp [e]
      have HE := Lib.hid (show rcF (nxR xss) to wo 0 f = true by simp [rcF, e])
      clear e h hz hin
      go_enter Try.func43, Try.ntmps43
      go_wp2_with fail
      go_ret
      exact ⟨ret_b HE.out.symm, rfl⟩
    · have e1 : ((f : Int) == (to : Int)) = false := by simp; omega
      have HE := Lib.hid (show rcF (nxR xss) to wo 0 f = false by simp [rcF, e])
      clear e h hz hin
      by_cases e' : f = wo
      · have e2 : ((f : Int) == (wo : Int)) = true := by simp [e']
        clear e'
        go_enter Try.func43, Try.ntmps43
        go_wp2_with fail
        go_ret
        exact ⟨ret_b HE.out.symm, rfl⟩
      · have e2 : ((f : Int) == (wo : Int)) = false := by simp; omega
        clear e'
        go_enter Try.func43, Try.ntmps43
        go_wp2_with fail
        go_ret
        exact ⟨ret_b HE.out.symm, rfl⟩
  | succ k ih =>
    intro f hf hk
    have hd : rcF (nxR xss) to wo (k + 1) f = (decide (f = to) || (decide (f ≠ wo) && (nxR xss f).any fun t => decide (t ≠ wo) && rcF (nxR xss) to wo k t)) := rfl
    by_cases e : f = to
    · have e1 : ((f : Int) == (to : Int)) = true := by simp [e]
      have HE := Lib.hid (show rcF (nxR xss) to wo (k + 1) f = true by rw [hd]; simp [e])
      clear e h hz hin hd ih
      go_enter Try.func43, Try.ntmps43
      go_wp2_with fail
      go_ret
      exact ⟨ret_b HE.out.symm, rfl⟩
    have e1 : ((f : Int) == (to : Int)) = false := by simp; omega
    by_cases e' : f = wo
    · have e2 : ((f : Int) == (wo : Int)) = true := by simp [e']
      have HE := Lib.hid (show rcF (nxR xss) to wo (k + 1) f = false by rw [hd, decide_eq_false e]; simp [e'])
      clear e e' h hz hin hd ih
      go_enter Try.func43, Try.ntmps43
      go_wp2_with fail
      go_ret
      exact ⟨ret_b HE.out.symm, rfl⟩
    have e2 : ((f : Int) == (wo : Int)) = false := by simp; omega
    rw [decide_eq_false e, decide_eq_true e', Bool.false_or, Bool.true_and] at hd
    have HD := Lib.hid hd
    have IH := Lib.hid ih
    have hk0 : (((k + 1 : Nat) : Int) == 0) = false := by simp; omega
    have hks : ((k + 1 : Nat) : Int) - 1 = (k : Int) := by omega
    obtain ⟨b, off, rfl, hbl, hc⟩ := h (by omega)
    obtain ⟨A1, c1, g0, hA1⟩ := hc f (by omega)
    have hz1 := hz f hf
    have hin1 := hin f hf
    have hxl := nxR_length xss f
    have hxg := fun j (hj : j < (nthR xss f).length) => nxR_getD xss f j rfl hj
    obtain ⟨ys, hys⟩ : ∃ ys, nxR xss f = ys := ⟨_, rfl⟩
    rw [hys] at hxl HD
    simp only [hys] at hxg
    obtain ⟨nx, hnx⟩ : ∃ nx, nthR xss f = nx := ⟨_, rfl⟩
    rw [hnx] at g0 hA1 hz1 hin1 hxl
    simp only [hnx] at hxg
    have HXL := Lib.hid hxl
    have HXG := Lib.hid hxg
    have HIN1 := Lib.hid hin1
    have HA := Lib.hid hA1
    have HKS := Lib.hid hks
    clear hc hA1 hin1 hxl hxg hys hnx hd e e' hz hin ih
    rw [show (Value.int .i64 ((k + 1 : Nat) : Int)) = .int .i64 ((k : Int) + 1) from rfl]
    have hk0' : ((k : Int) + 1 == 0) = false := by simp; omega
    go_enter Try.func43, Try.ntmps43
    go_wp2_with fail
    go_loopw [11] (fun i wr => ∃ j : Nat, j ≤ nx.length ∧ i = .int .i64 j ∧ ((ys.take j).any fun t => decide (t ≠ wo) && rcF (nxR xss) to wo k t) = false ∧ wr = w) (fun i _ => nx.length - (intOf i).toNat)
    case atStart => exact ⟨0, by omega, rfl, by simp, rfl⟩
    case round =>
      obtain ⟨j, hj, rfl, hno, hwr⟩ := hrel
      rename World => W2
      subst hwr
      have HNO := Lib.hid hno
      clear hno
      by_cases hjt : j < nx.length
      · obtain ⟨b1, o1, rfl, hb1, hcx⟩ := HA.out (by omega)
        have gx := hcx j hjt
        have hx0 := HIN1.out _ (getD_mem hjt)
        have hgd := HXG.out j hjt
        have htk : ys.take (j + 1) = ys.take j ++ [ys.getD j 0] := take_succ_nat (by have := HXL.out; omega)
        obtain ⟨x, hx⟩ : ∃ x, nx.getD j 0 = x := ⟨_, rfl⟩
        rw [hx] at gx hx0 hgd
        obtain ⟨t, rfl⟩ : ∃ t : Nat, x = (t : Int) := ⟨x.toNat, by omega⟩
        rw [Int.toNat_natCast] at hgd
        rw [hgd] at htk
        have htn : t < n := by omega
        have HTK := Lib.hid htk
        have HC := Lib.hid (IH.out t htn (by omega))
        obtain ⟨r, hr⟩ : ∃ r, rcF (nxR xss) to wo k t = r := ⟨_, rfl⟩
        have HR := Lib.hid hr
        rw [hr] at HC
        clear hcx hx hgd htk hr
        by_cases e : t = wo
        · have e3 : ((t : Int) != (wo : Int)) = false := by simp [e]
          have HE := Lib.hid e
          clear e
          go_wp2_with fail
          go_roundw
          case rel => exact ⟨j + 1, by omega, by go_num, by rw [HTK.out, List.any_append, HNO.out]; simp [HE.out], trivial⟩
          case measure => simp [intOf]; omega
        · have e3 : ((t : Int) != (wo : Int)) = true := by simp; omega
          have HE := Lib.hid e
          clear e
          cases r with
          | true =>
            go_wp2_with (go_at_call 43; refine HC.out.mono ?_; rintro e w1 ⟨rfl, hw1⟩; subst w1)
            go_ret
            refine ⟨ret_b ?_, rfl⟩
            rw [HD.out]
            symm
            rw [List.any_eq_true]
            refine ⟨t, ?_, by rw [HR.out]; simp [HE.out]⟩
            have : t ∈ ys.take (j + 1) := by rw [HTK.out]; simp
            exact List.mem_of_mem_take this
          | false =>
            go_wp2_with (go_at_call 43; refine HC.out.mono ?_; rintro e w1 ⟨rfl, hw1⟩; subst w1)
            go_roundw
            case rel => exact ⟨j + 1, by omega, by go_num, by rw [HTK.out, List.any_append, HNO.out]; simp [HR.out], trivial⟩
            case measure => simp [intOf]; omega
      · obtain rfl : j = nx.length := by omega
        go_wp2_with fail
        go_ret
        refine ⟨ret_b ?_, rfl⟩
        have := HNO.out
        rw [← HXL.out, List.take_length] at this
        rw [HD.out, this]
end Go.Proofs.Ytcbofikjcgdjmaa
