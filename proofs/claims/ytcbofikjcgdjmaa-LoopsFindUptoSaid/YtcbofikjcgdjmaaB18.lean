/- The contract of loops.around. -/
import Derived.Test.YtcbofikjcgdjmaaB17
namespace Go.Proofs.Ytcbofikjcgdjmaa
set_option linter.unusedVariables false
set_option linter.unusedSimpArgs false
open Go.RowKit

theorem BoxLp.drewN {W : World} {q : Nat} {x : Lp} (h : BoxLp W q x) (n : Nat) : BoxLp (W.drewN n) q x := h.step (below_drewN (Below.refl _ _) n)
set_option maxRecDepth 100000 in
set_option maxHeartbeats 4000000 in
theorem around60 (x : Lp) (hz : x.bl.length ≤ 1099511627776) (q : Nat) (a : Int) (w : World) (h : BoxLp w q x) :
    Calls Try.prog 60 #[.int .i64 a, .pointer (some ⟨q, 0, none⟩)] w fun e w' => e = .returned (.bool (!x.bl.contains a)) ∧ w' = w := by
  obtain ⟨hq, A1, c1, B1, d1, g0, g1, g2, g3, hA1, hB1⟩ := h
  obtain ⟨hd, bl, la, pa⟩ := x
  dsimp only at g0 g1 g2 g3 hA1 hz ⊢
  have HA := Lib.hid hA1
  have H1 := Lib.hid (fun W => contains30 A1 bl c1 a W)
  clear hA1 hB1
  obtain ⟨r, hr⟩ : ∃ r, bl.contains a = r := ⟨_, rfl⟩
  simp only [hr] at H1
  rw [hr]
  clear hr
  go_enter Try.func60, Try.ntmps60
  go_wp2_with (go_at_call 30; refine (H1.out _ HA.out hz).mono ?_; rintro e w1 ⟨rfl, rfl⟩)
  go_ret
  exact ⟨rfl, rfl⟩
theorem cf59 (A : Option Addr) (xs : List Int) (c : Nat) (x : Lp) (hz : x.bl.length ≤ 1099511627776) (q : Nat) (w : World) (h : IV w A xs) (hl : xs.length ≤ 1099511627776) (hx : BoxLp w q x) :
    Calls Try.prog 59 #[.slice A xs.length c, .func (.func 60) #[] #[.pointer (some ⟨q, 0, none⟩)]] w fun e w' => e = .returned (.bool (xs.any fun b => !x.bl.contains b)) ∧ ∃ m, w' = w.drewN m := by
  by_cases h0 : xs.length = 0
  · have : xs = [] := List.eq_nil_of_length_eq_zero h0
    subst this
    exact (Try.slices_ContainsFunc_empty (α := Int) A c _ w).mono fun e w' h => ⟨h.1, 0, h.2⟩
  · obtain ⟨b, off, rfl, hb, hc⟩ := h (by omega)
    have hp : PredAt Try.prog 60 #[.pointer (some ⟨q, 0, none⟩)] (Value.int .i64) (fun b => !x.bl.contains b) w := fun W y hW =>
      (around60 x hz q y W (hx.step (by first | exact hW | exact hW.mono (Nat.le_refl _)))).mono fun e w' h => ⟨h.1, 0, h.2⟩
    refine (Try.slices_ContainsFunc (Value.int .i64) (fun b => !x.bl.contains b) 60 _ (enters_of Try.func60 (by kernel_rfl) rfl) b off xs.length c xs w hp (Nat.le_refl _) (by omega) (fun j hj => by rw [hc j hj, List.getD_eq_getElem?_getD, getElem!_pos xs j hj, List.getElem?_eq_getElem hj]; rfl)).mono fun e w' h => ?_
    obtain ⟨h1, m, rfl⟩ := h
    exact ⟨by rw [h1, List.take_length], m, rfl⟩
/-- whether loop k lies around loop i -/
def arC (ls : List Lp) (i k : Nat) : Bool := !(decide (k = i)) && !(decide ((nthL ls k).hd = (nthL ls i).hd)) && !((nthL ls i).bl.any fun b => !(nthL ls k).bl.contains b)
/-- the index of the smallest of the first k loops around loop i, or -1 -/
def arK (ls : List Lp) (i : Nat) : Nat → Int
  | 0 => -1
  | k + 1 => if arC ls i k && (decide (arK ls i k < 0) || decide ((nthL ls k).bl.length < (nthL ls (arK ls i k).toNat).bl.length)) then k else arK ls i k
theorem arK_in (ls : List Lp) (i : Nat) : ∀ k, -1 ≤ arK ls i k ∧ arK ls i k < k
  | 0 => by simp [arK]
  | k + 1 => by have := arK_in ls i k; unfold arK; split <;> omega

set_option maxRecDepth 100000 in
set_option maxHeartbeats 8000000 in
theorem around39 (A : Option Addr) (ls : List Lp) (c : Nat) (i : Nat) (w : World) (h : LV w A ls) (hi : i < ls.length) (hl : ls.length ≤ 1099511627776) (hz : LZ ls) :
    Calls Try.prog 39 #[.slice A ls.length c, .int .i64 i] w fun e w' => e = .returned (.int .i64 (arK ls i ls.length)) ∧ Below w.heap.size w w' := by
  have HS := Lib.hid h
  have HZ := Lib.hid hz
  have HK := Lib.hid (arK_in ls i)
  have hi' : (i : Int) < (ls.length : Int) := by omega
  clear h hz
  go_enter Try.func39, Try.ntmps39
  go_wp2_with fail
  go_loopw [5, 10] (fun n s wr => ∃ (k : Nat) (m : Int), k ≤ ls.length ∧ s = .int .i64 k ∧ n = .int .i64 m ∧ m = arK ls i k ∧ Below w.heap.size w wr) (fun _ s _ => ls.length - (intOf s).toNat)
  case atStart => exact ⟨0, -1, by omega, rfl, rfl, rfl, Below.refl _ _⟩
  case round =>
    obtain ⟨k, m, hk, rfl, rfl, hd, hB⟩ := hrel
    have hdk : -1 ≤ m ∧ m < k := by rw [hd]; exact HK.out k
    have HD := Lib.hid hd
    have HB := Lib.hid hB
    clear hd hB
    by_cases hlt : k < ls.length
    · obtain ⟨b, off, rfl, hbl, hc⟩ := (HS.out.step HB.out) (by omega)
      obtain ⟨A1, c1, B1, d1, g0, g1, g2, g3, hA1, hB1⟩ := hc k hlt
      obtain ⟨A2, c2, B2, d2, f0, f1, f2, f3, hA2, hB2⟩ := hc i hi
      have hz1 := (HZ.out k hlt).1
      have hz2 := (HZ.out i hi).1
      have HC := Lib.hid hc
      have hst0 : arK ls i (k + 1) = if arC ls i k && (decide (m < 0) || decide ((nthL ls k).bl.length < (nthL ls m.toNat).bl.length)) then (k : Int) else m := by rw [arK, ← HD.out]
      have hac : arC ls i k = (!(decide (k = i)) && !(decide ((nthL ls k).hd = (nthL ls i).hd)) && !((nthL ls i).bl.any fun b => !(nthL ls k).bl.contains b)) := rfl
      clear hc HS
      obtain ⟨y, hy⟩ : ∃ y, nthL ls k = y := ⟨_, rfl⟩
      obtain ⟨z, hz'⟩ : ∃ z, nthL ls i = z := ⟨_, rfl⟩
      rw [hy] at g0 g1 g2 g3 hA1 hB1 hz1 hst0 hac
      rw [hz'] at f0 f1 f2 f3 hA2 hz2 hac
      rw [hac] at hst0
      clear hac hB2
      have hbx := fun q => BoxLp.new wr y A1 B1 c1 d1 q hA1 hB1
      have H1 := Lib.hid (fun W hI hx => cf59 A2 z.bl c2 y hz1 wr.heap.size W hI hz2 hx)
      obtain ⟨hd1, bl1, la1, pa1⟩ := y
      obtain ⟨hd2, bl2, la2, pa2⟩ := z
      dsimp only at g0 g1 g2 g3 f0 f1 f2 f3 hA1 hz1 hz2 hst0 hA2 hbx H1
      have HA2 := Lib.hid hA2
      have HBX := Lib.hid (hbx 30)
      have HY := Lib.hid hy
      clear hA1 hB1 hA2 hbx hy hz'
      obtain ⟨r, hr⟩ : ∃ r, (bl2.any fun b => !bl1.contains b) = r := ⟨_, rfl⟩
      simp only [hr] at H1 hst0
      clear hr
      by_cases e1 : k = i
      · have p1 : ((k : Int) == (i : Int)) = true := by simp [e1]
        have HST := Lib.hid (show arK ls i (k + 1) = m by rw [hst0, decide_eq_true e1]; rfl)
        clear hst0 e1
        go_wp2_with fail
        go_quiet (fail)
        go_wp2_with fail
        go_roundw
        case rel => exact ⟨k + 1, m, by omega, by go_num, by go_num, by rw [HST.out], below_drewN (below_new HB.out _) _⟩
        case measure => simp [intOf]; omega
      have p1 : ((k : Int) == (i : Int)) = false := by rw [beq_eq_false_iff_ne]; omega
      by_cases e2 : hd1 = hd2
      · have p2 : (hd1 == hd2) = true := by simpa using e2
        have HST := Lib.hid (show arK ls i (k + 1) = m by rw [hst0, decide_eq_true e2]; simp)
        clear hst0 e1 e2
        go_wp2_with fail
        go_quiet (fail)
        go_wp2_with fail
        go_roundw
        case rel => exact ⟨k + 1, m, by omega, by go_num, by go_num, by rw [HST.out], below_drewN (below_new HB.out _) _⟩
        case measure => simp [intOf]; omega
      have p2 : (hd1 == hd2) = false := by simpa using e2
      rw [decide_eq_false e1, decide_eq_false e2] at hst0
      clear e1 e2
      cases r with
      | true =>
        have HST := Lib.hid (show arK ls i (k + 1) = m by rw [hst0]; rfl)
        clear hst0
        go_wp2_with fail
        go_quiet (first | (go_at_call 59; exact Calls.quiet_of (H1.out _ ((HA2.out.alloc _).drewN _) (HBX.out.drewN _))))
        go_wp2_with fail
        go_roundw
        case rel => exact ⟨k + 1, m, by omega, by go_num, by go_num, by rw [HST.out], below_drewN (below_new HB.out _) _⟩
        case measure => simp [intOf]; omega
      | false =>
        have hst0 : arK ls i (k + 1) = if (decide (m < 0) || decide (bl1.length < (nthL ls m.toNat).bl.length)) then (k : Int) else m := by rw [hst0]; rfl
        by_cases hm : m < 0
        · have q1 : decide (m < 0) = true := by simpa using hm
          have HST := Lib.hid (show arK ls i (k + 1) = k by rw [hst0, q1]; rfl)
          clear hst0 hm
          go_wp2_with fail
          go_quiet (first | (go_at_call 59; exact Calls.quiet_of (H1.out _ ((HA2.out.alloc _).drewN _) (HBX.out.drewN _))))
          go_wp2_with fail
          go_quiet (fail)
          go_wp2_with fail
          go_roundw
          case rel => exact ⟨k + 1, k, by omega, by go_num, by go_num, by rw [HST.out], below_drewN (below_new HB.out _) _⟩
          case measure => simp [intOf]; omega
        · have q1 : decide (m < 0) = false := by simpa using hm
          obtain ⟨m', rfl⟩ : ∃ m' : Nat, m = (m' : Int) := ⟨m.toNat, by omega⟩
          have hm' : m' < ls.length := by omega
          obtain ⟨A3, c3, B3, d3, k0, k1, k2, k3, hA3, hB3⟩ := HC.out m' hm'
          rw [Int.toNat_natCast] at hst0
          obtain ⟨y3, hy3⟩ : ∃ y3, nthL ls m' = y3 := ⟨_, rfl⟩
          rw [hy3] at k0 k1 k2 k3 hst0
          clear hy3 HC HZ hA3 hB3
          obtain ⟨hd3, bl3, la3, pa3⟩ := y3
          dsimp only at k0 k1 k2 k3 hst0
          obtain ⟨n1, hn1⟩ : ∃ n1, bl1.length = n1 := ⟨_, rfl⟩
          obtain ⟨n3, hn3⟩ : ∃ n3, bl3.length = n3 := ⟨_, rfl⟩
          rw [hn1] at g1
          rw [hn3] at k1
          rw [hn1, hn3] at hst0
          have HN1 := Lib.hid hn1
          clear hn3 hn1
          have HBX := Lib.hid (show BoxLp (wr.alloc (.cells #[.int .i64 hd1, .slice A1 n1 c1, .slice B1 la1.length d1, .int .i64 pa1] 30)) wr.heap.size ⟨hd1, bl1, la1, pa1⟩ by rw [← HN1.out]; exact HBX.out)
          by_cases e : n1 < n3
          · have q2 : decide ((n1 : Int) < (n3 : Int)) = true := by simpa using e
            have HST := Lib.hid (show arK ls i (k + 1) = k by rw [hst0, decide_eq_true e, q1]; rfl)
            clear hst0 hm
            go_wp2_with fail
            go_quiet (first | (go_at_call 59; exact Calls.quiet_of (H1.out _ ((HA2.out.alloc _).drewN _) (HBX.out.drewN _))))
            go_wp2_with fail
            go_quiet (fail)
            go_wp2_with fail
            go_roundw
            case rel => exact ⟨k + 1, k, by omega, by go_num, by go_num, by rw [HST.out], below_drewN (below_new HB.out _) _⟩
            case measure => simp [intOf]; omega
          · have q2 : decide ((n1 : Int) < (n3 : Int)) = false := by simpa using e
            have HST := Lib.hid (show arK ls i (k + 1) = m' by rw [hst0, decide_eq_false e, q1]; rfl)
            clear hst0 hm
            go_wp2_with fail
            go_quiet (first | (go_at_call 59; exact Calls.quiet_of (H1.out _ ((HA2.out.alloc _).drewN _) (HBX.out.drewN _))))
            go_wp2_with fail
            go_quiet (fail)
            go_wp2_with fail
            go_roundw
            case rel => exact ⟨k + 1, m', by omega, by go_num, by go_num, by rw [HST.out], below_drewN (below_new HB.out _) _⟩
            case measure => simp [intOf]; omega
    · obtain rfl : k = ls.length := by omega
      go_wp2_with fail
      go_ret
      exact ⟨ret_i (by rw [HD.out]), HB.out⟩
end Go.Proofs.Ytcbofikjcgdjmaa
