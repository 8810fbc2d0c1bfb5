/- The contracts of slices.Equal, and of slices.EqualFunc over it. -/
import Derived.Test.YtcbofikjcgdjmaaB4
import Derived.Deep.OwnRows
import Derived.OwnWalk
namespace Go.Proofs.Ytcbofikjcgdjmaa
set_option linter.unusedVariables false
set_option linter.unusedSimpArgs false
open Go.RowKit

theorem equal52 (A B : Option Addr) (xs ys : List Int) (c d : Nat) (w : World) (h : IV w A xs) (h' : IV w B ys) (hl : xs.length ≤ 1099511627776) (hl' : ys.length ≤ 1099511627776) :
    Calls Try.prog 52 #[.slice A xs.length c, .slice B ys.length d] w fun e w' => e = .returned (.bool (xs == ys)) ∧ Below w.heap.size w w' := by
  by_cases hne : xs.length = ys.length
  · by_cases h0 : xs.length = 0
    · have hx : xs = [] := List.eq_nil_of_length_eq_zero h0
      have hy : ys = [] := List.eq_nil_of_length_eq_zero (by omega)
      subst hx hy
      exact (Try.slices_Equal_int_empty A B c 0 d w (by omega)).mono fun e w' h => ⟨by rw [h.1]; rfl, by rw [h.2]; exact Below.refl _ _⟩
    · obtain ⟨b1, o1, rfl, _, hc1⟩ := h (by omega)
      obtain ⟨b2, o2, rfl, _, hc2⟩ := h' (by omega)
      refine (Try.slices_Equal_int b1 o1 xs.length c b2 o2 ys.length d xs ys w (Nat.le_refl _) (Nat.le_refl _) (by omega) (by omega) hc1 hc2).mono fun e w' h => ?_
      obtain ⟨h1, q, rfl⟩ := h
      exact ⟨by rw [h1, List.take_length, List.take_length], below_drewN (Below.refl _ _) _⟩
  · refine (Try.slices_Equal_int_lens A B xs.length c ys.length d w hne).mono fun e w' h => ⟨?_, by rw [h.2]; exact Below.refl _ _⟩
    rw [h.1]
    refine ret_b ?_
    symm
    rw [beq_eq_false_iff_ne]
    exact fun e => hne (by rw [e])

set_option maxRecDepth 100000 in
set_option maxHeartbeats 4000000 in
theorem equal51 (A B : Option Addr) (xs ys : List Int) (c d : Nat) (w : World) (h : IV w A xs) (h' : IV w B ys) (hl : xs.length ≤ 1099511627776) (hl' : ys.length ≤ 1099511627776) :
    Calls Try.prog 51 #[.slice A xs.length c, .slice B ys.length d] w fun e w' => e = .returned (.bool (xs == ys)) ∧ Below w.heap.size w w' := by
  have HE := Lib.hid (equal52 A B xs ys c d w h h' hl hl')
  clear h h'
  go_enter Try.func51, Try.ntmps51
  go_wp2_with (go_at_call 52; refine HE.out.mono ?_; rintro e w1 ⟨rfl, hb⟩; have HB := Lib.hid hb; clear hb)
  go_ret
  exact ⟨rfl, HB.out⟩

theorem take_succ_nthR {xss : List (List Int)} {k : Nat} (h : k < xss.length) : xss.take (k + 1) = xss.take k ++ [nthR xss k] := by
  rw [List.take_add_one, List.getElem?_eq_getElem h, nthR, List.getD_eq_getElem?_getD, List.getElem?_eq_getElem h]; rfl

set_option maxRecDepth 100000 in
set_option maxHeartbeats 4000000 in
theorem equalFunc50 (A B : Option Addr) (xs ys : List (List Int)) (c d : Nat) (w : World) (h : RV w A xs) (h' : RV w B ys) (hl : xs.length ≤ 1099511627776) (hl' : ys.length ≤ 1099511627776) (hz : ∀ j, j < xs.length → (nthR xs j).length ≤ 1099511627776) (hz' : ∀ j, j < ys.length → (nthR ys j).length ≤ 1099511627776) :
    Calls Try.prog 50 #[.slice A xs.length c, .slice B ys.length d, .func (.func 51) #[] #[]] w fun e w' => e = .returned (.bool (xs == ys)) ∧ Below w.heap.size w w' := by
  have HS := Lib.hid h
  have HT := Lib.hid h'
  have HZ := Lib.hid hz
  have HZ' := Lib.hid hz'
  clear h h' hz hz'
  by_cases hne : xs.length = ys.length
  · have HE := Lib.hid hne
    rw [← hne]
    rw [← hne] at hl'
    clear hne
    go_enter Try.func50, Try.ntmps50
    go_wp2_with fail
    go_loopw [17] (fun i wr => ∃ k : Nat, k ≤ xs.length ∧ i = .int .i64 k ∧ xs.take k = ys.take k ∧ Below w.heap.size w wr) (fun i _ => xs.length - (intOf i).toNat)
    case atStart => exact ⟨0, by omega, rfl, rfl, Below.refl _ _⟩
    case round =>
      obtain ⟨k, hk, rfl, hx, hB⟩ := hrel
      have HX := Lib.hid hx
      have HB := Lib.hid hB
      clear hx hB
      by_cases hlt : k < xs.length
      · obtain ⟨b, off, rfl, hbl, hc⟩ := (HS.out.step HB.out) (by omega)
        obtain ⟨A1, c1, g0, hA1⟩ := hc k hlt
        clear hc
        obtain ⟨b', off', rfl, hbl', hc⟩ := (HT.out.step HB.out) (by have := HE.out; omega)
        obtain ⟨A2, c2, f0, hA2⟩ := hc k (by have := HE.out; omega)
        have hz1 := HZ.out k hlt
        have hz2 := HZ'.out k (by have := HE.out; omega)
        have hts := take_succ_nthR hlt
        have htf := take_succ_nthR (xss := ys) (k := k) (by have := HE.out; omega)
        clear hc HS HT HZ HZ'
        obtain ⟨x, hy⟩ : ∃ y, nthR xs k = y := ⟨_, rfl⟩
        rw [hy] at g0 hts hA1 hz1
        obtain ⟨y, hy'⟩ : ∃ y, nthR ys k = y := ⟨_, rfl⟩
        rw [hy'] at f0 htf hA2 hz2
        have HY := Lib.hid hts
        have HZ := Lib.hid htf
        have HC := Lib.hid (equal51 A1 A2 x y c1 c2 wr hA1 hA2 hz1 hz2)
        clear hy hy' hts htf hA1 hA2
        by_cases hq : x = y
        · have hr : (x == y) = true := by simp [hq]
          rw [hr] at HC
          have HQ := Lib.hid hq
          clear hq
          go_wp2_with (go_at_call 51; refine HC.out.mono ?_; rintro e w1 ⟨rfl, hb⟩; have HB1 := Lib.hid (HB.out.trans (hb.mono HB.out.size)); clear hb)
          go_roundw
          case rel => exact ⟨k + 1, by omega, by go_num, by rw [HY.out, HZ.out, HX.out, HQ.out], HB1.out⟩
          case measure => simp [intOf]; omega
        · have hr : (x == y) = false := by simp [hq]
          rw [hr] at HC
          have HQ := Lib.hid hq
          clear hq
          go_wp2_with (go_at_call 51; refine HC.out.mono ?_; rintro e w1 ⟨rfl, hb⟩; have HB1 := Lib.hid (HB.out.trans (hb.mono HB.out.size)); clear hb)
          go_ret
          refine ⟨ret_b ?_, HB1.out⟩
          symm
          rw [beq_eq_false_iff_ne]
          intro e
          have h1 := HY.out
          have h2 := HZ.out
          rw [e] at h1
          rw [h1] at h2
          simp at h2
          exact HQ.out h2
      · obtain rfl : k = xs.length := by omega
        go_wp2_with fail
        go_ret
        refine ⟨ret_b ?_, HB.out⟩
        symm
        have := HX.out
        rw [List.take_length, HE.out, List.take_length] at this
        rw [this]; simp
  · have hb : ((xs.length : Int) != (ys.length : Int)) = true := by simp; omega
    have HE := Lib.hid hne
    clear hne
    go_enter Try.func50, Try.ntmps50
    go_wp2_with fail
    go_ret
    refine ⟨ret_b ?_, Below.refl _ _⟩
    symm
    rw [beq_eq_false_iff_ne]
    exact fun e => HE.out (by rw [e])
end Go.Proofs.Ytcbofikjcgdjmaa
