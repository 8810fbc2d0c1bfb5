/- The walk of LoopsNest. -/
import Derived.Test.YtcbofikjcgdjmaaC2
namespace Go.Proofs.Ytcbofikjcgdjmaa
set_option linter.unusedVariables false
set_option linter.unusedSimpArgs false
open Go.RowKit

set_option maxRecDepth 100000 in
set_option maxHeartbeats 4000000 in
theorem nest4 (A B : Option Addr) (bs : List Bk) (pv : List (List Int)) (c d : Nat) (w : World) (h : BV w A bs) (h' : RV w B pv) (hz : GZ bs pv) :
    Calls Try.prog 4 #[.agg #[.slice A bs.length c, .slice B pv.length d]] w fun e w' => e = .returned (.bool true) ∧ Below w.heap.size w w' := by
  have HF := Lib.hid (fun W h h' => found19 A B bs pv c d W h h' hz)
  have HS := Lib.hid h
  have HT := Lib.hid h'
  have HZ := Lib.hid hz
  clear h h' hz
  go_enter Try.func4, Try.ntmps4
  go_wp2_with (first
    | (go_at_call 11; refine (awake11 _).mono ?_; rintro e W1 ⟨rfl, hb⟩
       have y0 := (hb.cell (p := ⟨w.heap.size, 0, none⟩) (by simp)).trans (cell_new' _ _ #[.slice A bs.length c, .slice B pv.length d] _ _ _ rfl rfl)
       have y1 := (hb.cell (p := ⟨w.heap.size, 1, none⟩) (by simp)).trans (cell_new' _ _ #[.slice A bs.length c, .slice B pv.length d] _ _ _ rfl rfl)
       have hg : w.heap.size < W1.heap.size := by have := hb.size; simp at this; omega
       have HB1 := Lib.hid (below_through hb)
       clear hb))
  refine (HF.out _ (HS.out.step HB1.out) (HT.out.step HB1.out)).mono ?_
  rintro e W2 ⟨hor, hb⟩
  rcases hor with ⟨R, n, cap, L, m, cap', rfl⟩ | ⟨h14, hv, hRd, R, cap, L, cap', rfl, hcap, hRV, hLV⟩
  · have HB2 := Lib.hid hb
    clear hb y0 y1 hg
    go_wp2_with fail
    go_ret
    exact ⟨rfl, HB1.out.trans (HB2.out.mono HB1.out.size)⟩
  have hlen : (lsF bs pv).length ≤ 14 := by rw [lsF_length]; exact Nat.le_trans (headF_len bs) h14
  have hLZ : LZ (lsF bs pv) := by rw [← lsM_all]; exact lsM_LZ (ls0_LZ bs pv HZ.out.len HZ.out.edges) _
  have hLF := lf_of hv hRd
  obtain ⟨H, hH⟩ : ∃ H : Nat → Nat, (fun i => (headF bs).getD i 0) = H := ⟨_, rfl⟩
  rw [hH] at hLF
  obtain ⟨ls, hls⟩ : ∃ ls, lsF bs pv = ls := ⟨_, rfl⟩
  rw [hls] at hlen hLZ hLF hLV
  rw [hls]
  have HB2 := Lib.hid hb
  have HNS := Lib.hid (fun (b m d : Nat) (h : NP ls (b : Int) (m : Int) d) => np_step hv hLF h)
  have HLV := Lib.hid hLV
  have HLZ := Lib.hid hLZ
  have HH14 := Lib.hid h14
  clear hb y0 y1 hg hv hRd hRV hLV hLF hH hls hLZ HF hcap h14
  go_wp2_with fail
  go_loopw [24] (fun i wr => ∃ k : Nat, k ≤ bs.length ∧ i = .int .i64 k ∧ Below W2.heap.size W2 wr) (fun i _ => bs.length - (intOf i).toNat)
  case atStart => exact ⟨0, by omega, rfl, Below.refl _ _⟩
  case round =>
    obtain ⟨k, hk, rfl, hB⟩ := hrel
    have HB3 := Lib.hid hB
    clear hB
    by_cases hlt : k < bs.length
    · have HI := Lib.hid (fun W h => innermost14 L ls cap' (k : Int) W h (by omega) HLZ.out)
      have HD := Lib.hid (fun W h => depth13 L ls cap' (k : Int) W h (by omega) HLZ.out)
      have HNP := Lib.hid (np_start ls (k : Int))
      go_wp2_with (first
        | (go_at_call 14; refine (HI.out _ (HLV.out.step HB3.out)).mono ?_; rintro e W4 ⟨rfl, hb⟩
           have HB4 := Lib.hid (HB3.out.trans (hb.mono HB3.out.size))
           clear hb))
      go_loopw [7, 8] (fun mv dv wr => ∃ (m : Int) (d : Nat), mv = .int .i64 m ∧ dv = .int .i64 d ∧ NP ls (k : Int) m d ∧ Below W2.heap.size W2 wr) (fun _ dv _ => ls.length + 1 - (intOf dv).toNat)
      case atStart => exact ⟨_, 0, rfl, rfl, HNP.out, HB4.out⟩
      case round =>
        obtain ⟨m, dd, rfl, rfl, hnp, hB⟩ := hrel
        rename World => W5
        have HB5 := Lib.hid hB
        clear hB
        have HN5 := Lib.hid hnp
        clear hnp
        by_cases hm : 0 ≤ m
        · obtain ⟨q, rfl⟩ : ∃ q : Nat, m = (q : Int) := ⟨m.toNat, by omega⟩
          obtain ⟨hq, hin, hd⟩ := np_pos HN5.out
          obtain ⟨n1, n2, n3, n4⟩ := HNS.out k q dd HN5.out
          have q0 : decide ((0 : Int) ≤ (q : Int)) = true := decide_eq_true (by omega)
          have q1 : decide ((dd : Int) ≤ (ls.length : Int)) = true := decide_eq_true (by omega)
          have q2 : decide ((ls.length : Int) ≤ (q : Int)) = false := decide_eq_false (by omega)
          obtain ⟨b, off, rfl, hbl, hc⟩ := (HLV.out.step HB5.out) (by omega)
          obtain ⟨A1, c1, B1, d1, g0, g1, g2, g3, hA1, hB1⟩ := hc q hq
          have HC := Lib.hid hc
          have hz := (HLZ.out q hq).1
          obtain ⟨y, hy⟩ : ∃ y, nthL ls q = y := ⟨_, rfl⟩
          rw [hy] at g0 g1 g2 g3 hA1 hz hin n1 n2 n3 n4
          obtain ⟨hd1, bl, la, pa⟩ := y
          dsimp only at g0 g1 g2 g3 hA1 hz hin n1 n2 n3 n4
          have HA := Lib.hid hA1
          have H1 := Lib.hid (fun W h => in12 A1 bl c1 (k : Int) W h hz)
          simp only [hin] at H1
          have HN1 := Lib.hid n1
          have HN4 := Lib.hid n4
          have r0 : ¬ (ls.length ≤ q) := by omega
          have q3 : decide ((ls.length : Int) ≤ pa) = false := decide_eq_false (by omega)
          clear hc hA1 hB1 n1 n4 hin hy hm
          by_cases hp : 0 ≤ pa
          · obtain ⟨p, rfl⟩ : ∃ p : Nat, pa = (p : Int) := ⟨pa.toNat, by omega⟩
            have hpl : p < ls.length := by omega
            have p0 : decide ((0 : Int) ≤ (p : Int)) = true := decide_eq_true (by omega)
            obtain ⟨n5, n6⟩ := HN4.out hp
            rw [Int.toNat_natCast] at n5 n6
            obtain ⟨A2, c2, B2, d2, f0, f1, f2, f3, hA2, hB2⟩ := HC.out p hpl
            have hz2 := (HLZ.out p hpl).1
            obtain ⟨y2, hy2⟩ : ∃ y, nthL ls p = y := ⟨_, rfl⟩
            rw [hy2] at f0 f1 f2 f3 hA2 hz2 n5 n6
            obtain ⟨hd2, bl2, la2, pa2⟩ := y2
            dsimp only at f0 f1 f2 f3 hA2 hz2 n5 n6
            have p1 : decide ((bl2.length : Int) ≤ (bl.length : Int)) = false := decide_eq_false (by omega)
            have r1 : ¬ (ls.length ≤ p) := by omega
            have r2 : ¬ (bl2.length ≤ bl.length) := by omega
            have HA2 := Lib.hid hA2
            have H2 := Lib.hid (fun x (hx : x ∈ bl) W h => (by have := in12 A2 bl2 c2 x W h hz2; rw [n6 x hx] at this; exact this : Calls Try.prog 12 #[.slice A2 bl2.length c2, .int .i64 x] W fun e w' => e = .returned (.bool true) ∧ w' = W))
            clear hA2 hB2 n5 n6 hy2 hp HC
            go_wp2_with (first | (go_at_call 12; refine (H1.out _ HA.out).mono ?_; rintro e w1 ⟨rfl, hw1⟩; subst w1))
            go_quiet (fail)
            go_wp2_with fail
            go_loopw [86] (fun i wr' => ∃ j : Nat, j ≤ bl.length ∧ i = .int .i64 j ∧ Below W5.heap.size W5 wr') (fun i _ => bl.length - (intOf i).toNat)
            case atStart => exact ⟨0, by omega, rfl, below_drewN (Below.refl _ _) _⟩
            case round =>
              obtain ⟨j, hj, rfl, hB⟩ := hrel
              have HB6 := Lib.hid hB
              clear hB
              by_cases hjt : j < bl.length
              · obtain ⟨b1, o1, rfl, hb1, hcx⟩ := HA.out (by omega)
                have gx := (HB6.out.cell (p := ⟨b1, o1 + j, none⟩) hb1).trans (hcx j hjt)
                obtain ⟨x, hx⟩ : ∃ x, bl.getD j 0 = x := ⟨_, rfl⟩
                rw [hx] at gx
                have F1 := (HB6.out.cell (p := ⟨b, off + p * 4, none⟩) hbl).trans f0
                have F2 := (HB6.out.cell (p := ⟨b, off + p * 4 + 1, none⟩) hbl).trans f1
                have H3 := Lib.hid (H2.out x (hx ▸ getD_mem hjt))
                clear hcx hx
                go_wp2_with (first | (go_at_call 12; refine (H3.out _ (HA2.out.step HB6.out)).mono ?_; rintro e w1 ⟨rfl, hw1⟩; subst w1))
                go_roundw
                case rel => exact ⟨j + 1, by omega, by go_num, HB6.out⟩
                case measure => simp [intOf]; omega
              · obtain rfl : j = bl.length := by omega
                go_wp2_with fail
                go_roundw
                case rel => exact ⟨(p : Int), dd + 1, rfl, by go_num, HN1.out, HB5.out.trans (HB6.out.mono HB5.out.size)⟩
                case measure => simp [intOf]; omega
          · have p0 : decide ((0 : Int) ≤ pa) = false := decide_eq_false hp
            clear HC
            go_wp2_with (first | (go_at_call 12; refine (H1.out _ HA.out).mono ?_; rintro e w1 ⟨rfl, hw1⟩; subst w1))
            go_quiet (fail)
            go_wp2_with fail
            go_loopw [86] (fun i wr' => ∃ j : Nat, j ≤ bl.length ∧ i = .int .i64 j ∧ Below W5.heap.size W5 wr') (fun i _ => bl.length - (intOf i).toNat)
            case atStart => exact ⟨0, by omega, rfl, below_drewN (Below.refl _ _) _⟩
            case round =>
              obtain ⟨j, hj, rfl, hB⟩ := hrel
              have HB6 := Lib.hid hB
              clear hB
              by_cases hjt : j < bl.length
              · obtain ⟨b1, o1, rfl, hb1, hcx⟩ := HA.out (by omega)
                have gx := (HB6.out.cell (p := ⟨b1, o1 + j, none⟩) hb1).trans (hcx j hjt)
                obtain ⟨x, hx⟩ : ∃ x, bl.getD j 0 = x := ⟨_, rfl⟩
                rw [hx] at gx
                skip
                clear hcx hx
                go_wp2_with fail
                go_roundw
                case rel => exact ⟨j + 1, by omega, by go_num, HB6.out⟩
                case measure => simp [intOf]; omega
              · obtain rfl : j = bl.length := by omega
                go_wp2_with fail
                go_roundw
                case rel => exact ⟨pa, dd + 1, rfl, by go_num, HN1.out, HB5.out.trans (HB6.out.mono HB5.out.size)⟩
                case measure => simp [intOf]; omega
        · have hd := np_end HN5.out (by omega)
          have hb14 := HH14.out
          have q0 : decide ((0 : Int) ≤ m) = false := decide_eq_false hm
          rw [← hd] at HD
          clear hd
          go_wp2_with (first | (go_at_call 13; refine (HD.out _ (HLV.out.step HB5.out)).mono ?_; rintro e W6 ⟨rfl, hb⟩
                                have HB6 := Lib.hid (HB5.out.trans (hb.mono HB5.out.size)); clear hb))
          go_roundw
          case rel => exact ⟨k + 1, by omega, by go_num, HB6.out⟩
          case measure => simp [intOf]; omega
    · obtain rfl : k = bs.length := by omega
      go_wp2_with fail
      go_ret
      exact ⟨rfl, (HB1.out.trans (HB2.out.mono HB1.out.size)).trans (HB3.out.mono (Nat.le_trans HB1.out.size HB2.out.size))⟩
end Go.Proofs.Ytcbofikjcgdjmaa
