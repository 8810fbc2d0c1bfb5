/- The walk of LoopsFind. -/
import Derived.Test.YtcbofikjcgdjmaaF7
import Derived.Test.YtcbofikjcgdjmaaC2
import Derived.Test.YtcbofikjcgdjmaaB25
namespace Go.Proofs.Ytcbofikjcgdjmaa
set_option linter.unusedVariables false
set_option linter.unusedSimpArgs false
open Go.RowKit

set_option maxRecDepth 100000 in
set_option maxHeartbeats 4000000 in
theorem find5_big (A B : Option Addr) (bs : List Bk) (pv : List (List Int)) (c d : Nat) (w : World) (h : BV w A bs) (h' : RV w B pv) (hz : GZ bs pv) (h14 : 14 < bs.length) :
    Calls Try.prog 5 #[.agg #[.slice A bs.length c, .slice B pv.length d]] w fun e w' => e = .returned (.bool true) ∧ Below w.heap.size w w' := by
  have HN := Lib.hid (fun W h h' => next21_no A B bs pv c d W h h' hz (.inl h14))
  have HF := Lib.hid (fun W h h' => find20_any A B bs pv c d W h h' hz)
  have HS := Lib.hid h
  have HT := Lib.hid h'
  have q1 : decide ((14 : Int) < (bs.length : Int)) = true := by simpa using (by omega : (14 : Int) < (bs.length : Int))
  clear h h' hz h14
  go_enter Try.func5, Try.ntmps5
  go_wp2_with (first
    | (go_at_call 11; refine (awake11 _).mono ?_; rintro e W1 ⟨rfl, hb⟩
       have y0 := (hb.cell (p := ⟨w.heap.size, 0, none⟩) (by simp)).trans (cell_new' _ _ #[.slice A bs.length c, .slice B pv.length d] _ _ _ rfl rfl)
       have y1 := (hb.cell (p := ⟨w.heap.size, 1, none⟩) (by simp)).trans (cell_new' _ _ #[.slice A bs.length c, .slice B pv.length d] _ _ _ rfl rfl)
       have hg : w.heap.size < W1.heap.size := by have := hb.size; simp at this; omega
       have HB1 := Lib.hid (below_through hb)
       clear hb)
    | (go_at_call 20; refine (HF.out _ (HS.out.step HB1.out) (HT.out.step HB1.out)).mono ?_; rintro e W2 ⟨L, n', cap, q, k, rfl, _, _, hb⟩
       have y02 := (hb.cell (p := ⟨w.heap.size, 0, none⟩) hg).trans y0
       have y12 := (hb.cell (p := ⟨w.heap.size, 1, none⟩) hg).trans y1
       have hg2 : w.heap.size < W2.heap.size := Nat.lt_of_lt_of_le hg hb.size
       have HB2 := Lib.hid (HB1.out.trans (hb.mono HB1.out.size))
       clear hb y0 y1 HF)
    | (go_at_call 21; refine (HN.out _ (HS.out.step HB2.out) (HT.out.step HB2.out)).mono ?_; rintro e W3 ⟨rfl, hb⟩
       have y03 := (hb.cell (p := ⟨w.heap.size, 0, none⟩) hg2).trans y02
       have HB3 := Lib.hid (HB2.out.trans (hb.mono HB2.out.size))
       clear hb y02 y12 HN))
  go_ret
  exact ⟨rfl, HB3.out⟩
set_option maxRecDepth 100000 in
set_option maxHeartbeats 4000000 in
theorem find5_bad (A B : Option Addr) (bs : List Bk) (pv : List (List Int)) (c d : Nat) (w : World) (h : BV w A bs) (h' : RV w B pv) (hz : GZ bs pv) (h14 : bs.length ≤ 14) (hv : validB bs pv = false) :
    Calls Try.prog 5 #[.agg #[.slice A bs.length c, .slice B pv.length d]] w fun e w' => e = .returned (.bool true) ∧ Below w.heap.size w w' := by
  have HN := Lib.hid (fun W h h' => next21_no A B bs pv c d W h h' hz (.inr hv))
  have HF := Lib.hid (fun W h h' => find20_no A B bs pv c d W h h' hz hv)
  have HS := Lib.hid h
  have HT := Lib.hid h'
  have q1 : decide ((14 : Int) < (bs.length : Int)) = false := by simpa using (by omega : ¬ (14 : Int) < (bs.length : Int))
  clear h h' hz h14 hv
  go_enter Try.func5, Try.ntmps5
  go_wp2_with (first
    | (go_at_call 11; refine (awake11 _).mono ?_; rintro e W1 ⟨rfl, hb⟩
       have y0 := (hb.cell (p := ⟨w.heap.size, 0, none⟩) (by simp)).trans (cell_new' _ _ #[.slice A bs.length c, .slice B pv.length d] _ _ _ rfl rfl)
       have y1 := (hb.cell (p := ⟨w.heap.size, 1, none⟩) (by simp)).trans (cell_new' _ _ #[.slice A bs.length c, .slice B pv.length d] _ _ _ rfl rfl)
       have hg : w.heap.size < W1.heap.size := by have := hb.size; simp at this; omega
       have HB1 := Lib.hid (below_through hb)
       clear hb)
    | (go_at_call 20; refine (HF.out _ (HS.out.step HB1.out) (HT.out.step HB1.out)).mono ?_; rintro e W2 ⟨rfl, hb⟩
       have y02 := (hb.cell (p := ⟨w.heap.size, 0, none⟩) hg).trans y0
       have y12 := (hb.cell (p := ⟨w.heap.size, 1, none⟩) hg).trans y1
       have hg2 : w.heap.size < W2.heap.size := Nat.lt_of_lt_of_le hg hb.size
       have HB2 := Lib.hid (HB1.out.trans (hb.mono HB1.out.size))
       clear hb y0 y1 HF)
    | (go_at_call 21; refine (HN.out _ (HS.out.step HB2.out) (HT.out.step HB2.out)).mono ?_; rintro e W3 ⟨rfl, hb⟩
       have y03 := (hb.cell (p := ⟨w.heap.size, 0, none⟩) hg2).trans y02
       have HB3 := Lib.hid (HB2.out.trans (hb.mono HB2.out.size))
       clear hb y02 y12 HN))
  go_ret
  exact ⟨rfl, HB3.out⟩
set_option maxRecDepth 100000 in
set_option maxHeartbeats 4000000 in
theorem find5_irr (A B : Option Addr) (bs : List Bk) (pv : List (List Int)) (c d : Nat) (w : World) (h : BV w A bs) (h' : RV w B pv) (hz : GZ bs pv) (h14 : bs.length ≤ 14) (hv : validB bs pv = true)
    (f : Nat) (R : Nat → Int) (hR : treeF f bs pv = some R) (hdom : ∀ a b : Nat, a < bs.length → b < bs.length → (domB ((List.range bs.length).map R) a b = true ↔ Dm (nxN bs) a b)) (q : Int × Int) (hq : findE bs R = some q) :
    Calls Try.prog 5 #[.agg #[.slice A bs.length c, .slice B pv.length d]] w fun e w' => e = .returned (.bool true) ∧ Below w.heap.size w w' := by
  have HN := Lib.hid (fun W h h' => next21 A B bs pv c d W h h' hz h14 hv)
  have HF := Lib.hid (fun W h h' => (find20_main A B bs pv c d W h h' hz hv f R hR).mono fun e w' hh => (⟨hh.1 q hq, hh.2.2⟩ : e = .returned (.tuple #[.slice none 0 0, .int .i64 q.2, .int .i64 16]) ∧ Below W.heap.size W w'))
  have hw : wrF bs = q.2 := by rw [wrF_eq hv hdom, hq]
  have HW := Lib.hid (fun R' c' W h => (by have := wrong22 R' bs pv c' W h hv h14; rw [hw] at this; exact this : Calls Try.prog 22 #[.slice R' bs.length c'] W fun e w' => e = .returned (.int .i64 q.2) ∧ Below W.heap.size W w'))
  have hq0 : 0 ≤ q.2 := by
    have hm := List.mem_of_find?_eq_some hq
    obtain ⟨j, hj, _, h2⟩ := mem_edgK.1 hm
    exact (nx_nonneg hv hj h2).1
  obtain ⟨x, hx⟩ : ∃ x, q.2 = x := ⟨_, rfl⟩
  rw [hx] at hq0
  simp only [hx] at HF HW
  have HS := Lib.hid h
  have HT := Lib.hid h'
  have q1 : decide (0 ≤ x) = true := by simpa using hq0
  clear h h' hz h14 hv hR hdom hq hw hx
  go_enter Try.func5, Try.ntmps5
  go_wp2_with (first
    | (go_at_call 11; refine (awake11 _).mono ?_; rintro e W1 ⟨rfl, hb⟩
       have y0 := (hb.cell (p := ⟨w.heap.size, 0, none⟩) (by simp)).trans (cell_new' _ _ #[.slice A bs.length c, .slice B pv.length d] _ _ _ rfl rfl)
       have y1 := (hb.cell (p := ⟨w.heap.size, 1, none⟩) (by simp)).trans (cell_new' _ _ #[.slice A bs.length c, .slice B pv.length d] _ _ _ rfl rfl)
       have hg : w.heap.size < W1.heap.size := by have := hb.size; simp at this; omega
       have HB1 := Lib.hid (below_through hb)
       clear hb)
    | (go_at_call 20; refine (HF.out _ (HS.out.step HB1.out) (HT.out.step HB1.out)).mono ?_; rintro e W2 ⟨rfl, hb⟩
       have y02 := (hb.cell (p := ⟨w.heap.size, 0, none⟩) hg).trans y0
       have y12 := (hb.cell (p := ⟨w.heap.size, 1, none⟩) hg).trans y1
       have HB2 := Lib.hid (HB1.out.trans (hb.mono HB1.out.size))
       clear hb y0 y1 HF)
    | (go_at_call 21; refine (HN.out _ (HS.out.step HB2.out) (HT.out.step HB2.out)).mono ?_; rintro e W3 ⟨⟨R', cap', rfl, _, hRV⟩, hb⟩
       have HRV := Lib.hid hRV
       have HB3 := Lib.hid (HB2.out.trans (hb.mono HB2.out.size))
       clear hb y02 y12 HN hRV)
    | (go_at_call 22; refine (HW.out _ _ _ HRV.out).mono ?_; rintro e W4 ⟨rfl, hb⟩
       have HB4 := Lib.hid (HB3.out.trans (hb.mono HB3.out.size))
       clear hb HW))
  go_ret
  exact ⟨rfl, HB4.out⟩
set_option maxRecDepth 100000 in
set_option maxHeartbeats 8000000 in
theorem find5_red (A B : Option Addr) (bs : List Bk) (pv : List (List Int)) (c d : Nat) (w : World) (h : BV w A bs) (h' : RV w B pv) (hz : GZ bs pv) (h14 : bs.length ≤ 14) (hv : validB bs pv = true)
    (f : Nat) (R : Nat → Int) (hR : treeF f bs pv = some R) (hdom : ∀ a b : Nat, a < bs.length → b < bs.length → (domB ((List.range bs.length).map R) a b = true ↔ Dm (nxN bs) a b)) (hq : findE bs R = none) :
    Calls Try.prog 5 #[.agg #[.slice A bs.length c, .slice B pv.length d]] w fun e w' => e = .returned (.bool true) ∧ Below w.heap.size w w' := by
  have Rd : Rdc bs := (findE_none hv hdom).1 hq
  have HN := Lib.hid (fun W h h' => next21 A B bs pv c d W h h' hz h14 hv)
  have HF := Lib.hid (fun W h h' => (find20_main A B bs pv c d W h h' hz hv f R hR).mono fun e w' hh => (⟨hh.2.1 hq, hh.2.2⟩ : (∃ L cap, e = .returned (.tuple #[.slice L (lsF bs pv).length cap, .int .i64 (-1), .int .i64 0]) ∧ LV w' L (lsF bs pv)) ∧ Below W.heap.size W w'))
  have hw : wrF bs = -1 := by rw [wrF_eq hv hdom, hq]
  have HW := Lib.hid (fun R' c' W h => (by have := wrong22 R' bs pv c' W h hv h14; rw [hw] at this; exact this : Calls Try.prog 22 #[.slice R' bs.length c'] W fun e w' => e = .returned (.int .i64 (-1)) ∧ Below W.heap.size W w'))
  have hlq : (lsF bs pv).length = (ls0 bs pv).length := by simp [lsF]
  have HFI := Lib.hid (fun R' c' W h => (by have := find23 R' bs pv c' W h hv h14; rw [lsQ_eq hv Rd, lsM_all, ← hlq] at this; exact this : Calls Try.prog 23 #[.slice R' bs.length c'] W fun e w' => (∃ L cap, e = .returned (.slice L (lsF bs pv).length cap) ∧ LV w' L (lsF bs pv)) ∧ Below W.heap.size W w'))
  have hlz : LZ (lsF bs pv) := by rw [← lsM_all]; exact lsM_LZ (ls0_LZ bs pv hz.len hz.edges) _
  have hll : (lsF bs pv).length ≤ 1048576 := by rw [lsF_length]; have := headF_len bs; omega
  obtain ⟨ls, hls⟩ : ∃ ls, lsF bs pv = ls := ⟨_, rfl⟩
  rw [hls] at hlz hll
  simp only [hls] at HF HFI
  have HLZ := Lib.hid hlz
  have HS := Lib.hid h
  have HT := Lib.hid h'
  clear h h' hz h14 hv hR hdom hq hw hls hlq hlz Rd
  go_enter Try.func5, Try.ntmps5
  go_wp2_with (first
    | (go_at_call 11; refine (awake11 _).mono ?_; rintro e W1 ⟨rfl, hb⟩
       have y0 := (hb.cell (p := ⟨w.heap.size, 0, none⟩) (by simp)).trans (cell_new' _ _ #[.slice A bs.length c, .slice B pv.length d] _ _ _ rfl rfl)
       have y1 := (hb.cell (p := ⟨w.heap.size, 1, none⟩) (by simp)).trans (cell_new' _ _ #[.slice A bs.length c, .slice B pv.length d] _ _ _ rfl rfl)
       have hg : w.heap.size < W1.heap.size := by have := hb.size; simp at this; omega
       have HB1 := Lib.hid (below_through hb)
       clear hb)
    | (go_at_call 20; refine (HF.out _ (HS.out.step HB1.out) (HT.out.step HB1.out)).mono ?_; rintro e W2 ⟨⟨L, cap, rfl, hLV⟩, hb⟩
       have y02 := (hb.cell (p := ⟨w.heap.size, 0, none⟩) hg).trans y0
       have y12 := (hb.cell (p := ⟨w.heap.size, 1, none⟩) hg).trans y1
       have HL2 := Lib.hid hLV
       have HB2 := Lib.hid (HB1.out.trans (hb.mono HB1.out.size))
       clear hb y0 y1 HF hLV)
    | (go_at_call 21; refine (HN.out _ (HS.out.step HB2.out) (HT.out.step HB2.out)).mono ?_; rintro e W3 ⟨⟨R', cap', rfl, _, hRV⟩, hb⟩
       have HRV := Lib.hid hRV
       have HL3 := Lib.hid (HL2.out.step hb)
       have HB3 := Lib.hid (HB2.out.trans (hb.mono HB2.out.size))
       clear hb y02 y12 HN hRV HL2)
    | (go_at_call 22; refine (HW.out _ _ _ HRV.out).mono ?_; rintro e W4 ⟨rfl, hb⟩
       have HL4 := Lib.hid (HL3.out.step hb)
       have HRV4 := Lib.hid (HRV.out.step hb)
       have HB4 := Lib.hid (HB3.out.trans (hb.mono HB3.out.size))
       clear hb HW HL3)
    | (go_at_call 23; refine (HFI.out _ _ _ HRV4.out).mono ?_; rintro e W5 ⟨⟨M, cm, rfl, hLV⟩, hb⟩
       have HL5 := Lib.hid (HL4.out.step hb)
       have HM5 := Lib.hid hLV
       have HB5 := Lib.hid (HB4.out.trans (hb.mono HB4.out.size))
       clear hb HFI HL4 hLV))
  go_loopw [78] (fun i wr => ∃ k : Nat, k ≤ ls.length ∧ i = .int .i64 k ∧ Below W5.heap.size W5 wr) (fun i _ => ls.length - (intOf i).toNat)
  case atStart => exact ⟨0, by omega, rfl, Below.refl _ _⟩
  case round =>
    obtain ⟨k, hk, rfl, hB⟩ := hrel
    rename World => X
    have HBX := Lib.hid hB
    have hsX := hB.size
    clear hB
    by_cases hkt : k < ls.length
    · obtain ⟨b1, o1, rfl, hb1, hc1⟩ := (HL5.out.step HBX.out) (by omega)
      obtain ⟨b2, o2, rfl, hb2, hc2⟩ := (HM5.out.step HBX.out) (by omega)
      obtain ⟨A1, c1, B1, d1, g0, g1, g2, g3, hA1, hB1⟩ := hc1 k hkt
      obtain ⟨A2, c2, B2, d2, f0, f1, f2, f3, hA2, hB2⟩ := hc2 k hkt
      have hz := HLZ.out k hkt
      obtain ⟨y, hy⟩ : ∃ y, nthL ls k = y := ⟨_, rfl⟩
      rw [hy] at g0 g1 g2 g3 f0 f1 f2 f3 hA1 hB1 hA2 hB2 hz
      obtain ⟨hd, bl, la, pa⟩ := y
      dsimp only at g0 g1 g2 g3 f0 f1 f2 f3 hA1 hB1 hA2 hB2 hz
      have HA1 := Lib.hid hA1
      have HA2 := Lib.hid hA2
      have HLA1 := Lib.hid hB1
      have HLA2 := Lib.hid hB2
      have HI1 := Lib.hid (fun W h h' => (by have := ints24 A1 A2 bl bl c1 c2 W h h' hz.1 hz.1; rw [beq_self_eq_true] at this; exact this : Calls Try.prog 24 #[.slice A1 bl.length c1, .slice A2 bl.length c2] W fun e w' => e = .returned (.bool true) ∧ Below W.heap.size W w'))
      have HI2 := Lib.hid (fun W h h' => (by have := ints24 B1 B2 la la d1 d2 W h h' hz.2 hz.2; rw [beq_self_eq_true] at this; exact this : Calls Try.prog 24 #[.slice B1 la.length d1, .slice B2 la.length d2] W fun e w' => e = .returned (.bool true) ∧ Below W.heap.size W w'))
      clear hc1 hc2 hy hA1 hA2 hB1 hB2 hz
      go_wp2_with (first
        | (go_at_call 24; refine (HI1.out _ ((HA1.out.alloc _).alloc _) ((HA2.out.alloc _).alloc _)).mono ?_; rintro e W6 ⟨rfl, hb⟩
           have z1 := (hb.cell (p := ⟨X.heap.size, 2, none⟩) (by simp; omega)).trans (show _ = some (.slice B1 la.length d1) by simp)
           have z2 := (hb.cell (p := ⟨X.heap.size + 1, 2, none⟩) (by simp)).trans (show _ = some (.slice B2 la.length d2) by simp)
           have hb6 : Below X.heap.size X W6 := (below_new (below_new (Below.refl _ X) _) _).trans (hb.mono (by simp; omega))
           have HB6 := Lib.hid hb6
           clear hb hb6 HI1)
        | (go_at_call 24; refine (HI2.out _ (HLA1.out.step HB6.out) (HLA2.out.step HB6.out)).mono ?_; rintro e W7 ⟨rfl, hb⟩
           have HB7 := Lib.hid (HBX.out.trans ((HB6.out.trans (hb.mono HB6.out.size)).mono hsX))
           clear hb HI2))
      go_roundw
      case rel => exact ⟨k + 1, by omega, by go_num, HB7.out⟩
      case measure => simp [intOf]; omega
    · obtain rfl : k = ls.length := by omega
      go_wp2_with fail
      go_ret
      exact ⟨rfl, HB5.out.trans (HBX.out.mono HB5.out.size)⟩
theorem find5 (A B : Option Addr) (bs : List Bk) (pv : List (List Int)) (c d : Nat) (w : World) (h : BV w A bs) (h' : RV w B pv) (hz : GZ bs pv) :
    Calls Try.prog 5 #[.agg #[.slice A bs.length c, .slice B pv.length d]] w fun e w' => e = .returned (.bool true) ∧ Below w.heap.size w w' := by
  by_cases h14 : 14 < bs.length
  · exact find5_big A B bs pv c d w h h' hz h14
  cases hv : validB bs pv with
  | false => exact find5_bad A B bs pv c d w h h' hz (by omega) hv
  | true =>
    obtain ⟨f, R, hR, hdom⟩ := tree_ok hv
    cases hq : findE bs R with
    | some q => exact find5_irr A B bs pv c d w h h' hz (by omega) hv f R hR hdom q hq
    | none => exact find5_red A B bs pv c d w h h' hz (by omega) hv f R hR hdom hq
end Go.Proofs.Ytcbofikjcgdjmaa
