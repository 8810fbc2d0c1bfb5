/- The walk of LoopsWalks. -/
import Derived.Test.YtcbofikjcgdjmaaC7
namespace Go.Proofs.Ytcbofikjcgdjmaa
set_option linter.unusedVariables false
set_option linter.unusedSimpArgs false
open Go.RowKit Go.Maps

set_option maxRecDepth 100000 in
set_option maxHeartbeats 16000000 in
theorem walks9 (A B U : Option Addr) (bs : List Bk) (pv : List (List Int)) (us : List Int) (c d cu : Nat) (w : World) (h : BV w A bs) (h' : RV w B pv) (hz : GZ bs pv) (hu : UV w U us) (huz : ∀ j, j < us.length → 0 ≤ us.getD j 0 ∧ us.getD j 0 < 256) :
    Calls Try.prog 9 #[.agg #[.slice A bs.length c, .slice B pv.length d], .slice U us.length cu] w fun e w' => e = .returned (.bool true) ∧ Below w.heap.size w w' := by
  have HF := Lib.hid (fun W h h' => found19 A B bs pv c d W h h' hz)
  have HS := Lib.hid h
  have HT := Lib.hid h'
  have HZ := Lib.hid hz
  have HU := Lib.hid hu
  have HUZ := Lib.hid huz
  clear h h' hz hu huz
  go_enter Try.func9, Try.ntmps9
  go_wp2_with (first
    | (go_at_call 11; refine (awake11 _).mono ?_; rintro e W1 ⟨rfl, hb⟩
       have y0 := (hb.cell (p := ⟨w.heap.size, 0, none⟩) (by simp)).trans (cell_new' _ _ #[.slice A bs.length c, .slice B pv.length d] _ _ _ rfl rfl)
       have y1 := (hb.cell (p := ⟨w.heap.size, 1, none⟩) (by simp)).trans (cell_new' _ _ #[.slice A bs.length c, .slice B pv.length d] _ _ _ rfl rfl)
       have hg : w.heap.size < W1.heap.size := by have := hb.size; simp at this; omega
       have HB1 := Lib.hid (below_through hb)
       clear hb))
  refine (HF.out _ (HS.out.step HB1.out) (HT.out.step HB1.out)).mono ?_
  rintro e W2 ⟨hor, hb⟩
  rcases hor with ⟨R, n, cap, L, m, cap', rfl⟩ | ⟨h14, hv, hRd, R, cap, L, cap', rfl, hcap, hRV, hLV⟩
  · have HB2 := Lib.hid hb
    clear hb y0 y1 hg
    go_wp2_with fail
    go_ret
    exact ⟨rfl, HB1.out.trans (HB2.out.mono HB1.out.size)⟩
  by_cases h60 : 60 < us.length
  · have q1 : decide ((60 : Int) < (us.length : Int)) = true := by simpa using (by omega : (60 : Int) < (us.length : Int))
    have HB2 := Lib.hid hb
    clear hb y0 y1 hg h60 hRV hLV
    go_wp2_with fail
    go_ret
    exact ⟨rfl, HB1.out.trans (HB2.out.mono HB1.out.size)⟩
  have q1 : decide ((60 : Int) < (us.length : Int)) = false := by simpa using (by omega : ¬ (60 : Int) < (us.length : Int))
  have H60 := Lib.hid (show us.length ≤ 60 by omega)
  have hlen : (lsF bs pv).length ≤ 14 := by rw [lsF_length]; exact Nat.le_trans (headF_len bs) h14
  have hLZ : LZ (lsF bs pv) := by rw [← lsM_all]; exact lsM_LZ (ls0_LZ bs pv HZ.out.len HZ.out.edges) _
  have hLF := lf_of hv hRd
  obtain ⟨H, hH⟩ : ∃ H : Nat → Nat, (fun i => (headF bs).getD i 0) = H := ⟨_, rfl⟩
  rw [hH] at hLF
  obtain ⟨f, idf, htree, hdom⟩ := tree_ok hv
  have hO := ord_of hv
  have hne := (validB_okB hv).1
  obtain ⟨ls, hls⟩ : ∃ ls, lsF bs pv = ls := ⟨_, rfl⟩
  rw [hls] at hlen hLZ hLF hLV
  rw [hls]
  have HB2 := Lib.hid hb
  have HSF := Lib.hid (fun b t hb ht => stepF_of hv hRd hLF hdom (b := b) (t := t) hb ht)
  have HNN := Lib.hid (fun (j : Nat) (hj : j < bs.length) (t : Int) ht => nx_nonneg hv hj (t := t) ht)
  have HRK := Lib.hid (show (∀ t, 0 ≤ rkN bs t → t < bs.length) ∧ rkN bs 0 = 0 from ⟨hO.lt, hO.zero⟩)
  have HLV := Lib.hid hLV
  have HRV := Lib.hid hRV
  have HLZ := Lib.hid hLZ
  have HH14 := Lib.hid h14
  have HNE := Lib.hid hne
  have y0' := (hb.cell (p := ⟨w.heap.size, 0, none⟩) hg).trans y0
  have y1' := (hb.cell (p := ⟨w.heap.size, 1, none⟩) hg).trans y1
  have hg' : w.heap.size < W2.heap.size := Nat.lt_of_lt_of_le hg hb.size
  have HY := Lib.hid (show W2.cell? ⟨w.heap.size, 0, none⟩ = some (.slice A bs.length c) ∧ W2.cell? ⟨w.heap.size, 1, none⟩ = some (.slice B pv.length d) from ⟨y0', y1'⟩)
  have hmm := @run_makeMap Try.prog
  have hmk := run_make_row' (P := Try.prog) 28 3 (.int .i64 0) 8 Try.underlying28 info3r rfl .i64 .i64 ls.length (by omega) (by omega)
  clear hb y0 y1 hg hv hRd hRV hLV hLF hH hls hLZ HF hcap htree hdom hO hne y0' y1' h60 h14
  go_upto_region 8 with fail
  go_cut [10, 11] (fun s10 s11 wx => ∃ pe pr : Nat, s10 = .slice (some ⟨pe, 0, none⟩) ls.length ls.length ∧ s11 = .slice (some ⟨pr, 0, none⟩) ls.length ls.length ∧ W3 W2 W2.heap.size W2.heap.size pe pr ls.length (fun _ => 0) (fun _ => 0) (fun _ => 0) wx)
  case first =>
    go_region
    all_goals go_wp2_with fail
    all_goals go_meet
    · exact ⟨_, _, rfl, rfl, W3.start12 W2 ls.length⟩
    · exact ⟨_, _, rfl, rfl, W3.start21 W2 ls.length⟩
  case rest =>
    obtain ⟨pe, pr, rfl, rfl, hW⟩ := hcut
    rename World => W3a
    have HW0 := Lib.hid hW
    obtain ⟨N, hN⟩ : ∃ N, W2.heap.size = N := ⟨_, rfl⟩
    have HN := Lib.hid hN
    rw [hN] at HW0 hg'
    rw [hN]
    clear hW hN
    go_wp2_with fail
    go_loopw [50] (fun i wr => ∃ (k : Nat) (p : Nat → Nat), k ≤ ls.length ∧ i = .int .i64 k ∧ W3 W2 N N pe pr ls.length p p (fun _ => 0) wr ∧ (∀ i, p i ≤ 1) ∧ ∀ i, k ≤ i → p i = 0) (fun i _ => ls.length - (intOf i).toNat)
    case atStart => exact ⟨0, _, by omega, rfl, HW0.out, fun i => by omega, fun i _ => rfl⟩
    case round =>
      obtain ⟨k, p, hk, rfl, hW, hp1, hp0⟩ := hrel
      rename World => W4
      have HW4 := Lib.hid hW
      have HP1 := Lib.hid hp1
      have HP0 := Lib.hid hp0
      clear hW hp1 hp0
      by_cases hlt : k < ls.length
      · obtain ⟨b, off, rfl, hbl, hc⟩ := HLV.out (by omega)
        obtain ⟨A1, c1, B1, d1, g0, g1, g2, g3, hA1, hB1⟩ := hc k hlt
        rw [HN.out] at hbl
        have G0 := (HW4.out.bel.cell (p := ⟨b, off + k * 4, none⟩) hbl).trans g0
        have G1 := (HW4.out.bel.cell (p := ⟨b, off + k * 4 + 1, none⟩) hbl).trans g1
        have G2 := (HW4.out.bel.cell (p := ⟨b, off + k * 4 + 2, none⟩) hbl).trans g2
        have G3 := (HW4.out.bel.cell (p := ⟨b, off + k * 4 + 3, none⟩) hbl).trans g3
        clear g0 g1 g2 g3 hA1 hB1 hc
        obtain ⟨y, hy⟩ : ∃ y, nthL ls k = y := ⟨_, rfl⟩
        rw [hy] at G0 G1 G2 G3
        obtain ⟨hd, bl, la, pa⟩ := y
        dsimp only at G0 G1 G2 G3
        have hpk := HP0.out k (Nat.le_refl _)
        have r1 := HW4.out.rp.cell hlt
        have r2 := HW4.out.re.cell hlt
        rw [hpk] at r1 r2
        have f1 := HW4.out.rp.frozen k
        have f2 := HW4.out.re.frozen k
        have hnp : N < W4.heap.size := HW4.out.rp.lt
        have hne : pe < W4.heap.size := HW4.out.re.lt
        have hd1 := HW4.out.d1
        clear hpk hy
        by_cases e : hd = 0
        · have e1 : (hd == 0) = true := by simpa using e
          clear e
          go_wp2_with fail
          go_roundw
          case rel =>
            refine ⟨k + 1, updN p k 1, by omega, by go_num, ((HW4.out.setP k 1).setE k 1).alloc _, fun i => ?_, fun i hi => ?_⟩
            · unfold updN; split
              · omega
              · exact HP1.out i
            · unfold updN; rw [if_neg (by omega)]; exact HP0.out i (by omega)
          case measure => simp [intOf]; omega
        · have e1 : (hd == 0) = false := by simpa using e
          clear e
          go_wp2_with fail
          go_roundw
          case rel => exact ⟨k + 1, p, by omega, by go_num, HW4.out.alloc _, HP1.out, fun i hi => HP0.out i (by omega)⟩
          case measure => simp [intOf]; omega
      · obtain rfl : k = ls.length := by omega
        have hm0 := HMap.made W4
        have hwf0 : wf 0 := wf_of (by omega) (by omega)
        obtain ⟨Wb, hup, hMb, hgb⟩ := hm0.put Try.underlying58 (by unfold maxLen; omega) hwf0 (.bool true)
        rw [fB_start] at hMb
        have hnb : N ≤ W4.heap.size := Nat.le_of_lt HW4.out.rp.lt
        have HWb := Lib.hid ((HW4.out.alloc (.map #[] 0)).map hm0 hnb hgb)
        have HMb := Lib.hid hMb
        clear hm0 hMb hgb
        go_wp2_with fail
        clear hup
        go_loopw [8, 14, 75] (fun bv mv i wr => ∃ (s b mb q : Nat) (sn : Nat → Bool) (p e r : Nat → Nat), bv = .int .i64 b ∧ mv = .map (some mb) ∧ i = .int .i64 s ∧ s ≤ us.length ∧ W3 W2 N N pe pr ls.length p e r wr ∧ HMap wr mb q (fB sn) ∧ N ≤ mb ∧ q ≤ s + 1 ∧ 0 ≤ rkN bs b ∧ (∀ t, sn t = true → rkN bs t ≤ rkN bs b) ∧ ∀ i, p i = e i + r i ∧ p i ≤ 1 + s) (fun _ _ i _ => us.length - (intOf i).toNat)
        case atStart =>
          have hs0 : ∀ t, (fun t => decide (t = 0)) t = true → rkN bs t ≤ rkN bs 0 := fun t ht => by
            have h0 : t = 0 := by simpa using ht
            rw [h0]; exact Int.le_refl _
          have hs1 : ∀ i, p i = p i + 0 ∧ p i ≤ 1 + 0 := fun i => ⟨by omega, by have := HP1.out i; omega⟩
          exact ⟨0, 0, _, 1, _, p, p, _, rfl, rfl, rfl, by omega, HWb.out, HMb.out, hnb, by omega, by rw [HRK.out.2]; omega, hs0, hs1⟩
        case round =>
          obtain ⟨s, b, mb, q, sn, p, e, r, rfl, rfl, rfl, hs, hW, hM, hmb, hq, hrb, hsn, hsum⟩ := hrel
          rename World => W5
          have HW5 := Lib.hid hW
          have HM5 := Lib.hid hM
          have HSN := Lib.hid hsn
          have HSUM := Lib.hid hsum
          have HRB := Lib.hid hrb
          have hbn := HRK.out.1 b hrb
          have h14 := HH14.out
          clear hW hM hsn hsum hrb
          by_cases hst : s < us.length
          · obtain ⟨ub, uo, rfl, hub, huc⟩ := ((HU.out.step HB1.out).step HB2.out) (by omega)
            rw [HN.out] at hub
            have gu := (HW5.out.bel.cell (p := ⟨ub, uo + s, none⟩) hub).trans (huc s hst)
            have hux := HUZ.out s hst
            obtain ⟨x, hx⟩ : ∃ x, us.getD s 0 = x := ⟨_, rfl⟩
            rw [hx] at gu hux
            obtain ⟨rb, ro, rfl, hrb, hrc⟩ := HRV.out (by rw [nxs_length]; omega)
            obtain ⟨A2, c2, r0, hA2⟩ := hrc b (by rw [nxs_length]; exact hbn)
            rw [nxs_at bs hbn] at r0 hA2
            rw [HN.out] at hrb
            replace r0 := (HW5.out.bel.cell (p := ⟨rb, ro + b, none⟩) hrb).trans r0
            have hnz := HZ.out.nx b hbn
            have hsf := fun t ht => HSF.out b t HRB.out ht
            have hnn := HNN.out b hbn
            have hgm : ∀ j, j < (nthB bs b).nx.length → (nthB bs b).nx.getD j 0 ∈ (nthB bs b).nx := fun j hj => getD_mem hj
            obtain ⟨nx, hnx⟩ : ∃ nx, (nthB bs b).nx = nx := ⟨_, rfl⟩
            rw [hnx] at r0 hA2 hnz hnn hgm
            simp only [hnx] at hsf
            have HSF5 := Lib.hid hsf
            have HNN5 := Lib.hid hnn
            have HGM := Lib.hid hgm
            have HNX := Lib.hid hA2
            clear hrc hA2 hnx hx huc hsf hnn hgm
            by_cases hl0 : nx.length = 0
            · have e1 : ((nx.length : Int) == 0) = true := by simpa using hl0
              clear hl0
              go_wp2_with fail
              go_loopw [158] (fun i wr => ∃ k : Nat, k ≤ ls.length ∧ i = .int .i64 k ∧ W3 W2 N N pe pr ls.length p e r wr) (fun i _ => ls.length - (intOf i).toNat)
              case atStart => exact ⟨0, by omega, rfl, HW5.out⟩
              case round =>
                obtain ⟨k, hk, rfl, hW⟩ := hrel
                rename World => W8
                have HW8 := Lib.hid hW
                clear hW
                by_cases hlt : k < ls.length
                · have r1 := HW8.out.rp.cell hlt
                  have r2 := HW8.out.re.cell hlt
                  have r3 := HW8.out.rr.cell hlt
                  have hs := HSUM.out k
                  obtain ⟨pk, hpk⟩ : ∃ pk, p k = pk := ⟨_, rfl⟩
                  obtain ⟨ek, hek⟩ : ∃ ek, e k = ek := ⟨_, rfl⟩
                  obtain ⟨rk, hrk⟩ : ∃ rk, r k = rk := ⟨_, rfl⟩
                  rw [hpk, hek, hrk] at hs
                  rw [hpk] at r1
                  rw [hek] at r2
                  rw [hrk] at r3
                  have h60 := H60.out
                  have hsw : IntKind.i64.wrap ((ek : Int) + (rk : Int)) = (pk : Int) := by rw [Go.IntWalk.i64_in _ (by omega)]; omega
                  have hsn : ((pk : Int) != (pk : Int)) = false := by simp
                  clear hs hpk hek hrk
                  go_wp2_with fail
                  go_quiet (fail)
                  go_wp2_with fail
                  go_roundw
                  case rel => exact ⟨k + 1, by omega, by go_num, HW8.out.drewN _⟩
                  case measure => simp [intOf]; omega
                · obtain rfl : k = ls.length := by omega
                  go_wp2_with fail
                  go_ret
                  exact ⟨rfl, (HB1.out.trans (HB2.out.mono HB1.out.size)).trans (HW8.out.bel.mono (by have := HN.out; have := HB1.out.size; have := HB2.out.size; omega))⟩
            · have e1 : ((nx.length : Int) == 0) = false := by simpa using hl0
              have hl1 : 0 < nx.length := by omega
              obtain ⟨j, hj⟩ : ∃ j : Nat, Int.tmod x (nx.length : Int) = (j : Int) := ⟨(x % (nx.length : Int)).toNat, by
                rw [Int.tmod_eq_emod_of_nonneg hux.1, Int.toNat_of_nonneg (Int.emod_nonneg _ (by omega))]⟩
              have hjl : j < nx.length := by
                have h1 := Int.emod_lt_of_pos x (show (0 : Int) < (nx.length : Int) by omega)
                rw [Int.tmod_eq_emod_of_nonneg hux.1] at hj
                omega
              have hwj : IntKind.i64.wrap (j : Int) = (j : Int) := Go.IntWalk.i64_in _ (by omega)
              have hjl' : (j : Int) < (nx.length : Int) := by omega
              have hcv : IntKind.i64.wrap x = x := Go.IntWalk.i64_in _ (by omega)
              obtain ⟨b2, o2, rfl, hb2, hcx⟩ := HNX.out hl1
              rw [HN.out] at hb2
              have gx := (HW5.out.bel.cell (p := ⟨b2, o2 + j, none⟩) hb2).trans (hcx j hjl)
              have hmx := HGM.out j hjl
              obtain ⟨t, ht⟩ : ∃ t, nx.getD j 0 = t := ⟨_, rfl⟩
              rw [ht] at gx hmx
              have htn := HNN5.out t hmx
              obtain ⟨t, rfl⟩ : ∃ q : Nat, t = (q : Int) := ⟨t.toNat, by omega⟩
              have HST := Lib.hid (HSF5.out t hmx)
              clear hl0 hcx ht hmx
              go_wp2_with fail
              go_quiet (fail)
              clear hj hwj hcv gx r0 gu
              go_wp2_with fail
              go_loopw [18, 101] (fun bv i wr => ∃ (k : Nat) (bk : Bool) (p e r : Nat → Nat), bv = .bool bk ∧ i = .int .i64 k ∧ k ≤ ls.length ∧ W3 W2 N N pe pr ls.length p e r wr ∧ HMap wr mb q (fB sn) ∧ (bk = false → ∀ i, i < k → (nthL ls i).hd = (t : Int) → (nthL ls i).la.contains (b : Int) = false) ∧ ∀ i, p i = e i + r i ∧ p i ≤ 1 + s + (if i < k then 1 else 0)) (fun _ i _ => ls.length - (intOf i).toNat)
              case atStart => exact ⟨0, false, p, e, r, rfl, rfl, by omega, HW5.out.drewN _, HM5.out.drewN _, fun _ i hi => by omega, fun i => ⟨(HSUM.out i).1, by have := (HSUM.out i).2; omega⟩⟩
              case round =>
                obtain ⟨k, bk, p, e, r, rfl, rfl, hk, hW, hM, hbk, hsum⟩ := hrel
                rename World => W6
                have HW6 := Lib.hid hW
                have HM6 := Lib.hid hM
                have HBK := Lib.hid hbk
                have HSU6 := Lib.hid hsum
                clear hW hM hbk hsum
                by_cases hlt : k < ls.length
                · obtain ⟨lb, lo, rfl, hlb, hc⟩ := HLV.out (by omega)
                  obtain ⟨A1, c1, B1, d1, g0, g1, g2, g3, hA1, hB1⟩ := hc k hlt
                  rw [HN.out] at hlb
                  have G0 := (HW6.out.bel.cell (p := ⟨lb, lo + k * 4, none⟩) hlb).trans g0
                  have G1 := (HW6.out.bel.cell (p := ⟨lb, lo + k * 4 + 1, none⟩) hlb).trans g1
                  have G2 := (HW6.out.bel.cell (p := ⟨lb, lo + k * 4 + 2, none⟩) hlb).trans g2
                  have G3 := (HW6.out.bel.cell (p := ⟨lb, lo + k * 4 + 3, none⟩) hlb).trans g3
                  have hz1 := (HLZ.out k hlt).1
                  have hz2 := (HLZ.out k hlt).2
                  have hlat := HST.out.lat k hlt
                  have hcnt := HST.out.cnt k hlt
                  obtain ⟨y, hy⟩ : ∃ y, nthL ls k = y := ⟨_, rfl⟩
                  have HYK := Lib.hid hy
                  rw [hy] at G0 G1 G2 G3 hA1 hB1 hz1 hz2 hlat hcnt
                  obtain ⟨hd, bl, la, pa⟩ := y
                  dsimp only at G0 G1 G2 G3 hA1 hB1 hz1 hz2 hlat hcnt
                  have HA1 := Lib.hid hA1
                  have HB1' := Lib.hid hB1
                  clear g0 g1 g2 g3 hA1 hB1 hc hy
                  by_cases hdt : hd = (t : Int)
                  · subst hdt
                    have e2 : ((t : Int) != (t : Int)) = false := by simp
                    have hlat := hlat rfl
                    have hcnt := hcnt rfl
                    obtain ⟨r1, hr1⟩ : ∃ r1, la.contains (b : Int) = r1 := ⟨_, rfl⟩
                    have HR1 := Lib.hid hr1
                    have Hl := Lib.hid (fun W h => in12 B1 la d1 (b : Int) W h hz2)
                    simp only [hr1] at Hl
                    rw [← hlat, hr1] at hcnt
                    have HEN := Lib.hid (fun W (h : BV W A bs) (h1 : IV W A1 bl) (h2 : IV W B1 la) => entries17o A B bs pv.length c d ⟨(t : Int), bl, la, pa⟩ A1 B1 c1 d1 W h (by have := HH14.out; omega) (fun j hj => by have := HZ.out.nx j hj; omega) HZ.out.edges hz1 h1 h2)
                    obtain ⟨ents, hents⟩ : ∃ ents, ((edgK bs bs.length).filter fun q => entP ⟨(t : Int), bl, la, pa⟩ q.1 q.2) = ents := ⟨_, rfl⟩
                    have hel : ents.length ≤ 1099511627776 := by rw [← hents]; exact Nat.le_trans (List.length_filter_le _ _) HZ.out.edges
                    simp only [hents] at HEN
                    rw [hents] at hcnt
                    have HCN := Lib.hid hcnt
                    have q1 := HW6.out.rp.cell hlt
                    have q2 := HW6.out.rr.cell hlt
                    have f1 := HW6.out.rp.frozen k
                    have f2 := HW6.out.rr.frozen k
                    have hnp : N < W6.heap.size := HW6.out.rp.lt
                    have hne : pe < W6.heap.size := HW6.out.re.lt
                    have hnr : pr < W6.heap.size := HW6.out.rr.lt
                    have hd2 := HW6.out.d2
                    have hd2' : pr ≠ N := Ne.symm hd2
                    have hsk := HSU6.out k
                    rw [if_neg (by omega)] at hsk
                    have HSK := Lib.hid hsk
                    obtain ⟨pk, hpk⟩ : ∃ pk, p k = pk := ⟨_, rfl⟩
                    obtain ⟨rk, hrk⟩ : ∃ rk, r k = rk := ⟨_, rfl⟩
                    rw [hpk] at q1 hsk
                    rw [hrk] at q2 hsk
                    have HPK := Lib.hid hpk
                    have HRKK := Lib.hid hrk
                    have hpk60 : pk ≤ 62 := by have := H60.out; omega
                    have hrk60 : rk ≤ 62 := by omega
                    have z0 := (HW6.out.bel.cell (p := ⟨w.heap.size, 0, none⟩) hg').trans HY.out.1
                    have z1 := (HW6.out.bel.cell (p := ⟨w.heap.size, 1, none⟩) hg').trans HY.out.2
                    clear hr1 hlat hcnt hents hpk hrk hsk
                    have HIVB := Lib.hid (fun (W' : World) (A : Option Addr) (xs : List Int) (h : IV W2 A xs) (hb : Below N W2 W') => (h.step (HN.out ▸ hb) : IV W' A xs))
                    have HBVB := Lib.hid (fun (W' : World) (hb : Below N W2 W') => (((HS.out.step HB1.out).step HB2.out).step (HN.out ▸ hb) : BV W' A bs))
                    have hgW : w.heap.size < W6.heap.size := by omega
                    have hgN : w.heap.size ≠ N := by omega
                    have hgr : w.heap.size ≠ pr := by have := HW6.out.n3; omega
                    cases r1 with
                    | true =>
                      go_wp2_with (first
                        | (go_at_call 12; refine (Hl.out _ (HIVB.out _ _ _ HB1'.out ((HW6.out.setP' k (pk + 1) _ rfl).alloc _).bel)).mono ?_; rintro e' w1 ⟨rfl, hw1⟩; subst w1)
                        | (go_at_call 17; go_must (refine (HEN.out _ (HBVB.out _ (((HW6.out.setP' k (pk + 1) _ rfl).setR' k (rk + 1) _ rfl).alloc _).bel) (HIVB.out _ _ _ HA1.out (((HW6.out.setP' k (pk + 1) _ rfl).setR' k (rk + 1) _ rfl).alloc _).bel) (HIVB.out _ _ _ HB1'.out (((HW6.out.setP' k (pk + 1) _ rfl).setR' k (rk + 1) _ rfl).alloc _).bel)).mono ?_)
                           rintro e' W7 ⟨⟨R', cr, rfl, hE, hF⟩, hb⟩
                           have HW7 := Lib.hid ((((HW6.out.setP' k (pk + 1) _ rfl).setR' k (rk + 1) _ rfl).alloc _).below hb)
                           have HM7 := Lib.hid ((((HM6.out.setCell (q := ⟨N, k, none⟩) (HM6.out.ne_row HW6.out.rp) _).setCell (q := ⟨pr, k, none⟩) (HM6.out.ne_row HW6.out.rr) _).alloc _).below hb (by have := HM6.out.lt; simp; omega))
                           have HE7 := Lib.hid hE
                           have HF7 := Lib.hid (show Fresh W6.heap.size R' from hF.mono (by simp))
                           have hs7 : W6.heap.size < W7.heap.size := by have := hb.size; simp at this; omega
                           clear hb hE hF))
                      obtain ⟨ek, hek⟩ : ∃ ek, e k = ek := ⟨_, rfl⟩
                      have HEK := Lib.hid hek
                      have hek60 : ek ≤ 62 := by have := HSK.out; have := HPK.out; omega
                      have HBX0 := Lib.hid (Bex.refl W7.heap.size pe W7)
                      clear hek
                      go_loopw [130] (fun i wr => ∃ qd : Nat, qd ≤ ents.length ∧ i = .int .i64 qd ∧ W3 W2 N N pe pr ls.length (updN p k (pk + 1)) (updN e k (ek + cE ents ((b : Int), (t : Int)) qd)) (updN r k (rk + 1)) wr ∧ HMap wr mb q (fB sn) ∧ Bex W7.heap.size pe W7 wr) (fun i _ => ents.length - (intOf i).toNat)
                      case atStart => exact ⟨0, by omega, rfl, HW7.out.congr (fun _ => rfl) (fun i => by rw [← HEK.out]; exact (updN_self e k i).symm) (fun _ => rfl), HM7.out, HBX0.out⟩
                      case round =>
                        obtain ⟨qd, hqd, rfl, hW, hM, hX⟩ := hrel
                        rename World => W8
                        have HW8 := Lib.hid hW
                        have HM8 := Lib.hid hM
                        have HX8 := Lib.hid hX
                        clear hW hM hX
                        by_cases hqt : qd < ents.length
                        · obtain ⟨eb, eo, rfl, heb, hec⟩ := HE7.out (by omega)
                          have hne8 : eb ≠ pe := by have := HF7.out ⟨eb, eo, none⟩ rfl; have h2 : W6.heap.size ≤ eb := this; omega
                          have ex := (HX8.out.cellN (p := ⟨eb, eo + qd * 2, none⟩) heb hne8).trans (hec qd hqt).1
                          have ey := (HX8.out.cellN (p := ⟨eb, eo + qd * 2 + 1, none⟩) heb hne8).trans (hec qd hqt).2
                          have hce : cE ents ((b : Int), (t : Int)) (qd + 1) = cE ents ((b : Int), (t : Int)) qd + if nthE ents qd = ((b : Int), (t : Int)) then 1 else 0 := rfl
                          obtain ⟨⟨x1, y1⟩, hxy⟩ : ∃ z, nthE ents qd = z := ⟨_, rfl⟩
                          rw [hxy] at ex ey hce
                          dsimp only at ex ey
                          have s1 := HW8.out.re.cell hlt
                          rw [updN_at] at s1
                          have s2 := HW8.out.re.frozen k
                          have s3 : pe < W8.heap.size := HW8.out.re.lt
                          have s4 := cE_le ents ((b : Int), (t : Int)) qd
                          have s5 := HX8.out.size
                          obtain ⟨cq, hcq⟩ : ∃ cq, cE ents ((b : Int), (t : Int)) qd = cq := ⟨_, rfl⟩
                          rw [hcq] at s1 s4 hce
                          have HCQ := Lib.hid hcq
                          have HCE := Lib.hid hce
                          have hne := fun W => run_eql35 x1 y1 (b : Int) (t : Int) W
                          clear hec hxy hcq hce
                          by_cases hq : x1 = (b : Int) ∧ y1 = (t : Int)
                          · have hr : (x1 == (b : Int) && y1 == (t : Int)) = true := by simp [hq.1, hq.2]
                            have HQ := Lib.hid hq
                            clear hq
                            simp only [hr] at hne
                            go_wp2_with fail
                            go_roundw
                            case rel =>
                              refine ⟨qd + 1, by omega, by go_num, ((HW8.out.setE' k (ek + cq + 1) _ rfl).alloc _).congr (fun _ => rfl) (fun i => ?_) (fun _ => rfl), (HM8.out.setCell (q := ⟨pe, k, none⟩) (HM8.out.ne_row HW8.out.re) _).alloc _, (HX8.out.setC _ _).alloc (by simpa using s5) _⟩
                              rw [HCE.out, HQ.out.1, HQ.out.2, if_pos rfl]
                              unfold updN
                              split <;> rfl
                            case measure => simp [intOf]; omega
                          · have hr : (x1 == (b : Int) && y1 == (t : Int)) = false := by
                              rw [Bool.eq_false_iff]; intro h; simp at h; exact hq h
                            have HQ := Lib.hid hq
                            clear hq
                            simp only [hr] at hne
                            go_wp2_with fail
                            go_roundw
                            case rel =>
                              refine ⟨qd + 1, by omega, by go_num, (HW8.out.alloc _).congr (fun _ => rfl) (fun i => ?_) (fun _ => rfl), HM8.out.alloc _, HX8.out.alloc s5 _⟩
                              rw [HCE.out, HCQ.out, if_neg (fun h => HQ.out ⟨congrArg Prod.fst h, congrArg Prod.snd h⟩)]
                              rfl
                            case measure => simp [intOf]; omega
                        · obtain rfl : qd = ents.length := by omega
                          have htot : cE ents ((b : Int), (t : Int)) ents.length = 0 := by simpa using HCN.out
                          rw [htot] at HW8
                          clear htot
                          go_wp2_with fail
                          go_roundw
                          case rel =>
                            refine ⟨k + 1, true, _, _, _, rfl, by go_num, by omega, HW8.out, HM8.out, (fun h => by cases h), fun i => ?_⟩
                            have h1 := HSU6.out i
                            by_cases ei : i = k
                            · subst ei
                              have h2 := HPK.out
                              have h3 := HRKK.out
                              have h4 := HEK.out
                              rw [if_pos (by omega)]
                              rw [if_neg (by omega)] at h1
                              simp only [updN, if_true]
                              omega
                            · have h2 := h1.2
                              simp only [updN, if_neg ei]
                              refine ⟨h1.1, ?_⟩
                              split at h2 <;> split <;> omega
                          case measure => simp [intOf]; omega
                    | false =>
                      go_wp2_with (first
                        | (go_at_call 12; refine (Hl.out _ (HIVB.out _ _ _ HB1'.out ((HW6.out.setP' k (pk + 1) _ rfl).alloc _).bel)).mono ?_; rintro e' w1 ⟨rfl, hw1⟩; subst w1)
                        | (go_at_call 17; go_must (refine (HEN.out _ (HBVB.out _ ((HW6.out.setP' k (pk + 1) _ rfl).alloc _).bel) (HIVB.out _ _ _ HA1.out ((HW6.out.setP' k (pk + 1) _ rfl).alloc _).bel) (HIVB.out _ _ _ HB1'.out ((HW6.out.setP' k (pk + 1) _ rfl).alloc _).bel)).mono ?_)
                           rintro e' W7 ⟨⟨R', cr, rfl, hE, hF⟩, hb⟩
                           have HW7 := Lib.hid (((HW6.out.setP' k (pk + 1) _ rfl).alloc _).below hb)
                           have HM7 := Lib.hid (((HM6.out.setCell (q := ⟨N, k, none⟩) (HM6.out.ne_row HW6.out.rp) _).alloc _).below hb (by have := HM6.out.lt; simp; omega))
                           have HE7 := Lib.hid hE
                           have HF7 := Lib.hid (show Fresh W6.heap.size R' from hF.mono (by simp))
                           have hs7 : W6.heap.size < W7.heap.size := by have := hb.size; simp at this; omega
                           clear hb hE hF))
                      obtain ⟨ek, hek⟩ : ∃ ek, e k = ek := ⟨_, rfl⟩
                      have HEK := Lib.hid hek
                      have hek60 : ek ≤ 62 := by have := HSK.out; have := HPK.out; omega
                      have HBX0 := Lib.hid (Bex.refl W7.heap.size pe W7)
                      clear hek
                      go_loopw [130] (fun i wr => ∃ qd : Nat, qd ≤ ents.length ∧ i = .int .i64 qd ∧ W3 W2 N N pe pr ls.length (updN p k (pk + 1)) (updN e k (ek + cE ents ((b : Int), (t : Int)) qd)) r wr ∧ HMap wr mb q (fB sn) ∧ Bex W7.heap.size pe W7 wr) (fun i _ => ents.length - (intOf i).toNat)
                      case atStart => exact ⟨0, by omega, rfl, HW7.out.congr (fun _ => rfl) (fun i => by rw [← HEK.out]; exact (updN_self e k i).symm) (fun _ => rfl), HM7.out, HBX0.out⟩
                      case round =>
                        obtain ⟨qd, hqd, rfl, hW, hM, hX⟩ := hrel
                        rename World => W8
                        have HW8 := Lib.hid hW
                        have HM8 := Lib.hid hM
                        have HX8 := Lib.hid hX
                        clear hW hM hX
                        by_cases hqt : qd < ents.length
                        · obtain ⟨eb, eo, rfl, heb, hec⟩ := HE7.out (by omega)
                          have hne8 : eb ≠ pe := by have := HF7.out ⟨eb, eo, none⟩ rfl; have h2 : W6.heap.size ≤ eb := this; omega
                          have ex := (HX8.out.cellN (p := ⟨eb, eo + qd * 2, none⟩) heb hne8).trans (hec qd hqt).1
                          have ey := (HX8.out.cellN (p := ⟨eb, eo + qd * 2 + 1, none⟩) heb hne8).trans (hec qd hqt).2
                          have hce : cE ents ((b : Int), (t : Int)) (qd + 1) = cE ents ((b : Int), (t : Int)) qd + if nthE ents qd = ((b : Int), (t : Int)) then 1 else 0 := rfl
                          obtain ⟨⟨x1, y1⟩, hxy⟩ : ∃ z, nthE ents qd = z := ⟨_, rfl⟩
                          rw [hxy] at ex ey hce
                          dsimp only at ex ey
                          have s1 := HW8.out.re.cell hlt
                          rw [updN_at] at s1
                          have s2 := HW8.out.re.frozen k
                          have s3 : pe < W8.heap.size := HW8.out.re.lt
                          have s4 := cE_le ents ((b : Int), (t : Int)) qd
                          have s5 := HX8.out.size
                          obtain ⟨cq, hcq⟩ : ∃ cq, cE ents ((b : Int), (t : Int)) qd = cq := ⟨_, rfl⟩
                          rw [hcq] at s1 s4 hce
                          have HCQ := Lib.hid hcq
                          have HCE := Lib.hid hce
                          have hne := fun W => run_eql35 x1 y1 (b : Int) (t : Int) W
                          clear hec hxy hcq hce
                          by_cases hq : x1 = (b : Int) ∧ y1 = (t : Int)
                          · have hr : (x1 == (b : Int) && y1 == (t : Int)) = true := by simp [hq.1, hq.2]
                            have HQ := Lib.hid hq
                            clear hq
                            simp only [hr] at hne
                            go_wp2_with fail
                            go_roundw
                            case rel =>
                              refine ⟨qd + 1, by omega, by go_num, ((HW8.out.setE' k (ek + cq + 1) _ rfl).alloc _).congr (fun _ => rfl) (fun i => ?_) (fun _ => rfl), (HM8.out.setCell (q := ⟨pe, k, none⟩) (HM8.out.ne_row HW8.out.re) _).alloc _, (HX8.out.setC _ _).alloc (by simpa using s5) _⟩
                              rw [HCE.out, HQ.out.1, HQ.out.2, if_pos rfl]
                              unfold updN
                              split <;> rfl
                            case measure => simp [intOf]; omega
                          · have hr : (x1 == (b : Int) && y1 == (t : Int)) = false := by
                              rw [Bool.eq_false_iff]; intro h; simp at h; exact hq h
                            have HQ := Lib.hid hq
                            clear hq
                            simp only [hr] at hne
                            go_wp2_with fail
                            go_roundw
                            case rel =>
                              refine ⟨qd + 1, by omega, by go_num, (HW8.out.alloc _).congr (fun _ => rfl) (fun i => ?_) (fun _ => rfl), HM8.out.alloc _, HX8.out.alloc s5 _⟩
                              rw [HCE.out, HCQ.out, if_neg (fun h => HQ.out ⟨congrArg Prod.fst h, congrArg Prod.snd h⟩)]
                              rfl
                            case measure => simp [intOf]; omega
                        · obtain rfl : qd = ents.length := by omega
                          have htot : cE ents ((b : Int), (t : Int)) ents.length = 1 := by simpa using HCN.out
                          rw [htot] at HW8
                          clear htot
                          go_wp2_with fail
                          go_roundw
                          case rel =>
                            refine ⟨k + 1, bk, _, _, _, rfl, by go_num, by omega, HW8.out, HM8.out, (fun hb i hi he => by
                              by_cases ei : i = k
                              · subst ei; rw [HYK.out]; exact HR1.out
                              · exact HBK.out hb i (by omega) he), fun i => ?_⟩
                            have h1 := HSU6.out i
                            by_cases ei : i = k
                            · subst ei
                              have h2 := HPK.out
                              have h3 := HRKK.out
                              have h4 := HEK.out
                              rw [if_pos (by omega)]
                              rw [if_neg (by omega)] at h1
                              simp only [updN, if_true]
                              omega
                            · have h2 := h1.2
                              simp only [updN, if_neg ei]
                              refine ⟨h1.1, ?_⟩
                              split at h2 <;> split <;> omega
                          case measure => simp [intOf]; omega
                  · have e2 : (hd != (t : Int)) = true := by simpa using hdt
                    go_wp2_with fail
                    go_roundw
                    case rel =>
                      refine ⟨k + 1, bk, p, e, r, rfl, by go_num, by omega, HW6.out.alloc _, HM6.out.alloc _, fun hb i hi he => ?_, fun i => ?_⟩
                      · by_cases ei : i = k
                        · subst ei; rw [HYK.out] at he; exact absurd he hdt
                        · exact HBK.out hb i (by omega) he
                      · have := HSU6.out i
                        refine ⟨this.1, ?_⟩
                        have h2 := this.2
                        split at h2 <;> split <;> omega
                    case measure => simp [intOf]; omega
                · obtain rfl : k = ls.length := by omega
                  have hwt : wf (t : Int) := wf_of (by omega) (by omega)
                  have hs60 := H60.out
                  have hsum6 : ∀ i, p i = e i + r i ∧ p i ≤ 1 + (s + 1) := fun i => by
                    have h1 := HSU6.out i
                    refine ⟨h1.1, ?_⟩
                    have h2 := h1.2
                    split at h2 <;> omega
                  have HSUM6 := Lib.hid hsum6
                  clear hsum6
                  cases bk with
                  | true =>
                    have hm0 := HMap.made W6
                    rw [fB_none] at hm0
                    have hlk := hm0.look Try.underlying58 (zero4 _) hwt
                    rw [fB_at] at hlk
                    obtain ⟨Wb, hup, hMb, hgb⟩ := hm0.put Try.underlying58 (by unfold maxLen; omega) hwt (.bool true)
                    rw [fB_upd] at hMb
                    have hnb : N ≤ W6.heap.size := Nat.le_of_lt HW6.out.rp.lt
                    have HWb := Lib.hid ((HW6.out.alloc (.map #[] 0)).map hm0 hnb hgb)
                    have HMb := Lib.hid hMb
                    clear hm0 hMb hgb
                    go_wp2_with fail
                    go_roundw
                    case rel =>
                      refine ⟨s + 1, t, _, _, _, p, e, r, rfl, rfl, by go_num, by omega, HWb.out, HMb.out, hnb, by omega, HST.out.ge, fun t' ht' => ?_, HSUM6.out⟩
                      have h0 : t' = t := by
                        unfold upd at ht'
                        by_cases e : t' = t
                        · exact e
                        · rw [if_neg e] at ht'; cases ht'
                      rw [h0]; exact Int.le_refl _
                    case measure => simp [intOf]; omega
                  | false =>
                    have hlt' := HST.out.back (fun i hi he => HBK.out rfl i hi he)
                    have hsnt : sn t = false := by
                      rw [← Bool.not_eq_true]
                      intro h
                      have := HSN.out t h
                      omega
                    have hlk := HM6.out.look Try.underlying58 (zero4 _) hwt
                    rw [fB_at, hsnt] at hlk
                    obtain ⟨Wb, hup, hMb, hgb⟩ := HM6.out.put Try.underlying58 (by unfold maxLen; omega) hwt (.bool true)
                    rw [fB_upd] at hMb
                    have HWb := Lib.hid (HW6.out.map HM6.out hmb hgb)
                    have HMb := Lib.hid hMb
                    have HLT := Lib.hid hlt'
                    clear hMb hgb hlt' hsnt
                    go_wp2_with fail
                    go_roundw
                    case rel =>
                      refine ⟨s + 1, t, _, _, _, p, e, r, rfl, rfl, by go_num, by omega, HWb.out, HMb.out, hmb, by omega, HST.out.ge, fun t' ht' => ?_, HSUM6.out⟩
                      unfold upd at ht'
                      by_cases e : t' = t
                      · rw [e]; exact Int.le_refl _
                      · rw [if_neg e] at ht'
                        have := HSN.out t' ht'
                        have := HLT.out
                        omega
                    case measure => simp [intOf]; omega
          · obtain rfl : s = us.length := by omega
            go_wp2_with fail
            go_loopw [158] (fun i wr => ∃ k : Nat, k ≤ ls.length ∧ i = .int .i64 k ∧ W3 W2 N N pe pr ls.length p e r wr) (fun i _ => ls.length - (intOf i).toNat)
            case atStart => exact ⟨0, by omega, rfl, HW5.out⟩
            case round =>
              obtain ⟨k, hk, rfl, hW⟩ := hrel
              rename World => W8
              have HW8 := Lib.hid hW
              clear hW
              by_cases hlt : k < ls.length
              · have r1 := HW8.out.rp.cell hlt
                have r2 := HW8.out.re.cell hlt
                have r3 := HW8.out.rr.cell hlt
                have hs := HSUM.out k
                obtain ⟨pk, hpk⟩ : ∃ pk, p k = pk := ⟨_, rfl⟩
                obtain ⟨ek, hek⟩ : ∃ ek, e k = ek := ⟨_, rfl⟩
                obtain ⟨rk, hrk⟩ : ∃ rk, r k = rk := ⟨_, rfl⟩
                rw [hpk, hek, hrk] at hs
                rw [hpk] at r1
                rw [hek] at r2
                rw [hrk] at r3
                have h60 := H60.out
                have hsw : IntKind.i64.wrap ((ek : Int) + (rk : Int)) = (pk : Int) := by rw [Go.IntWalk.i64_in _ (by omega)]; omega
                have hsn : ((pk : Int) != (pk : Int)) = false := by simp
                clear hs hpk hek hrk
                go_wp2_with fail
                go_quiet (fail)
                go_wp2_with fail
                go_roundw
                case rel => exact ⟨k + 1, by omega, by go_num, HW8.out.drewN _⟩
                case measure => simp [intOf]; omega
              · obtain rfl : k = ls.length := by omega
                go_wp2_with fail
                go_ret
                exact ⟨rfl, (HB1.out.trans (HB2.out.mono HB1.out.size)).trans (HW8.out.bel.mono (by have := HN.out; have := HB1.out.size; have := HB2.out.size; omega))⟩
end Go.Proofs.Ytcbofikjcgdjmaa
