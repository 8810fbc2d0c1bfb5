/- The walk of LoopsCut. -/
import Derived.Test.YtcbofikjcgdjmaaG9
import Derived.Test.YtcbofikjcgdjmaaD2
import Derived.Test.YtcbofikjcgdjmaaC2
namespace Go.Proofs.Ytcbofikjcgdjmaa
set_option linter.unusedVariables false
set_option linter.unusedSimpArgs false
open Go.RowKit Go.Maps

theorem nxR_nxs (bs : List Bk) : nxR (nxs bs bs.length) = nxN bs := by
  funext j
  by_cases hj : j < bs.length
  · unfold nxR nxN; rw [nxs_at bs hj]
  · have e1 : nthR (nxs bs bs.length) j = [] := by rw [nthR, List.getD_eq_getElem?_getD, List.getElem?_eq_none (by rw [nxs_length]; omega)]; rfl
    unfold nxR nxN
    rw [e1, nthB_over (by omega)]
theorem reF_rk {bs : List Bk} {pv : List (List Int)} (hv : validB bs pv = true) (t : Nat) : reF (nxR (nxs bs bs.length)) (-1) bs.length t = decide (0 ≤ rkN bs t) := by
  have O := ord_of hv
  have := reF_iff (nx := nxN bs) (validB_okB hv).1 (fun i hi t ht => nx_lt hv i hi t ht) (-1) t
  rw [avI_rch (by omega), ← O.rch] at this
  rw [nxR_nxs]
  cases e : reF (nxN bs) (-1) bs.length t with
  | true => rw [decide_eq_true (this.1 e)]
  | false =>
    symm
    rw [decide_eq_false_iff_not]
    intro h
    rw [this.2 h] at e
    cases e
theorem nxs_in {bs : List Bk} {pv : List (List Int)} (hv : validB bs pv = true) : ∀ j, j < bs.length → ∀ t, t ∈ nthR (nxs bs bs.length) j → 0 ≤ t ∧ t < bs.length := fun j hj t ht => by
  rw [nxs_at bs hj] at ht
  exact nx_nonneg hv hj ht
/-- the set of back edges, the blocks that are reached, the blocks that are gone, in memory -/
structure KC (V : World) (mb rq gq n : Nat) (bk : Int → Int → Bool) (rea s : Nat → Bool) (W : World) : Prop where
  m : ∃ q, AMap W mb q (aB bk)
  r : BR W rq n rea
  g : BR W gq n s
  d : rq ≠ gq
  bel : Below V.heap.size V W
  hg : V.heap.size ≤ gq
theorem KC.put {V W : World} {mb rq gq n : Nat} {bk : Int → Int → Bool} {rea s : Nat → Bool} (h : KC V mb rq gq n bk rea s W) (t : Nat) : KC V mb rq gq n bk rea (upd s t) (W.setCell ⟨gq, t, none⟩ (.bool true)) := by
  obtain ⟨q, hm⟩ := h.m
  obtain ⟨c, hc, _⟩ := h.g
  exact ⟨⟨q, hm.setCell (q := ⟨gq, t, none⟩) (hm.ne_cells hc) _⟩, World.rowIs.setOther h.r (a := ⟨gq, t, none⟩) h.d _, h.g.put t, h.d, h.bel.setCell (p := ⟨gq, t, none⟩) h.hg _, h.hg⟩

def bndC (k : Nat) : Nat := k * 1099511627776
theorem bndC_succ (k : Nat) : bndC (k + 1) = bndC k + 1099511627776 := by unfold bndC; omega
theorem bndC_le {k : Nat} (h : k ≤ 14) : bndC k ≤ 15393162788864 := by unfold bndC; omega
theorem bndC_zero : bndC 0 = 0 := by unfold bndC; omega
set_option maxRecDepth 100000 in
set_option maxHeartbeats 16000000 in
theorem cut7 (A B : Option Addr) (bs : List Bk) (pv : List (List Int)) (c d : Nat) (w : World) (h : BV w A bs) (h' : RV w B pv) (hz : GZ bs pv) :
    Calls Try.prog 7 #[.agg #[.slice A bs.length c, .slice B pv.length d]] w fun e w' => e = .returned (.bool true) ∧ Below w.heap.size w w' := by
  have HF := Lib.hid (fun W h h' => found19 A B bs pv c d W h h' hz)
  have HS := Lib.hid h
  have HT := Lib.hid h'
  have HZ := Lib.hid hz
  clear h h' hz
  go_enter Try.func7, Try.ntmps7
  go_wp2_with (first
    | (go_at_call 11; refine (awake11 _).mono ?_; rintro e W1 ⟨rfl, hb⟩
       have y0 := (hb.cell (p := ⟨w.heap.size, 0, none⟩) (by simp)).trans (cell_new' _ _ #[.slice A bs.length c, .slice B pv.length d] _ _ _ rfl rfl)
       have y1 := (hb.cell (p := ⟨w.heap.size, 1, none⟩) (by simp)).trans (cell_new' _ _ #[.slice A bs.length c, .slice B pv.length d] _ _ _ rfl rfl)
       have hg : w.heap.size < W1.heap.size := by have := hb.size; simp at this; omega
       have HB1 := Lib.hid (below_through hb)
       clear hb))
  refine (HF.out _ (HS.out.step HB1.out) (HT.out.step HB1.out)).mono ?_
  rintro e W2 ⟨hor, hb⟩
  rcases hor with ⟨R, n, cap, L, m, cap', rfl⟩ | ⟨h14, hv, hRd, R, cap, L, cap', rfl, hcap, hRV, hLV⟩
  · have HB2 := Lib.hid hb
    clear hb y0 y1 hg
    go_wp2_with fail
    go_ret
    exact ⟨rfl, HB1.out.trans (HB2.out.mono HB1.out.size)⟩
  have hlen : (lsF bs pv).length ≤ 14 := by rw [lsF_length]; exact Nat.le_trans (headF_len bs) h14
  have hLZ : LZ (lsF bs pv) := by rw [← lsM_all]; exact lsM_LZ (ls0_LZ bs pv HZ.out.len HZ.out.edges) _
  have hLF := lf_of hv hRd
  have hCF := cutF_of hv hRd hLF
  have hO := ord_of hv
  have hla : ∀ i, i < (lsF bs pv).length → ∀ x, x ∈ (nthL (lsF bs pv) i).la → 0 ≤ x ∧ x < bs.length := fun i hi x hx => by
    obtain ⟨t, rfl, ht⟩ := (hLF.memLa hv hRd hi x).1 hx
    have := hO.lt t (hO.rch.2 ht.1)
    omega
  have hhd : ∀ i, i < (lsF bs pv).length → 0 ≤ (nthL (lsF bs pv) i).hd ∧ (nthL (lsF bs pv) i).hd < bs.length := fun i hi => by
    rw [hLF.hd i hi]
    have := hO.lt _ (hO.rch.2 (hLF.is i hi).rch)
    omega
  have hne := (validB_okB hv).1
  obtain ⟨ls, hls⟩ : ∃ ls, lsF bs pv = ls := ⟨_, rfl⟩
  rw [hls] at hlen hLZ hLV hCF hla hhd
  rw [hls]
  have HB2 := Lib.hid hb
  have HCF := Lib.hid hCF
  have HLA := Lib.hid hla
  have HHD := Lib.hid hhd
  have HLV := Lib.hid hLV
  have HRV := Lib.hid hRV
  have HLZ := Lib.hid hLZ
  have HH14 := Lib.hid h14
  have HNE := Lib.hid hne
  have HRE := Lib.hid (fun A c W (h : RV W A (nxs bs bs.length)) => reach28 A (nxs bs bs.length) c bs.length (-1) W h (nxs_length _ _) hne (by omega) (fun j hj => by rw [nxs_at bs hj]; exact HZ.out.nx j hj) (nxs_in hv))
  have HRK := Lib.hid (reF_rk hv)
  have HNX2 := Lib.hid (valid_nx hv)
  have hmm := @run_makeMap Try.prog
  have hm0 := AMap.made W2
  rw [aB_none] at hm0
  have HM0 := Lib.hid hm0
  have HBm := Lib.hid (below_new (Below.refl W2.heap.size W2) (.map #[] 0))
  clear hb y0 y1 hg hv hRd hRV hLV hLF hls hLZ HF hcap hCF hO hla hhd hne h14 hm0
  go_wp2_with fail
  go_loopw [31] (fun i wr => ∃ k q : Nat, k ≤ ls.length ∧ i = .int .i64 k ∧ AMap wr W2.heap.size q (aB (bkL ls k)) ∧ q ≤ bndC k ∧ Below W2.heap.size W2 wr) (fun i _ => ls.length - (intOf i).toNat)
  case atStart => exact ⟨0, 0, by omega, rfl, HM0.out, Nat.zero_le _, HBm.out⟩
  case round =>
    obtain ⟨k, q, hk, rfl, hM, hq, hB⟩ := hrel
    rename World => W3
    have HM3 := Lib.hid hM
    have HB3 := Lib.hid hB
    clear hM hB
    by_cases hlt : k < ls.length
    · obtain ⟨lb, lo, rfl, hlb, hc⟩ := HLV.out (by omega)
      obtain ⟨A1, c1, B1, d1, g0, g1, g2, g3, hA1, hB1⟩ := hc k hlt
      have G0 := (HB3.out.cell (p := ⟨lb, lo + k * 4, none⟩) hlb).trans g0
      have G1 := (HB3.out.cell (p := ⟨lb, lo + k * 4 + 1, none⟩) hlb).trans g1
      have G2 := (HB3.out.cell (p := ⟨lb, lo + k * 4 + 2, none⟩) hlb).trans g2
      have G3 := (HB3.out.cell (p := ⟨lb, lo + k * 4 + 3, none⟩) hlb).trans g3
      have hz2 := (HLZ.out k hlt).2
      have hh := HHD.out k hlt
      have hl := HLA.out k hlt
      have hst : bkL ls (k + 1) = bkJ (bkL ls k) (nthL ls k).la (nthL ls k).hd (nthL ls k).la.length := rfl
      obtain ⟨yy, hyy⟩ : ∃ y, nthL ls k = y := ⟨_, rfl⟩
      rw [hyy] at G0 G1 G2 G3 hz2 hh hl hB1 hst
      obtain ⟨hd, bl, la, pa⟩ := yy
      dsimp only at G0 G1 G2 G3 hz2 hh hl hB1 hst
      have HST := Lib.hid hst
      have HL := Lib.hid hl
      have HBI := Lib.hid hB1
      have h14 := HH14.out
      have hbk := bndC_le (show k ≤ 14 by omega)
      have hbs := bndC_succ k
      obtain ⟨kq, hkq⟩ : ∃ kq, bndC k = kq := ⟨_, rfl⟩
      rw [hkq] at hq hbk hbs
      have HBS := Lib.hid hbs
      clear hkq hbs
      have hwh : wf hd := wf_of (by omega) (by omega)
      obtain ⟨W4, hW4⟩ : ∃ W4, W3.alloc (.cells #[.int .i64 hd, .slice A1 bl.length c1, .slice B1 la.length d1, .int .i64 pa] 30) = W4 := ⟨_, rfl⟩
      have HX := Lib.hid (show W4.cell? ⟨W3.heap.size, 0, none⟩ = some (.int .i64 hd) ∧ W3.heap.size < W4.heap.size by rw [← hW4]; exact ⟨by simp, by simp⟩)
      have HM4 := Lib.hid (show AMap W4 W2.heap.size q (aB (bkL ls k)) by rw [← hW4]; exact HM3.out.alloc _)
      have HB4 := Lib.hid (show Below W2.heap.size W2 W4 by rw [← hW4]; exact HB3.out.alloc HB3.out.size _)
      have HS3 := Lib.hid (show W2.heap.size < W3.heap.size from HM3.out.lt)
      have HW4 := Lib.hid hW4
      clear g0 g1 g2 g3 hA1 hB1 hc hst hl hyy hW4
      go_wp2_with fail
      rw [show W3.alloc (.cells #[.int .i64 hd, .slice A1 bl.length c1, .slice B1 la.length d1, .int .i64 pa] 30) = W4 from HW4.out]
      go_loopw [38] (fun i wr => ∃ j q' : Nat, j ≤ la.length ∧ i = .int .i64 j ∧ AMap wr W2.heap.size q' (aB (bkJ (bkL ls k) la hd j)) ∧ q' ≤ kq + j ∧ Below W2.heap.size W2 wr ∧ W4.grownBy wr (some W2.heap.size)) (fun i _ => la.length - (intOf i).toNat)
      case atStart => exact ⟨0, q, by omega, rfl, HM4.out, by omega, HB4.out, World.grownBy.refl _ _⟩
      case round =>
        obtain ⟨j, q', hj, rfl, hM, hq', hB, hG⟩ := hrel
        rename World => W5
        have HM5 := Lib.hid hM
        have HB5 := Lib.hid hB
        have HG5 := Lib.hid hG
        have x0 := (World.cell?_of_block (a := ⟨W3.heap.size, 0, none⟩) (hG.block W3.heap.size HX.out.2 (by have := HS3.out; simp; omega))).trans HX.out.1
        clear hM hB hG
        by_cases hjt : j < la.length
        · obtain ⟨b1, o1, rfl, hb1, hcx⟩ := HBI.out (by omega)
          have gx := (HB5.out.cell (p := ⟨b1, o1 + j, none⟩) hb1).trans (hcx j hjt)
          have hx0 := HL.out _ (getD_mem hjt)
          have hsj : bkJ (bkL ls k) la hd (j + 1) = upP (bkJ (bkL ls k) la hd j) (la.getD j 0) hd := rfl
          obtain ⟨x, hx⟩ : ∃ x, la.getD j 0 = x := ⟨_, rfl⟩
          rw [hx] at gx hx0 hsj
          have hwx : wf x := wf_of (by omega) (by omega)
          have HSJ := Lib.hid hsj
          obtain ⟨Wc, hup, hMc, hgc⟩ := HM5.out.put Try.underlying54 (by unfold maxLen; omega) hwx hwh (.bool true)
          rw [aB_up] at hMc
          have hup' : (Instr.mapUpdate 54 (.map (some W2.heap.size)) (.agg #[.int .i64 x, .int .i64 hd]) (.bool true)).run Try.prog W5 = .ok () Wc := hup
          have HMc := Lib.hid hMc
          have HBc := Lib.hid (show Below W2.heap.size W2 Wc from HB5.out.grown hgc HB5.out.size (fun q e => by cases e; exact Nat.le_refl _))
          have HGc := Lib.hid (HG5.out.andThen hgc (fun j hj => .inr hj))
          clear hcx hx hsj hMc hgc hup
          go_wp2_with fail
          go_roundw
          case rel => exact ⟨j + 1, q' + 1, by omega, by go_num, by rw [HSJ.out]; exact HMc.out, by omega, HBc.out, HGc.out⟩
          case measure => simp [intOf]; omega
        · obtain rfl : j = la.length := by omega
          go_wp2_with fail
          go_roundw
          case rel => exact ⟨k + 1, q', by omega, by go_num, by rw [HST.out]; exact HM5.out, by have := HBS.out; omega, HB5.out⟩
          case measure => simp [intOf]; omega
    · obtain rfl : k = ls.length := by omega
      have hn0 : bs.length ≤ 14 := HH14.out
      have hmk := run_make_row' (P := Try.prog) 55 4 (.bool false) 1 Try.underlying55 info4 rfl .i64 .i64 bs.length (by omega) (by omega)
      clear hn0
      go_wp2_with (first
        | (go_at_call 28; refine (HRE.out _ _ _ (HRV.out.step HB3.out)).mono ?_; rintro e W4 ⟨rfl, hR, hb⟩
           have hR' : BR W4 W3.heap.size bs.length (fun t => decide (0 ≤ rkN bs t)) := hR.congr fun t _ => HRK.out t
           have hM4 := HM3.out.below hb HM3.out.lt
           have hg0 := World.rowIs_made W4 (.bool false) bs.length 4
           have HK := Lib.hid (show KC W2 W2.heap.size W3.heap.size W4.heap.size bs.length (bkL ls ls.length) (fun t => decide (0 ≤ rkN bs t)) (gnR (fun a b => (nthB bs a).nx.contains (b : Int)) (fun t => decide (0 ≤ rkN bs t)) (fun a b => bkL ls ls.length a b) bs.length 0) (W4.alloc (.cells (madeCells #[.bool false] bs.length) 4)) from
             ⟨⟨_, hM4.alloc _⟩, World.rowIs.alloc hR' _, hg0, by have := World.rowIs.lt hR; omega, (HB3.out.trans (hb.mono HB3.out.size)).alloc (Nat.le_trans HB3.out.size hb.size) _, Nat.le_trans HB3.out.size hb.size⟩)
           clear hb hR hR' hM4 hg0 HRE))
      obtain ⟨rea, hrea⟩ : ∃ rea, (fun t => decide (0 ≤ rkN bs t)) = rea := ⟨_, rfl⟩
      have HREA := Lib.hid hrea
      rw [hrea] at HK
      clear hrea
      obtain ⟨nb, hnb⟩ : ∃ nb : Nat → Nat → Bool, (fun a b : Nat => (nthB bs a).nx.contains (b : Int)) = nb := ⟨_, rfl⟩
      have HNB := Lib.hid (fun a b : Nat => (congrFun (congrFun hnb a) b : (nthB bs a).nx.contains (b : Int) = nb a b))
      obtain ⟨bkn, hbkn⟩ : ∃ bkn : Nat → Nat → Bool, (fun a b : Nat => bkL ls ls.length a b) = bkn := ⟨_, rfl⟩
      have HBKN := Lib.hid (fun a b : Nat => (congrFun (congrFun hbkn a) b : bkL ls ls.length a b = bkn a b))
      have HCG := Lib.hid HCF.out.gone
      rw [HREA.out, hnb, hbkn] at HCG
      rw [hnb, hbkn] at HK
      have HRA := Lib.hid (fun t => (congrFun HREA.out t : decide (0 ≤ rkN bs t) = rea t))
      obtain ⟨V4, hV4⟩ : ∃ V4, W4.alloc (.cells (madeCells #[.bool false] bs.length) 4) = V4 := ⟨_, rfl⟩
      rw [hV4] at HK
      rw [hV4]
      obtain ⟨mb, hmb⟩ : ∃ mb, W2.heap.size = mb := ⟨_, rfl⟩
      have HMB := Lib.hid hmb
      obtain ⟨rq, hrq⟩ : ∃ rq, W3.heap.size = rq := ⟨_, rfl⟩
      obtain ⟨gq, hgq⟩ : ∃ gq, W4.heap.size = gq := ⟨_, rfl⟩
      rw [hmb, hrq, hgq] at HK
      rw [hmb, hrq, hgq]
      clear hnb hbkn hV4 hmb hrq hgq
      have HWR := Lib.hid (fun (W : World) (hb : Below W2.heap.size W2 W) => hb)
      go_loopw [56] (fun i wr => ∃ r : Nat, r ≤ bs.length ∧ i = .int .i64 r ∧ KC W2 mb rq gq bs.length (bkL ls ls.length) rea (gnR nb rea bkn bs.length r) wr) (fun i _ => bs.length - (intOf i).toNat)
      case atStart => exact ⟨0, by omega, rfl, HK.out⟩
      case round =>
        obtain ⟨r, hr, rfl, hK⟩ := hrel
        rename World => W5
        have HK5 := Lib.hid hK
        have h14 := HH14.out
        clear hK
        by_cases hrt : r < bs.length
        · go_wp2_with fail
          go_loopw [60] (fun i wr => ∃ b : Nat, b ≤ bs.length ∧ i = .int .i64 b ∧ KC W2 mb rq gq bs.length (bkL ls ls.length) rea (gnI nb rea bkn bs.length (gnR nb rea bkn bs.length r) b) wr) (fun i _ => bs.length - (intOf i).toNat)
          case atStart => exact ⟨0, by omega, rfl, HK5.out⟩
          case round =>
            obtain ⟨b, hb, rfl, hK⟩ := hrel
            rename World => W6
            have HK6 := Lib.hid hK
            clear hK
            by_cases hbt : b < bs.length
            · obtain ⟨s, hs⟩ : ∃ s, gnI nb rea bkn bs.length (gnR nb rea bkn bs.length r) b = s := ⟨_, rfl⟩
              have hgs : gnI nb rea bkn bs.length (gnR nb rea bkn bs.length r) (b + 1) = if frK nb rea bkn s b bs.length then upd s b else s := by rw [← hs]; rfl
              rw [hs] at HK6
              have HGS := Lib.hid hgs
              clear hs hgs
              go_wp2_with fail
              go_loopw [14, 65] (fun fv i wr => ∃ a : Nat, a ≤ bs.length ∧ i = .int .i64 a ∧ fv = .bool (frK nb rea bkn s b a) ∧ wr = W6) (fun _ i _ => bs.length - (intOf i).toNat)
              case atStart => exact ⟨0, by omega, rfl, rfl, rfl⟩
              case round =>
                obtain ⟨a, ha, rfl, rfl, hwr⟩ := hrel
                rename World => W7
                obtain rfl : W6 = W7 := hwr.symm
                by_cases hat : a < bs.length
                · obtain ⟨rb, ro, rfl, hrb, hrc⟩ := HRV.out (by rw [nxs_length]; omega)
                  obtain ⟨A2, c2, r0, hA2⟩ := hrc a (by rw [nxs_length]; exact hat)
                  rw [nxs_at bs hat] at r0 hA2
                  replace r0 := (HK6.out.bel.cell (p := ⟨rb, ro + a, none⟩) hrb).trans r0
                  have hn2 := HNX2.out a hat
                  have gc := World.rowIs.cell HK6.out.g hat
                  have rc := World.rowIs.cell HK6.out.r hat
                  obtain ⟨qm, hqm⟩ := HK6.out.m
                  have hlk := hqm.look Try.underlying54 (zero4 _) (x := (a : Int)) (y := (b : Int)) (wf_of (by omega) (by omega)) (wf_of (by omega) (by omega))
                  rw [aB_at, HBKN.out a b] at hlk
                  have Hin := Lib.hid (fun W h => in12 A2 (nthB bs a).nx c2 (b : Int) W h (by omega))
                  simp only [HNB.out a b] at Hin
                  have HIV := Lib.hid (hA2.step HK6.out.bel)
                  have hfr : frK nb rea bkn s b (a + 1) = if !s a && rea a && nb a b && !bkn a b then false else frK nb rea bkn s b a := rfl
                  obtain ⟨sa, hsa⟩ : ∃ z, s a = z := ⟨_, rfl⟩
                  obtain ⟨ra, hra⟩ : ∃ z, rea a = z := ⟨_, rfl⟩
                  obtain ⟨na, hna⟩ : ∃ z, nb a b = z := ⟨_, rfl⟩
                  obtain ⟨ba, hba⟩ : ∃ z, bkn a b = z := ⟨_, rfl⟩
                  obtain ⟨fa, hfa⟩ : ∃ z, frK nb rea bkn s b a = z := ⟨_, rfl⟩
                  rw [hsa, hra, hna, hba, hfa] at hfr
                  rw [hsa] at gc
                  rw [hra] at rc
                  simp only [hna] at Hin
                  rw [hba] at hlk
                  rw [hfa]
                  have hlk' : (Instr.lookup 54 (.map (some mb)) (.agg #[.int .i64 (a : Int), .int .i64 (b : Int)]) false).run Try.prog W6 = .ok (.bool ba) W6 := hlk
                  obtain ⟨nx, hnx⟩ : ∃ nx, (nthB bs a).nx = nx := ⟨_, rfl⟩
                  rw [hnx] at r0 hn2 Hin HIV
                  have HFR := Lib.hid hfr
                  clear hA2 hrc hqm hlk hfr hsa hra hna hba hfa hnx
                  cases sa with
                  | true =>
                    go_wp2_with fail
                    go_roundw
                    case rel => exact ⟨a + 1, by omega, by go_num, by rw [HFR.out]; rfl, trivial⟩
                    case measure => simp [intOf]; omega
                  | false =>
                    cases ra with
                    | false =>
                      go_wp2_with fail
                      go_roundw
                      case rel => exact ⟨a + 1, by omega, by go_num, by rw [HFR.out]; rfl, trivial⟩
                      case measure => simp [intOf]; omega
                    | true =>
                      cases na with
                      | false =>
                        go_wp2_with (go_at_call 12; refine (Hin.out _ HIV.out).mono ?_; rintro e w1 ⟨rfl, hw1⟩; subst w1)
                        go_roundw
                        case rel => exact ⟨a + 1, by omega, by go_num, by rw [HFR.out]; rfl, trivial⟩
                        case measure => simp [intOf]; omega
                      | true =>
                        cases ba with
                        | false =>
                          go_wp2_with (go_at_call 12; refine (Hin.out _ HIV.out).mono ?_; rintro e w1 ⟨rfl, hw1⟩; subst w1)
                          go_roundw
                          case rel => exact ⟨a + 1, by omega, by go_num, by rw [HFR.out]; rfl, trivial⟩
                          case measure => simp [intOf]; omega
                        | true =>
                          go_wp2_with (go_at_call 12; refine (Hin.out _ HIV.out).mono ?_; rintro e w1 ⟨rfl, hw1⟩; subst w1)
                          go_roundw
                          case rel => exact ⟨a + 1, by omega, by go_num, by rw [HFR.out]; rfl, trivial⟩
                          case measure => simp [intOf]; omega
                · obtain rfl : a = bs.length := by omega
                  have gc := World.rowIs.cell HK6.out.g hbt
                  have gf := World.rowIs.frozen HK6.out.g b
                  obtain ⟨ub, hub⟩ : ∃ ub, Value.bool (s b) = ub := ⟨_, rfl⟩
                  rw [hub] at gc
                  have HKP := Lib.hid (HK6.out.put b)
                  obtain ⟨fa, hfa⟩ : ∃ z, frK nb rea bkn s b bs.length = z := ⟨_, rfl⟩
                  rw [hfa] at HGS
                  rw [hfa]
                  clear hub hfa
                  cases fa with
                  | true =>
                    go_wp2_with fail
                    go_roundw
                    case rel => exact ⟨b + 1, by omega, by go_num, by rw [HGS.out, if_pos rfl]; exact HKP.out⟩
                    case measure => simp [intOf]; omega
                  | false =>
                    go_wp2_with fail
                    go_roundw
                    case rel => exact ⟨b + 1, by omega, by go_num, by rw [HGS.out, if_neg (by simp)]; exact HK6.out⟩
                    case measure => simp [intOf]; omega
            · obtain rfl : b = bs.length := by omega
              go_wp2_with fail
              go_roundw
              case rel => exact ⟨r + 1, by omega, by go_num, HK6.out⟩
              case measure => simp [intOf]; omega
        · obtain rfl : r = bs.length := by omega
          have hnl := HH14.out
          go_wp2_with fail
          go_loopw [104] (fun i wr => ∃ t : Nat, t ≤ bs.length ∧ i = .int .i64 t ∧ wr = W5) (fun i _ => bs.length - (intOf i).toNat)
          case atStart => exact ⟨0, by omega, rfl, rfl⟩
          case round =>
            obtain ⟨t, ht, rfl, hwr⟩ := hrel
            rename World => W6
            obtain rfl : W5 = W6 := hwr.symm
            by_cases htt : t < bs.length
            · have gc := World.rowIs.cell HK5.out.g htt
              have rc := World.rowIs.cell HK5.out.r htt
              have hcg := HCG.out t htt
              have hra := HRA.out t
              obtain ⟨ra, hr⟩ : ∃ z, rea t = z := ⟨_, rfl⟩
              obtain ⟨ga, hg⟩ : ∃ z, gnR nb rea bkn bs.length bs.length t = z := ⟨_, rfl⟩
              rw [hr] at rc hra
              rw [hg] at gc hcg
              clear hr hg
              cases ra with
              | false =>
                clear hra hcg
                go_wp2_with fail
                go_roundw
                case rel => exact ⟨t + 1, by omega, by go_num, trivial⟩
                case measure => simp [intOf]; omega
              | true =>
                obtain rfl : ga = true := hcg (by simpa using hra)
                clear hra hcg
                go_wp2_with fail
                go_roundw
                case rel => exact ⟨t + 1, by omega, by go_num, trivial⟩
                case measure => simp [intOf]; omega
            · obtain rfl : t = bs.length := by omega
              obtain ⟨q, D, hown, hi, hD⟩ := HK5.out.m
              have HD := Lib.hid hD
              have HOWN := Lib.hid hown
              clear hD hown hi
              go_wp2_with (first
                | (at_range; refine wpList_range_own _ rfl _ 54 rfl 35 4 key35 Try.underlying54 HR mb q D rfl HOWN.out ?_; intro w0 hrg0 hg0 hs0)
                | go_in)
              try go_frame
              have HR0 := Lib.hid hrg0
              have HK0 := Lib.hid (show BR w0 rq bs.length rea ∧ Below W2.heap.size W2 w0 from ⟨World.rowIs.of_block HK5.out.r (hg0.block rq (World.rowIs.lt HK5.out.r) (by simp)), HK5.out.bel.grown hg0 HK5.out.bel.size (fun q e => by cases e)⟩)
              have hrz : W2.heap.size ≤ W5.heap.size := HK5.out.bel.size
              have hrq5 : rq < W5.heap.size := World.rowIs.lt HK5.out.r
              clear hrg0 hg0
              go_loopw [17] (fun _ wr => ∃ (left : Lit → Bool) (cnt : Nat), wr.ranges Try.prog 35 HR mb W5.heap.size q D left cnt ∧ (∀ kl, left kl = true → Maps.has D kl = true) ∧ BR wr rq bs.length rea ∧ Below W2.heap.size W2 wr) (fun _ wr => wr.rangeLeft mb W5.heap.size)
              case atStart => exact ⟨_, _, HR0.out, fun kl h => h, HK0.out.1, HK0.out.2⟩
              case round =>
                obtain ⟨left, cnt, hrg, hleft, hbr, hbel⟩ := hrel
                rename World => W7
                have HRG := Lib.hid hrg
                have HLEFT := Lib.hid hleft
                have HBR := Lib.hid hbr
                have HBEL := Lib.hid hbel
                clear hrg hleft hbr hbel
                go_wp2_with (first
                  | (at_next; refine wpList_next_ranges (α := Int × Int) (β := Value) _ rfl _ rfl 35 key35 HR (fun p => .agg #[.int .i64 p.1, .int .i64 p.2]) (fun v => v) (fun key kl hk => by obtain ⟨x, y, e, _, _⟩ := kinv hk; exact ⟨(x, y), e⟩) (fun v y hv => ⟨v, rfl⟩) mb W5.heap.size q D left cnt rfl HRG.out ?_ ?_)
                  | go_in)
                · intro _ _
                  go_wp2_with fail
                  go_ret
                  exact ⟨rfl, (HB1.out.trans (HB2.out.mono HB1.out.size)).trans (HBEL.out.mono (Nat.le_trans HB1.out.size HB2.out.size))⟩
                · intro x y cv kl yd yp w1 cnt1 hkey hlk hRv hatk hrg1 hlt1 hg1 hs1 hen
                  have hh := HLEFT.out kl hlk
                  rw [(HD.out x y kl hkey).2, aB_some] at hh
                  obtain ⟨a, t, rfl, rfl, han, htn, hct, hra, hrt⟩ := HCF.out.back x y hh
                  have HG1 := Lib.hid hg1
                  have HRG1 := Lib.hid hrg1
                  have HBEL1 := Lib.hid (HBEL.out.grown hg1 (Nat.le_trans hrz (Nat.le_of_lt HRG.out.lt)) (fun q e => by cases e; exact hrz))
                  have HBR1 := Lib.hid (show BR w1 rq bs.length rea from World.rowIs.of_block HBR.out (hg1.block rq (World.rowIs.lt HBR.out) (by simp; omega)))
                  have HLEFT1 := Lib.hid (show ∀ kl', (fun z => left z && !z.sameKey kl) kl' = true → Maps.has D kl' = true from fun kl' h => HLEFT.out kl' (Bool.and_eq_true_iff.1 h).1)
                  have hlt1' : cnt1 < cnt := hlt1
                  have HLT := Lib.hid hlt1'
                  obtain ⟨rb, ro, rfl, hrb, hrc⟩ := HRV.out (by rw [nxs_length]; omega)
                  obtain ⟨A2, c2, r0, hA2⟩ := hrc a (by rw [nxs_length]; exact han)
                  rw [nxs_at bs han] at r0 hA2
                  have hn2 := HNX2.out a han
                  have Hin := Lib.hid (fun W h => in12 A2 (nthB bs a).nx c2 (t : Int) W h (by omega))
                  simp only [hct] at Hin
                  obtain ⟨W9, hW9⟩ : ∃ W9, w1.alloc (.cells #[.int .i64 (a : Int), .int .i64 (t : Int)] 35) = W9 := ⟨_, rfl⟩
                  have hB9 : Below W2.heap.size W2 W9 := by rw [← hW9]; exact HBEL1.out.alloc HBEL1.out.size _
                  have hBR9 : BR W9 rq bs.length rea := by rw [← hW9]; exact World.rowIs.alloc HBR1.out _
                  have x0 : W9.cell? ⟨w1.heap.size, 0, none⟩ = some (.int .i64 (a : Int)) := by rw [← hW9]; simp
                  have x1 : W9.cell? ⟨w1.heap.size, 1, none⟩ = some (.int .i64 (t : Int)) := by rw [← hW9]; simp
                  rw [hs1] at x0 x1
                  have z0 := (hB9.cell (p := ⟨rb, ro + a, none⟩) hrb).trans r0
                  have HIV := Lib.hid (hA2.step hB9)
                  have ra := World.rowIs.cell hBR9 han
                  have rt := World.rowIs.cell hBR9 htn
                  rw [← HRA.out a, decide_eq_true hra] at ra
                  rw [← HRA.out t, decide_eq_true hrt] at rt
                  have HW9 := Lib.hid hW9
                  have HBEL9 := Lib.hid hB9
                  have HBR9 := Lib.hid hBR9
                  have HRG9 := Lib.hid (show W9.ranges Try.prog 35 HR mb W5.heap.size q D (fun z => left z && !z.sameKey kl) cnt1 by rw [← hW9]; exact HRG1.out.alloc _)
                  obtain ⟨nx, hnx⟩ : ∃ nx, (nthB bs a).nx = nx := ⟨_, rfl⟩
                  rw [hnx] at z0 hn2 Hin HIV
                  have hai : (a : Int) < (bs.length : Int) := by omega
                  have hti : (t : Int) < (bs.length : Int) := by omega
                  clear hrc hA2 r0 hnx hW9 hB9 hBR9 hh hct hra hrt hkey hlk hRv hatk hrg1 hlt1 hlt1' hg1
                  go_wp2_with fail
                  rw [show w1.alloc (.cells #[.int .i64 (a : Int), .int .i64 (t : Int)] 35) = W9 from HW9.out]
                  go_quiet (first | (go_at_call 12; refine Calls.quiet_of_same (Hin.out _ ?_); exact HIV.out.drewN _))
                  go_wp2_with fail
                  go_roundw
                  case rel => exact ⟨_, cnt1, HRG9.out.kept (row := none) ⟨rfl, rfl, rfl, Nat.le_refl _, fun _ _ _ => rfl⟩ (by simp) (by simp), HLEFT1.out, HBR9.out, below_drewN HBEL9.out _⟩
                  case measure =>
                    have hr2 : ∀ nz, World.ranges (W9.drewN nz) Try.prog 35 HR mb W5.heap.size q D (fun z => left z && !z.sameKey kl) cnt1 := fun nz => HRG9.out.kept (row := none) ⟨rfl, rfl, rfl, Nat.le_refl _, fun _ _ _ => rfl⟩ (by simp) (by simp)
                    rw [(hr2 _).left_eq, HRG.out.left_eq]
                    exact HLT.out
end Go.Proofs.Ytcbofikjcgdjmaa
