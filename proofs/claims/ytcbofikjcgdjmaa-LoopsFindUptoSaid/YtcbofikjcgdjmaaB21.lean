/- The contract of loops.Find. -/
import Derived.Test.YtcbofikjcgdjmaaB20
import Derived.BigRegion
namespace Go.Proofs.Ytcbofikjcgdjmaa
set_option linter.unusedVariables false
set_option linter.unusedSimpArgs false
open Go.RowKit Go.Maps

theorem below_drew (w : World) : Below w.heap.size w w.drew := ⟨rfl, rfl, rfl, Nat.le_refl _, fun _ _ => rfl⟩
set_option maxRecDepth 100000 in
set_option maxHeartbeats 4000000 in
theorem find20_no (A B : Option Addr) (bs : List Bk) (pv : List (List Int)) (c d : Nat) (w : World) (h : BV w A bs) (h' : RV w B pv) (hz : GZ bs pv) (hv : validB bs pv = false) :
    Calls Try.prog 20 #[.agg #[.slice A bs.length c, .slice B pv.length d]] w fun e w' => e = .returned (.tuple #[.slice none 0 0, .int .i64 (-1), .int .i64 3]) ∧ Below w.heap.size w w' := by
  have HE := Lib.hid (fun W h h' => valid34 A B bs pv c d W h h' hz.len hz.nx hz.edges hz.pv)
  rw [hv] at HE
  have HS := Lib.hid h
  have HT := Lib.hid h'
  clear h h' hz hv
  go_enter Try.func20, Try.ntmps20
  go_wp2_with (go_at_call 34; refine (HE.out _ (HS.out.alloc _) (HT.out.alloc _)).mono ?_; rintro e w1 ⟨rfl, hb⟩; have HB := Lib.hid ((below_new (Below.refl _ _) _).trans (hb.mono (by simp))); clear hb)
  go_ret3
  exact ⟨rfl, HB.out⟩

set_option maxRecDepth 100000 in
set_option maxHeartbeats 8000000 in
theorem find20_main (A B : Option Addr) (bs : List Bk) (pv : List (List Int)) (c d : Nat) (w : World) (h : BV w A bs) (h' : RV w B pv) (hz : GZ bs pv) (hv : validB bs pv = true) (f : Nat) (R : Nat → Int) (hR : treeF f bs pv = some R) :
    Calls Try.prog 20 #[.agg #[.slice A bs.length c, .slice B pv.length d]] w fun e w' =>
      (∀ q, findE bs R = some q → e = .returned (.tuple #[.slice none 0 0, .int .i64 q.2, .int .i64 16])) ∧ (findE bs R = none → ∃ L cap, e = .returned (.tuple #[.slice L (lsF bs pv).length cap, .int .i64 (-1), .int .i64 0]) ∧ LV w' L (lsF bs pv)) ∧ Below w.heap.size w w' := by
  have HE := Lib.hid (fun W h h' => valid34 A B bs pv c d W h h' hz.len hz.nx hz.edges hz.pv)
  rw [hv] at HE
  have HTr := Lib.hid (fun W h h' => tree25 A B bs pv c d W h h' hz hv f R hR)
  have HOr := Lib.hid (fun W h h' => order26 A B bs pv c d W h h' hz hv)
  have HEd := Lib.hid (fun W h => edges15 A B bs pv.length c d W h (Nat.le_trans hz.len (by omega)) (fun j hj => Nat.le_trans (hz.nx j hj) (by omega)) hz.edges)
  have HS := Lib.hid h
  have HT := Lib.hid h'
  have HV := Lib.hid hv
  have hl := hz.len
  have hpl := Lib.hid (validB_okB hv).2.1
  have hol := ord_len hv
  have HOL := Lib.hid (ord_lt hv)
  have hmm := @run_makeMap Try.prog
  have hes := hz.edges
  obtain ⟨i3, hi3, hy0, hy1, hy2⟩ := info_parts info3r
  have hez : ∀ k, k < (edgK bs bs.length).length → 0 ≤ (nthE (edgK bs bs.length) k).1 ∧ (nthE (edgK bs bs.length) k).1 < bs.length ∧ 0 ≤ (nthE (edgK bs bs.length) k).2 ∧ (nthE (edgK bs bs.length) k).2 < bs.length := fun k hk => by
    have hm : nthE (edgK bs bs.length) k ∈ edgK bs bs.length := by
      rw [nthE, List.getD_eq_getElem?_getD, List.getElem?_eq_getElem hk]; exact List.getElem_mem hk
    obtain ⟨j, hj, h1, h2⟩ := edgK_lt _ _ hm
    obtain ⟨q, hq, h3⟩ := List.mem_iff_getElem.1 h2
    have := valid_in hv j hj q hq
    rw [List.getD_eq_getElem?_getD, List.getElem?_eq_getElem hq] at this
    simp at this
    rw [h3] at this
    omega
  have HEZ := Lib.hid hez
  have hfe : findE bs R = (edgK bs bs.length).find? (badB (ordN bs) ((List.range bs.length).map R)) := rfl
  have hlf : ∀ t, latF bs t = latK (ordN bs) (edgK bs bs.length) (edgK bs bs.length).length t := fun t => rfl
  have hpf : ∀ t : Nat, (plK (ordN bs) (ordN bs).length (t : Int)).isSome = plF bs t := fun t => by unfold plK plF; rw [Option.isSome_map]
  have HPIN := Lib.hid (fun b hb q hq => pv_in hv (b := b) hb (q := q) hq)
  have HPZ := Lib.hid hz.pv
  have HPLN := Lib.hid (fun t (h : plF bs t = true) => (by have := plO_lt (ord_lt hv) (Nat.le_refl _) h; omega : t < bs.length))
  obtain ⟨ord, hord⟩ : ∃ ord, ordN bs = ord := ⟨_, rfl⟩
  rw [hord] at HOr hol HOL hfe
  simp only [hord] at hlf hpf
  obtain ⟨es, hesd⟩ : ∃ es, edgK bs bs.length = es := ⟨_, rfl⟩
  rw [hesd] at HEd HEZ hes hfe
  simp only [hesd] at hlf
  have HFE := Lib.hid hfe
  have hesL := Lib.hid hesd
  have HLF := Lib.hid hlf
  have HPF := Lib.hid hpf
  clear h h' hz hv hord hR hez hesd hfe hlf hpf
  go_enter Try.func20, Try.ntmps20
  go_wp2_with (first
    | (go_at_call 34; refine (HE.out _ (HS.out.alloc _) (HT.out.alloc _)).mono ?_; rintro e W1 ⟨rfl, hb⟩
       have HB1 := Lib.hid ((below_new (Below.refl _ _) (.cells #[.slice A bs.length c, .slice B pv.length d] 25)).trans (hb.mono (by simp)))
       have cG := (hb.cell (p := ⟨w.heap.size, 0, none⟩) (by simp)).trans (show _ = some (.slice A bs.length c) by simp)
       have cH := (hb.cell (p := ⟨w.heap.size, 1, none⟩) (by simp)).trans (show _ = some (.slice B pv.length d) by simp)
       have hGN : w.heap.size < W1.heap.size := by have := hb.size; simp at this; omega
       clear hb)
    | (go_at_call 25; refine (HTr.out _ (HS.out.step HB1.out) (HT.out.step HB1.out)).mono ?_; rintro e W2 ⟨⟨D, dc, rfl, hI⟩, hb⟩
       have HB2 := Lib.hid (HB1.out.trans (hb.mono HB1.out.size))
       have cG2 := (hb.cell (p := ⟨w.heap.size, 0, none⟩) hGN).trans cG
       have cH2 := (hb.cell (p := ⟨w.heap.size, 1, none⟩) hGN).trans cH
       have hGN2 : w.heap.size < W2.heap.size := Nat.lt_of_lt_of_le hGN hb.size
       have HD := Lib.hid hI
       clear hb hI cG cH)
    | (go_at_call 26; refine (HOr.out _ ((HS.out.step HB2.out).alloc _) ((HT.out.step HB2.out).alloc _)).mono ?_; rintro e W3 ⟨⟨Ro, co, rfl, hco, hI⟩, hb⟩
       have hb23 : Below W2.heap.size W2 W3 := (below_new (Below.refl _ W2) (.map #[] 0)).trans (hb.mono (by simp))
       have HB3 := Lib.hid (HB2.out.trans (hb23.mono HB2.out.size))
       have cG3 := (hb23.cell (p := ⟨w.heap.size, 0, none⟩) hGN2).trans cG2
       have cH3 := (hb23.cell (p := ⟨w.heap.size, 1, none⟩) hGN2).trans cH2
       have HP3 := Lib.hid ((HMap.made W2).below hb (by simp))
       have HD3 := Lib.hid ((HD.out.alloc (.map #[] 0)).step hb)
       have hs23 : W2.heap.size < W3.heap.size := by have := hb.size; simp at this; omega
       have HOI := Lib.hid hI
       clear hb hb23 hI cG2 cH2))
  go_loopw [28] (fun i wr => ∃ k : Nat, k ≤ ord.length ∧ i = .int .i64 k ∧ HMap wr W2.heap.size k (plK ord k) ∧ Bex W3.heap.size W2.heap.size W3 wr) (fun i _ => ord.length - (intOf i).toNat)
  case atStart => exact ⟨0, by omega, rfl, HP3.out, Bex.refl _ _ _⟩
  case round =>
    obtain ⟨k, hk, rfl, hP, hX⟩ := hrel
    have HX := Lib.hid hX
    have HPk := Lib.hid hP
    by_cases hlt : k < ord.length
    · obtain ⟨ob, oo, rfl, hob, hoc⟩ := HOI.out (by simpa using (show 0 < ord.length by omega))
      have g := hX.cell HP3.out (p := ⟨ob, oo + k, none⟩) hob (hoc k (by simpa using hlt))
      rw [getD_map_ofNat ord hlt] at g
      have htn := HOL.out _ (getD_mem_nat hlt)
      obtain ⟨W', hup, hP2, hg2⟩ := hP.put Try.underlying66 (by unfold maxLen; omega) (wf_of (by omega) (by omega) : wf ((ord.getD k 0 : Nat) : Int)) (.int .i64 (k : Int))
      rw [plK_succ] at hP2
      obtain ⟨t, ht⟩ : ∃ t, ord.getD k 0 = t := ⟨_, rfl⟩
      rw [ht] at g htn hup
      have HP' := Lib.hid hP2
      have HX' := Lib.hid (hX.row hg2 hX.size (fun k e => by cases e; exact .inr rfl))
      clear hX hP hoc hP2 hg2 ht
      go_wp2_with fail
      go_roundw
      case rel => exact ⟨k + 1, by omega, by go_num, HP'.out, HX'.out⟩
      case measure => simp [intOf]; omega
    · obtain rfl : k = ord.length := by omega
      rename World => wq
      have HD4 := Lib.hid (HD3.out.bex hX (Nat.le_refl _) HP3.out)
      have cG4 := hX.cell HP3.out (p := ⟨w.heap.size, 0, none⟩) (show w.heap.size < W3.heap.size by omega) cG3
      have cH4 := hX.cell HP3.out (p := ⟨w.heap.size, 1, none⟩) (show w.heap.size < W3.heap.size by omega) cH3
      have hw4 : w.heap.size < wq.heap.size := by have := hX.size; omega
      have hs24 : W2.heap.size < wq.heap.size := by have := hX.size; omega
      have HB4 := Lib.hid (HB3.out.trans (hX.below (m := w.heap.size) (by omega) (by omega)))
      clear hX hP
      go_wp2_with (first
        | (go_at_call 15; refine (HEd.out _ ((HS.out.step HB4.out).alloc _)).mono ?_; rintro e W4 ⟨⟨E, ec, rfl, hI⟩, hb⟩
           have hb34 : Below wq.heap.size wq W4 := (below_new (Below.refl _ wq) (.map #[] 0)).trans (hb.mono (by simp))
           have HB5 := Lib.hid (HB4.out.trans (hb34.mono HB4.out.size))
           have cG5 := (hb34.cell (p := ⟨w.heap.size, 0, none⟩) hw4).trans cG4
           have cH5 := (hb34.cell (p := ⟨w.heap.size, 1, none⟩) hw4).trans cH4
           have HP5 := Lib.hid (HPk.out.below hb34 hs24)
           have HD5 := Lib.hid (HD4.out.step hb34)
           have HE5 := Lib.hid hI
           have hs45 : wq.heap.size < W4.heap.size := by have := hb.size; simp at this; omega
           have HL5 := Lib.hid ((LatM.made wq W4.heap.size 0).below hb)
           clear hb hb34 hI cG4 cH4))
      go_loopw [41] (fun i wr2 => ∃ k : Nat, k ≤ es.length ∧ i = .int .i64 k ∧ LatM wr2 wq.heap.size W4.heap.size k (latK ord es k) ∧ Bex W4.heap.size wq.heap.size W4 wr2 ∧ (∀ j, j < k → badB ord ((List.range bs.length).map R) (nthE es j) = false)) (fun i _ => es.length - (intOf i).toNat)
      case atStart => exact ⟨0, by omega, rfl, HL5.out, Bex.refl _ _ _, fun j hj => absurd hj (by omega)⟩
      case round =>
        obtain ⟨k, hk, rfl, hL, hX, hbad⟩ := hrel
        have HX := Lib.hid hX
        have HLk := Lib.hid hL
        have HBAD := Lib.hid hbad
        have hszx := hX.size
        clear hbad hL
        by_cases hlt : k < es.length
        · obtain ⟨eb, eo, rfl, heb, hec⟩ := HE5.out (by omega)
          have hlm : ∃ q g, HMap W4 wq.heap.size q g := by obtain ⟨vm, q, _, h1, _⟩ := HL5.out; exact ⟨q, vm, h1⟩
          obtain ⟨lq, lg, hlm⟩ := hlm
          have g0 := hX.cell hlm (p := ⟨eb, eo + k * 2, none⟩) heb (hec k hlt).1
          have g1 := hX.cell hlm (p := ⟨eb, eo + k * 2 + 1, none⟩) heb (hec k hlt).2
          have hzz := HEZ.out k hlt
          have hls := fun t => latK_succ (ord := ord) hlt t
          have hbk : badB ord ((List.range bs.length).map R) (nthE es k) = (backB ord (nthE es k) && !domB ((List.range bs.length).map R) (nthE es k).2 (nthE es k).1) := rfl
          have hbb : backB ord (nthE es k) = match plO ord ord.length (nthE es k).1 with | none => false | some r => !decide (r < (plO ord ord.length (nthE es k).2).getD 0) := rfl
          have HP6 := Lib.hid (HP5.out.bex hX (by omega) (by omega))
          have HD6 := Lib.hid (HD5.out.bex hX (Nat.le_refl _) hlm)
          have HFI := Lib.hid (fun (h : badB ord ((List.range bs.length).map R) (nthE es k) = false) => (fun j (hj : j < k + 1) => by
            by_cases e : j = k
            · rw [e]; exact h
            · exact HBAD.out j (by omega) : ∀ j, j < k + 1 → badB ord ((List.range bs.length).map R) (nthE es j) = false))
          obtain ⟨⟨x, y⟩, hy⟩ : ∃ y, nthE es k = y := ⟨_, rfl⟩
          rw [hy] at g0 g1 hzz hls hbk hbb HFI
          dsimp only at g0 g1 hzz hls hbk hbb
          obtain ⟨a, rfl⟩ : ∃ a : Nat, x = (a : Int) := ⟨x.toNat, by omega⟩
          obtain ⟨b, rfl⟩ : ∃ b : Nat, y = (b : Int) := ⟨y.toNat, by omega⟩
          have hwa : wf (a : Int) := wf_of (by omega) (by omega)
          have hwb : wf (b : Int) := wf_of (by omega) (by omega)
          have l1 := (HP6.out.alloc (.cells #[.int .i64 (a : Int), .int .i64 (b : Int)] 35)).look_ok Try.underlying66 (zero3 _) hwa
          have l2 := (HP6.out.alloc (.cells #[.int .i64 (a : Int), .int .i64 (b : Int)] 35)).look Try.underlying66 (zero3 _) hwb
          have hrb : (plK ord ord.length (b : Int)).getD (.int .i64 0) = .int .i64 ((plO ord ord.length (b : Int)).getD 0) := by
            unfold plK; cases plO ord ord.length (b : Int) <;> rfl
          rw [hrb] at l2
          have hra : plK ord ord.length (a : Int) = (plO ord ord.length (a : Int)).map (.int .i64) := rfl
          rw [hra] at l1
          have HY := Lib.hid hy
          have HLS := Lib.hid hls
          clear hec hX hls hy hrb hra hlm
          obtain ⟨rb, hrb⟩ : ∃ rb, (plO ord ord.length (b : Int)).getD 0 = rb := ⟨_, rfl⟩
          rw [hrb] at l2 hbb
          clear hrb
          cases hpa : plO ord ord.length (a : Int) with
          | none =>
            rw [hpa] at l1 hbb
            have HNB := Lib.hid (HFI.out (by rw [hbk, hbb]; rfl))
            have HBB := Lib.hid hbb
            clear hbk hbb hpa
            go_wp2_with fail
            go_roundw
            case rel => exact ⟨k + 1, by omega, by go_num, (HLk.out.below (below_new (Below.refl _ _) _)).next (fun t => by rw [HLS.out t, if_neg (by rw [HY.out] at *; simp [HBB.out])]), (HX.out.then (below_new (Below.refl _ _) _) hszx), HNB.out⟩
            case measure => simp [intOf]; omega
          | some ra =>
            rw [hpa] at l1 hbb
            by_cases hgt : ra < rb
            · have p1 : decide (ra < rb) = true := decide_eq_true hgt
              have hbb2 : backB ord ((a : Int), (b : Int)) = false := by rw [hbb]; simp [hgt]
              have HNB := Lib.hid (HFI.out (by rw [hbk, hbb2]; rfl))
              have HBB := Lib.hid hbb2
              clear hbk hbb hbb2 hpa hgt
              go_wp2_with fail
              go_roundw
              case rel => exact ⟨k + 1, by omega, by go_num, (HLk.out.below (below_new (Below.refl _ _) _)).next (fun t => by rw [HLS.out t, if_neg (by simp [HBB.out])]), (HX.out.then (below_new (Below.refl _ _) _) hszx), HNB.out⟩
              case measure => simp [intOf]; omega
            · have p1 : decide (ra < rb) = false := decide_eq_false hgt
              have hbb2 : backB ord ((a : Int), (b : Int)) = true := by rw [hbb]; simp [hgt]
              have hdm := dominates27 D ((List.range bs.length).map R) dc (b : Int) (a : Int) (wr.alloc (.cells #[.int .i64 (a : Int), .int .i64 (b : Int)] 35)) (HD6.out.alloc _) (by simpa using hl)
              rw [show ((List.range bs.length).map R).length = bs.length by simp] at hdm
              cases hdom : domB ((List.range bs.length).map R) (b : Int) (a : Int) with
              | false =>
                rw [hdom] at hdm
                have HDM := Lib.hid hdm
                have HBK := Lib.hid (show badB ord ((List.range bs.length).map R) ((a : Int), (b : Int)) = true by rw [hbk, hbb2, hdom]; rfl)
                clear hdm hbk hbb hpa hgt
                go_wp2_with (first | (go_at_call 27; refine HDM.out.mono ?_; rintro e w6 ⟨rfl, hb6⟩
                                      have z0 := (hb6.cell (p := ⟨wr.heap.size, 0, none⟩) (by simp)).trans (show _ = some (.int .i64 (a : Int)) by simp)
                                      have z1 := (hb6.cell (p := ⟨wr.heap.size, 1, none⟩) (by simp)).trans (show _ = some (.int .i64 (b : Int)) by simp)
                                      have HB6 := Lib.hid hb6; clear hb6))
                go_quiet (fail)
                go_wp2_with fail
                go_ret3
                have hff := find_first (p := badB ord ((List.range bs.length).map R)) hlt (by rw [HY.out]; exact HBK.out) HBAD.out
                rw [HY.out, ← HFE.out] at hff
                refine ⟨fun q hq => ?_, fun hq => ?_, ?_⟩
                · rw [hff] at hq; cases hq; rfl
                · rw [hff] at hq; cases hq
                · have h1 : Below w.heap.size w wr := HB5.out.trans (HX.out.below (m := w.heap.size) (by omega) (by omega))
                  exact below_drewN ((below_new h1 _).trans (HB6.out.mono (by have := h1.size; simp; omega))) _
              | true =>
                rw [hdom] at hdm
                have HDM := Lib.hid hdm
                clear hdm hbb hpa hgt
                go_wp2_with (first | (go_at_call 27; refine HDM.out.mono ?_; rintro e w6 ⟨rfl, hb6⟩
                                      have z0 := (hb6.cell (p := ⟨wr.heap.size, 0, none⟩) (by simp)).trans (show _ = some (.int .i64 (a : Int)) by simp)
                                      have z1 := (hb6.cell (p := ⟨wr.heap.size, 1, none⟩) (by simp)).trans (show _ = some (.int .i64 (b : Int)) by simp)
                                      have hbx : w6.heap[wr.heap.size]? = some (.cells #[.int .i64 (a : Int), .int .i64 (b : Int)] 35 (0, 0)) := (hb6.block wr.heap.size (by simp)).trans (by show (wr.heap.push _)[wr.heap.size]? = _; simp)
                                      have hs6 : wr.heap.size < w6.heap.size := by have := hb6.size; simp at this; omega
                                      have HB6 := Lib.hid hb6; clear hb6))
                have hLat6 := ((HLk.out.below (below_new (Below.refl _ _) _)).below HB6.out).below (below_drew w6)
                obtain ⟨vm, q, hq, m1, m2, m3, m4⟩ := hLat6
                have l3 : (Instr.lookup 67 (.map (some wq.heap.size)) (.int .i64 (b : Int)) false).run Try.prog w6.drew = .ok ((vm (b : Int)).getD (.slice none 0 0)) w6.drew := m1.look Try.underlying67 (zero28 _) hwb
                have l4 : (Instr.lookup 67 (.map (some wq.heap.size)) (.int .i64 (b : Int)) false).run Try.prog (w6.alloc (.cells #[.int .i64 (a : Int)] 3)).drew = .ok ((vm (b : Int)).getD (.slice none 0 0)) (w6.alloc (.cells #[.int .i64 (a : Int)] 3)).drew := (m1.alloc (.cells #[.int .i64 (a : Int)] 3)).look Try.underlying67 (zero28 _) hwb
                have hlen := latK_length ord es k b
                obtain ⟨v', w7, hrun, hown', hgrow, hnil', hloc⟩ := run_append_own_at (P := Try.prog) (w6.drew.alloc (.cells #[.int .i64 (a : Int)] 3)) W4.heap.size 28 28 3 i3 (.int .i64 0) 1 8 Try.underlying28 hi3 hy0 hy1 hy2 rfl (by decide) _ _ _ ((m2 b).alloc _) ⟨w6.heap.size, 0, none⟩ 1 1 [.int .i64 (a : Int)] rfl (cell_one_new _ _ _) (by simp [Value.oneCell']) (by unfold maxLen; omega) (by omega) (by simp; omega)
                have hbx7 : w7.heap[wr.heap.size]? = some (.cells #[.int .i64 (a : Int), .int .i64 (b : Int)] 35 (0, 0)) := (hgrow.block wr.heap.size (by simp; omega) (fun e => by
                  obtain ⟨cur, hc⟩ := own_cell (m2 b) e.symm
                  have hbx' : w6.drew.heap[wr.heap.size]? = some (.cells #[.int .i64 (a : Int), .int .i64 (b : Int)] 35 (0, 0)) := hbx
                  rw [hbx'] at hc
                  have := (Obj.cells.inj (Option.some.inj hc)).2.1
                  exact absurd this (by decide))).trans ((Below.heap_alloc _ _ wr.heap.size hs6).trans hbx)
                have z2 : w7.cell? ⟨wr.heap.size, 0, none⟩ = some (.int .i64 (a : Int)) := by simp [World.cell?, hbx7]
                have z3 : w7.cell? ⟨wr.heap.size, 1, none⟩ = some (.int .i64 (b : Int)) := by simp [World.cell?, hbx7]
                obtain ⟨w8, hup, hL8, hg8⟩ := LatM.put hq m1 m2 m3 m4 (by unfold maxLen; omega) b hwb hgrow hown' hloc
                obtain ⟨v, hv⟩ : ∃ v, (vm (b : Int)).getD (.slice none 0 0) = v := ⟨_, rfl⟩
                rw [hv] at l3 l4 hrun
                have HRUN := Lib.hid (show (Builtin.append_ #[28, 28] 28 #[v, .slice (some ⟨w6.heap.size, 0, none⟩) 1 1]).run Try.prog (w6.alloc (.cells #[.int .i64 (a : Int)] 3)).drew = .ok v' w7 from hrun)
                have HL8 := Lib.hid hL8
                have HG7 := Lib.hid hgrow
                have HG8 := Lib.hid hg8
                have HR7 := Lib.hid (fun k (e : ((vm (b : Int)).getD (.slice none 0 0)).ownBlock = some k) => (.inl (((m2 b).lt k e).1) : W4.heap.size ≤ k ∨ k = wq.heap.size))
                have HBB := Lib.hid hbb2
                have HBK := Lib.hid (show badB ord ((List.range bs.length).map R) ((a : Int), (b : Int)) = false by rw [hbk, hbb2, hdom]; rfl)
                clear hbx hbx7 hrun hL8 hg8 hown' hgrow hnil' hloc m1 m2 m3 m4 hv hbk hdom hbb2
                have hX8 : Bex W4.heap.size wq.heap.size W4 w8 := by
                  have h6 := (HX.out.then (below_new (Below.refl _ wr) (.cells #[.int .i64 (a : Int), .int .i64 (b : Int)] 35)) hszx).then HB6.out (by rw [World.size_alloc]; omega)
                  have h7 := (h6.then (below_drew w6) h6.size).then (below_new (Below.refl _ w6.drew) (.cells #[.int .i64 (a : Int)] 3)) h6.size
                  have hs66 : w6.heap.size ≤ (w6.drew.alloc (.cells #[.int .i64 (a : Int)] 3)).heap.size := by rw [World.size_alloc]; exact Nat.le_succ _
                  have hs67 := Nat.le_trans h6.size hs66
                  exact (h7.row HG7.out hs67 HR7.out).row HG8.out (Nat.le_trans hs67 HG7.out.size) (fun k e => by cases e; exact .inr rfl)
                have HNB := Lib.hid (HFI.out HBK.out)
                have HX8 := Lib.hid hX8
                have HLS8 := Lib.hid (fun t => (by
                  rw [HLS.out t]
                  by_cases e : t = b
                  · subst e; rw [if_pos ⟨HBB.out, rfl⟩, if_pos rfl]
                  · rw [if_neg (fun h => e (by have := h.2; omega)), if_neg e] : latK ord es (k + 1) t = if t = b then latK ord es k b ++ [(a : Int)] else latK ord es k t))
                clear hX8
                go_region_law (refine step_append_eq rfl (.tmp 77) (.tmp 80) 28 28 rfl rfl v (.slice (some ⟨w6.heap.size, 0, none⟩) 1 1) v' (by simp [Act.eval, Act.put]) (by simp [Act.eval, Act.put]) HRUN.out ?_)
                all_goals
                  go_wp2_with fail
                  go_roundw
                  case rel => exact ⟨k + 1, by omega, by go_num, HL8.out.next0 HLS8.out, HX8.out, HNB.out⟩
                  case measure => simp [intOf]; omega
        · obtain rfl : k = es.length := by omega
          rename World => wl
          have hnone : findE bs R = none := by rw [HFE.out]; exact find_none HBAD.out
          have HNONE := Lib.hid hnone
          have hlm : ∃ q g, HMap W4 wq.heap.size q g := by obtain ⟨vm, q, _, h1, _⟩ := HL5.out; exact ⟨q, vm, h1⟩
          obtain ⟨lq, lg, hlm⟩ := hlm
          have HPl := Lib.hid (HP5.out.bex hX (by omega) (by omega))
          have cGl := hX.cell hlm (p := ⟨w.heap.size, 0, none⟩) (show w.heap.size < W4.heap.size by omega) cG5
          have cHl := hX.cell hlm (p := ⟨w.heap.size, 1, none⟩) (show w.heap.size < W4.heap.size by omega) cH5
          have HBl := Lib.hid (HB5.out.trans (hX.below (m := w.heap.size) (by omega) (by omega)))
          obtain ⟨vm, q, hq, m1, m2, m3, m4⟩ := HLk.out
          have hfl : ∀ t, latK ord es es.length t = latF bs t := fun t => (HLF.out t).symm
          simp only [hfl] at m2 m4
          have HS35 := Lib.hid (sorted35A wq.heap.size q vm ((headF bs).map Int.ofNat) wl m1 (headF_sorted bs) (fun x => (headF_mem HV.out x).trans (m4 x).symm) (by rw [List.length_map]; exact Nat.le_trans (headF_len bs) (by omega)))
          have hlbw : wq.heap.size < wl.heap.size := by omega
          have hpbw : W2.heap.size < wl.heap.size := by omega
          have hgw : w.heap.size < wl.heap.size := by omega
          have M1 := Lib.hid m1
          have M2 := Lib.hid m2
          clear hX hlm hnone m1 m2 m3 m4 hfl
          go_wp2_with (first
            | (go_at_call 36; refine (keys36 _ _).mono ?_; rintro e w4 ⟨rfl, rfl⟩)
            | (go_at_call 35; refine HS35.out.mono ?_; rintro e W5 ⟨v5, rfl, hown, hb⟩
               have hown5 : W5.ownsRow (wl.heap.size + 1) 3 1 v5 ((headF bs).map Int.ofNat).length (icells ((headF bs).map Int.ofNat)) := hown
               obtain ⟨A5, c5, rfl, hI5⟩ := IV.of_own hown5
               have HI5 := Lib.hid hI5
               have HB6 := Lib.hid (HBl.out.trans (hb.mono HBl.out.size))
               have HPm := Lib.hid (HPl.out.below hb hpbw)
               have M1m := Lib.hid (M1.out.below hb hlbw)
               have M2m := Lib.hid (fun t => own_below (M2.out t) hb)
               have cGm := (hb.cell (p := ⟨w.heap.size, 0, none⟩) hgw).trans cGl
               have cHm := (hb.cell (p := ⟨w.heap.size, 1, none⟩) hgw).trans cHl
               have hs5 := hb.size
               have hll5 : ((headF bs).map Int.ofNat).length = (headF bs).length := by simp
               clear hown hown5 hb hI5 cGl cHl))
          have hhl := headF_len bs
          obtain ⟨i30, hi30, hx0, hx1, hx2⟩ := info_parts info30
          have hlbm := M1m.out.lt
          have hpbm := HPm.out.lt
          have hgm : w.heap.size < W5.heap.size := by omega
          go_loopw [14, 87] (fun v i wr => ∃ k : Nat, k ≤ (headF bs).length ∧ i = .int .i64 k ∧ OL wr W5.heap.size 0 v ((ls0 bs pv).take k) ∧ Below W5.heap.size W5 wr) (fun _ i _ => (headF bs).length - (intOf i).toNat)
          case atStart => exact ⟨0, by omega, rfl, OL.nil _ _ _, Below.refl _ _⟩
          case round =>
            obtain ⟨k, hk, rfl, hO, hB⟩ := hrel
            have HO := Lib.hid hO
            have HB := Lib.hid hB
            have hszb := hB.size
            clear hO
            by_cases hlt : k < (headF bs).length
            · obtain ⟨hb1, ho1, hA5, hhb, hhc⟩ := HI5.out (by rw [hll5]; omega)
              cases hA5
              have g := (hB.cell (p := ⟨hb1, ho1 + k, none⟩) hhb).trans (hhc k (by rw [hll5]; exact hlt))
              rw [getD_map_ofNat (headF bs) hlt] at g
              have hhn := headF_lt (getD_mem_nat hlt)
              have hls := ls0_succ bs pv hlt
              obtain ⟨h, hh⟩ : ∃ h, (headF bs).getD k 0 = h := ⟨_, rfl⟩
              rw [hh] at g hhn hls
              have HLS := Lib.hid hls
              have hwh : wf (h : Int) := wf_of (by omega) (by omega)
              have l5 := (M1m.out.below hB hlbm).look Try.underlying67 (zero28 _) hwh
              have hvo := own_below (M2m.out h) hB
              obtain ⟨Ah, ch, hvh, hIh⟩ := IV.of_own hvo
              rw [hvh] at l5
              have hlz := latK_length ord es es.length h
              rw [← HLF.out h] at hlz
              have HIh := Lib.hid hIh
              have HS56 := Lib.hid (sorted35_values Ah ch (latF bs h) wr hIh (by omega))
              have HPr := Lib.hid (HPm.out.below hB hpbm)
              have cGr := (hB.cell (p := ⟨w.heap.size, 0, none⟩) hgm).trans cGm
              have cHr := (hB.cell (p := ⟨w.heap.size, 1, none⟩) hgm).trans cHm
              have hgr : w.heap.size < wr.heap.size := by omega
              have hpr := HPr.out.lt
              have HBr := Lib.hid (HB6.out.trans (hB.mono HB6.out.size))
              have HTr := Lib.hid (HT.out.step HBr.out)
              clear hB hhc hh hls hvo hvh hIh
              go_wp2_with (first
                | (go_at_call 37; refine (values37 _ _ _ _).mono ?_; rintro e w4 ⟨rfl, rfl⟩)
                | (go_at_call 35; refine HS56.out.mono ?_; rintro e w6 ⟨v6, rfl, hown, hb⟩
                   have hown6 : w6.ownsRow (wr.heap.size + 1) 3 1 v6 (srt (latF bs h)).length (icells (srt (latF bs h))) := by rw [srt_length]; exact hown
                   obtain ⟨A6, c6, rfl, hI6⟩ := IV.of_own hown6
                   have HO6 := Lib.hid hown6
                   have HB66 := Lib.hid hb
                   have cGs := (hb.cell (p := ⟨w.heap.size, 0, none⟩) hgr).trans cGr
                   have cHs := (hb.cell (p := ⟨w.heap.size, 1, none⟩) hgr).trans cHr
                   have HC38 := Lib.hid (collect38 A B bs.length c d bs pv bs.length h A6 (srt (latF bs h)) c6 w6 (HTr.out.step hb) hpl.out hl hhn (fun j hj => HPZ.out j (by rw [hpl.out]; exact hj)) (fun j hj q hq => HPIN.out j hj q hq) hI6 (by rw [srt_length]; omega) (fun q hq => by obtain ⟨j, hj, hx⟩ := latF_src (mem_srt.1 (getD_mem hq)); omega) W2.heap.size ord.length (plK ord ord.length) (HPr.out.below hb hpr) (plF bs) HPF.out HPLN.out)
                   have hs6 := hb.size
                   clear hown hown6 hb hI6 cGr cHr)
                | (go_at_call 38; refine HC38.out.mono ?_; rintro e w7 ⟨⟨v7, rfl, hown7⟩, hb7⟩
                   have hown7' : w7.ownsRow w6.heap.size 3 1 v7 (lp0 bs pv h).bl.length (icells (lp0 bs pv h).bl) := by
                     have e : (lp0 bs pv h).bl.length = (colN (plF bs) (pvN pv) bs.length h ((srt (latF bs h)).map Int.toNat)).length := by simp [lp0]
                     rw [e]; exact hown7
                   obtain ⟨A7, c7, rfl, hI7⟩ := IV.of_own hown7'
                   have HO7 := Lib.hid hown7'
                   have hb57 : Below wr.heap.size wr w7 := HB66.out.trans (hb7.mono (by omega))
                   have HB57 := Lib.hid hb57
                   have HO67 := Lib.hid (own_below HO6.out hb7)
                   have hs7 : wr.heap.size ≤ w7.heap.size := hb57.size
                   have hOL := HO.out.below hb57
                   obtain ⟨cs, hrow, hcs⟩ := hOL
                   have HCS := Lib.hid hcs
                   have hk0 : ((ls0 bs pv).take k).length ≤ 1048576 := by rw [List.length_take]; omega
                   clear hown7 hown7' hI7 hb7 hb57 hcs)
                | (at_builtin; refine wpList_append_own _ rfl _ _ 26 rfl W5.heap.size 30 i30 (.agg #[.int .i64 0, .slice none 0 0, .slice none 0 0, .int .i64 0]) 4 64 Try.underlying26 hi30 hx0 hx1 hx2 rfl (by decide) _ _ _ rfl (hrow.alloc _) ⟨w7.heap.size, 0, none⟩ 1 1 [.int .i64 h, .slice A7 (lp0 bs pv h).bl.length c7, .slice A6 (srt (latF bs h)).length c6, .int .i64 (-1)] rfl rfl (cell_four_new _ _ _ _ _ _) (by simp [Value.oneCell']) (by unfold maxLen; omega) (by omega) (by simp; omega) ?_; intro v' w8 hown' hgrow hnil'
                   have HO8 := Lib.hid (OL.snoc cs hrow HCS.out hgrow (lp0 bs pv h) A7 c7 A6 c6 hown' (own_base HO7.out (Nat.zero_le _)) (own_base HO67.out (Nat.zero_le _)))
                   have HB8 := Lib.hid ((((HB.out.trans (HB57.out.mono hszb)).alloc (by omega) (.cells #[.int .i64 h, .slice A7 (lp0 bs pv h).bl.length c7, .slice A6 (srt (latF bs h)).length c6, .int .i64 (-1)] 30))).grown hgrow (by simp; omega) (fun k e => (hrow.lt k e).1))
                   clear hown' hgrow hnil'))
              go_roundw
              case rel => exact ⟨k + 1, by omega, by go_num, by rw [HLS.out]; exact HO8.out, HB8.out⟩
              case measure => simp [intOf]; omega
            · obtain rfl : k = (headF bs).length := by omega
              rename World => wh
              have hl0 : (ls0 bs pv).length = (headF bs).length := by simp [ls0]
              have hO2 := HO.out
              rw [← hl0, List.take_length] at hO2
              have hO3 : OL wh W5.heap.size 0 u14 (lsM (ls0 bs pv) 0) := by rw [lsM_zero]; exact hO2
              have hLZ := ls0_LZ bs pv hl (by rw [hesL.out]; exact hes)
              have hall := lsM_all bs pv
              have hac := fun k (hk : k < (ls0 bs pv).length) => arK_congr (l := ls0 bs pv) (l' := lsM (ls0 bs pv) k) (fun j hj => ⟨(lsM_hd _ k hj).1, (lsM_hd _ k hj).2.1⟩) (i := k) hk
              have hsu := fun k (hk : k < (ls0 bs pv).length) j hj => lsM_succ (ls0 bs pv) (k := k) hk (j := j) hj
              have hlz := fun k => lsM_LZ hLZ k
              have hll := fun k => lsM_length (ls0 bs pv) k
              obtain ⟨ls, hls⟩ : ∃ ls, ls0 bs pv = ls := ⟨_, rfl⟩
              rw [hls] at hO3 hall hl0
              simp only [hls] at hac hsu hlz hll
              obtain ⟨Av, cv, hu14, hLV⟩ := hO3.lv
              rw [hll 0] at hu14
              subst hu14
              have HO3 := Lib.hid hO3
              have HALL := Lib.hid hall
              have HAC := Lib.hid hac
              have HSU := Lib.hid hsu
              have HLZ := Lib.hid hlz
              have HLL := Lib.hid hll
              have hlsl : ls.length ≤ 1048576 := by omega
              clear hO2 hO3 hLV hLZ hall hac hsu hlz hll hls hB HO
              have HL0 := Lib.hid hl0
              clear hl0
              go_wp2_with fail
              go_loopw [110] (fun i wr => ∃ k : Nat, k ≤ ls.length ∧ i = .int .i64 k ∧ OL wr W5.heap.size 0 (.slice Av ls.length cv) (lsM ls k) ∧ Below W5.heap.size W5 wr) (fun i _ => ls.length - (intOf i).toNat)
              case atStart => exact ⟨0, by omega, rfl, HO3.out, HB.out⟩
              case round =>
                obtain ⟨k, hk, rfl, hO, hB⟩ := hrel
                have HOk := Lib.hid hO
                have HBk := Lib.hid hB
                have hszk := hB.size
                by_cases hlt : k < ls.length
                · obtain ⟨A9, c9, he9, hLV9⟩ := hO.lv
                  rw [HLL.out k] at he9
                  cases he9
                  have hgl : ∃ g, Av = some ⟨g, 0, none⟩ := by
                    obtain ⟨cs, hr, _⟩ := hO
                    rcases hr.2 with ⟨h0, _⟩ | ⟨g, cap, cur, h0, _⟩
                    · have := (Value.slice.inj h0).2.1; omega
                    · exact ⟨g, (Value.slice.inj h0).1⟩
                  obtain ⟨g, rfl⟩ := hgl
                  have hcall := around39 (some ⟨g, 0, none⟩) (lsM ls k) cv k wr hLV9 (by rw [HLL.out k]; exact hlt) (by rw [HLL.out k]; omega) (HLZ.out k)
                  rw [HLL.out k, HAC.out k hlt ls.length (Nat.le_refl _)] at hcall
                  have HCALL := Lib.hid hcall
                  have tk : (k : Int) < (ls.length : Int) := by omega
                  clear hO hB hLV9 hcall
                  go_wp2_with (first
                    | (go_at_call 39; refine HCALL.out.mono ?_; rintro e w8 ⟨rfl, hb8⟩
                       have hO8 := HOk.out.below hb8
                       obtain ⟨hO9, hg9⟩ := OL.setPa (ls' := lsM ls (k + 1)) (by rw [HLL.out k]; exact hO8) (Nat.zero_le _) (i := k) (by rw [HLL.out k]; exact hlt) (arK ls k ls.length) (by rw [HLL.out k, HLL.out (k + 1)]) (fun j hj => by rw [HLL.out k] at hj; exact HSU.out k hlt j hj)
                       obtain ⟨cs8, hr8, hc8⟩ := hO8
                       obtain ⟨_, _, _, _, _, _, _, hp8, _⟩ := hc8 k (by rw [HLL.out k]; exact hlt)
                       rw [HLL.out k] at hr8 hO9
                       have z8 := hr8.cellAt (k * 4 + 3) (by omega)
                       rw [hp8] at z8
                       have f8 := hr8.frozenAt (k * 4 + 3)
                       have HO9 := Lib.hid hO9
                       have HB9 := Lib.hid ((HBk.out.trans (hb8.mono hszk)).grown hg9 (by have := hb8.size; omega) (fun q e => by cases e; exact (hr8.lt g rfl).1))
                       clear hb8 hO9 hg9 hr8 hc8 hp8))
                  go_roundw
                  case rel => exact ⟨k + 1, by omega, by go_num, HO9.out, HB9.out⟩
                  case measure => simp [intOf]; omega
                · obtain rfl : k = ls.length := by omega
                  obtain ⟨A9, c9, he9, hLV9⟩ := hO.lv
                  rw [HLL.out ls.length] at he9
                  cases he9
                  have HLV := Lib.hid hLV9
                  clear hO hB hLV9
                  go_wp2_with fail
                  go_ret3
                  refine ⟨fun q hq => (by rw [HNONE.out] at hq; cases hq), fun _ => ⟨Av, cv, ?_, ?_⟩, HB6.out.trans (HBk.out.mono (by omega))⟩
                  · rw [← HALL.out, HLL.out]; rfl
                  · rw [← HALL.out]; exact HLV.out
end Go.Proofs.Ytcbofikjcgdjmaa
