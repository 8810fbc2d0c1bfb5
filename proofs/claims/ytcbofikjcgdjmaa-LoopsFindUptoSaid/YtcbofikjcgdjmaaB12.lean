/- The contract of dominator.Tree. -/
import Derived.Test.YtcbofikjcgdjmaaB11
import Derived.BigRegion
namespace Go.Proofs.Ytcbofikjcgdjmaa
set_option linter.unusedVariables false
set_option linter.unusedSimpArgs false
open Go.RowKit

theorem TS.congr {W1 : World} {N n : Nat} {rk id rk' id' : Nat → Int} {W : World} (h : TS W1 N n rk id W) (e1 : ∀ t, t < n → rk t = rk' t) (e2 : ∀ t, t < n → id t = id' t) : TS W1 N n rk' id' W :=
  ⟨h.rB, h.iB, h.r.congr fun t ht => by rw [e1 t ht], h.i.congr fun t ht => by rw [e2 t ht], h.bel, h.size⟩
theorem TS.setR {W1 : World} {N n : Nat} {rk id : Nat → Int} {W : World} (h : TS W1 N n rk id W) (b : Nat) (x : Int) : TS W1 N n (setI rk b x) id (W.setCell ⟨N, b, none⟩ (.int .i64 x)) := by
  refine ⟨h.rB.other (by simp) _, h.iB.other (by simp) _, (h.r.set b (.int .i64 x)).congr fun t ht => ?_, h.i.setOther (by simp) _, h.bel.setCell (p := ⟨N, b, none⟩) (Nat.le_refl _) _, by have := h.size; simpa using this⟩
  by_cases e : t = b <;> simp [setI, e]
theorem TS.setD {W1 : World} {N n : Nat} {rk id : Nat → Int} {W : World} (h : TS W1 N n rk id W) (b : Nat) (x : Int) : TS W1 N n rk (setI id b x) (W.setCell ⟨N + 2, b, none⟩ (.int .i64 x)) := by
  refine ⟨h.rB.other (by simp) _, h.iB.other (by simp) _, h.r.setOther (by simp) _, (h.i.set b (.int .i64 x)).congr fun t ht => ?_, h.bel.setCell (p := ⟨N + 2, b, none⟩) (by simp) _, by have := h.size; simpa using this⟩
  by_cases e : t = b <;> simp [setI, e]
theorem initI (k t : Nat) : setI (fun t => if t < k then (-1 : Int) else 0) k (-1) t = if t < k + 1 then -1 else 0 := by
  show (if t = k then (-1 : Int) else if t < k then -1 else 0) = if t < k + 1 then -1 else 0
  by_cases h : t = k
  · rw [if_pos h, if_pos (by omega)]
  · by_cases h2 : t < k
    · rw [if_neg h, if_pos h2, if_pos (by omega)]
    · rw [if_neg h, if_neg h2, if_neg (by omega)]
theorem TS.start (W1 : World) (n : Nat) : TS W1 W1.heap.size n (fun _ => 0) (fun _ => 0) ((((W1.alloc (.cells (madeCells #[.int .i64 0] n) 3)).alloc (.cells #[.slice (some ⟨W1.heap.size, 0, none⟩) n n] 28)).alloc (.cells (madeCells #[.int .i64 0] n) 3)).alloc
    (.cells #[.slice (some ⟨W1.heap.size + 2, 0, none⟩) n n] 28)) := by
  have b1 := below_new (Below.refl _ W1) (.cells (madeCells #[.int .i64 0] n) 3)
  refine ⟨?_, ?_, ?_, ?_, below_new (below_new (below_new b1 _) _) _, by simp⟩
  · have := Bx.new (W1.alloc (.cells (madeCells #[.int .i64 0] n) 3)) 28 (.slice (some ⟨W1.heap.size, 0, none⟩) n n)
    rw [World.size_alloc] at this
    exact (this.alloc _).alloc _
  · have := Bx.new (((W1.alloc (.cells (madeCells #[.int .i64 0] n) 3)).alloc (.cells #[.slice (some ⟨W1.heap.size, 0, none⟩) n n] 28)).alloc (.cells (madeCells #[.int .i64 0] n) 3)) 28 (.slice (some ⟨W1.heap.size + 2, 0, none⟩) n n)
    simp only [World.size_alloc] at this
    exact this
  · exact (((World.rowIs_made W1 (.int .i64 0) n 3).alloc _).alloc _).alloc _
  · have := World.rowIs_made ((W1.alloc (.cells (madeCells #[.int .i64 0] n) 3)).alloc (.cells #[.slice (some ⟨W1.heap.size, 0, none⟩) n n] 28)) (.int .i64 0) n 3
    simp only [World.size_alloc] at this
    exact this.alloc _

set_option maxRecDepth 100000 in
set_option maxHeartbeats 4000000 in
theorem tree25_no (A B : Option Addr) (bs : List Bk) (pv : List (List Int)) (c d : Nat) (w : World) (h : BV w A bs) (h' : RV w B pv) (hz : GZ bs pv) (hv : validB bs pv = false) :
    Calls Try.prog 25 #[.agg #[.slice A bs.length c, .slice B pv.length d]] w fun e w' => e = .returned (.slice none 0 0) ∧ Below w.heap.size w w' := by
  have HE := Lib.hid (fun W h h' => order26_no A B bs pv c d W h h' hz hv)
  have HS := Lib.hid h
  have HT := Lib.hid h'
  clear h h' hz hv
  go_enter Try.func25, Try.ntmps25
  go_wp2_with (go_at_call 26; refine (HE.out _ (HS.out.alloc _) (HT.out.alloc _)).mono ?_; rintro e w1 ⟨rfl, hb⟩; have HB := Lib.hid ((below_new (Below.refl _ _) _).trans (hb.mono (by simp))); clear hb)
  go_ret
  exact ⟨rfl, HB.out⟩

set_option maxRecDepth 100000 in
set_option maxHeartbeats 4000000 in
theorem tree25 (A B : Option Addr) (bs : List Bk) (pv : List (List Int)) (c d : Nat) (w : World) (h : BV w A bs) (h' : RV w B pv) (hz : GZ bs pv) (hv : validB bs pv = true) (f : Nat) (R : Nat → Int) (hR : treeF f bs pv = some R) :
    Calls Try.prog 25 #[.agg #[.slice A bs.length c, .slice B pv.length d]] w fun e w' => (∃ D cap, e = .returned (.slice D bs.length cap) ∧ IV w' D ((List.range bs.length).map R)) ∧ Below w.heap.size w w' := by
  have HE := Lib.hid (fun W h h' => order26 A B bs pv c d W h h' hz hv)
  have HS := Lib.hid h
  have HT := Lib.hid h'
  have HV := Lib.hid hv
  have hl := hz.len
  have h0 := (validB_okB hv).1
  have hpl := Lib.hid (validB_okB hv).2.1
  have HPZ := Lib.hid hz.pv
  obtain ⟨tl, htl⟩ := ord_cons h0
  have hol := ord_len hv
  have HOL := Lib.hid (ord_lt hv)
  obtain ⟨i3, hi3, hy0, hy1, hy2⟩ := info_parts info3r
  rw [treeF] at hR
  obtain ⟨ord, hord⟩ : ∃ ord, ordN bs = ord := ⟨_, rfl⟩
  rw [hord] at HE htl hol HOL hR
  have HR := Lib.hid hR
  have HO := Lib.hid htl
  have ho1 : 0 < ord.length := by rw [htl]; simp
  have ho2 : ((ord.length : Int) == 0) = false := by rw [beq_eq_false_iff_ne]; omega
  clear h h' hz hv hR hord htl
  go_enter Try.func25, Try.ntmps25
  go_wp2_with (first
    | (go_at_call 26; refine (HE.out _ (HS.out.alloc _) (HT.out.alloc _)).mono ?_; rintro e W1 ⟨⟨Ro, co, rfl, hco, hI⟩, hb⟩
       obtain ⟨ob, oo, rfl, hob, hoc⟩ := hI (by simpa using ho1)
       have HB := Lib.hid ((below_new (Below.refl _ _) (.cells #[.slice A bs.length c, .slice B pv.length d] 25)).trans (hb.mono (by simp)))
       have cG := (hb.cell (p := ⟨w.heap.size, 0, none⟩) (by simp)).trans (show _ = some (.slice A bs.length c) by simp)
       have cH := (hb.cell (p := ⟨w.heap.size, 1, none⟩) (by simp)).trans (show _ = some (.slice B pv.length d) by simp)
       have hGN : w.heap.size < W1.heap.size := by have := hb.size; simp at this; omega
       have HOC := Lib.hid hoc
       clear hb hI hoc)
    | (at_make; refine wpList_make_row _ rfl _ _ 28 rfl 3 i3 (.int .i64 0) Try.underlying28 hi3 hy0 hy1 rfl .i64 .i64 bs.length rfl rfl (by rw [hy2]; omega) (by omega) ?_))
  have HT0 := Lib.hid (TS.start W1 bs.length)
  obtain ⟨V0, hV0⟩ : ∃ V0, ((((W1.alloc (.cells (madeCells #[.int .i64 0] bs.length) 3)).alloc (.cells #[.slice (some ⟨W1.heap.size, 0, none⟩) bs.length bs.length] 28)).alloc (.cells (madeCells #[.int .i64 0] bs.length) 3)).alloc
    (.cells #[.slice (some ⟨W1.heap.size + 2, 0, none⟩) bs.length bs.length] 28)) = V0 := ⟨_, rfl⟩
  rw [hV0] at HT0
  rw [show ((((W1.alloc (.cells (madeCells #[.int .i64 0] bs.length) 3)).alloc (.cells #[.slice (some ⟨W1.heap.size, 0, none⟩) bs.length bs.length] 28)).alloc (.cells (madeCells #[.int .i64 0] bs.length) 3)).alloc
    (.cells #[.slice (some ⟨W1.heap.size + 1 + 1, 0, none⟩) bs.length bs.length] 28)) = V0 from hV0]
  clear hV0
  have HCG := Lib.hid cG
  have HCH := Lib.hid cH
  clear cG cH
  go_loopw [31] (fun i wr => ∃ k : Nat, k ≤ bs.length ∧ i = .int .i64 k ∧ TS W1 W1.heap.size bs.length (fun t => if t < k then -1 else 0) (fun t => if t < k then -1 else 0) wr) (fun i _ => bs.length - (intOf i).toNat)
  case atStart => exact ⟨0, by omega, rfl, HT0.out⟩
  case round =>
    obtain ⟨k, hk, rfl, hT⟩ := hrel
    have HTk := Lib.hid hT
    have c1 := hT.rB.cell
    have c2 := hT.iB.cell
    by_cases hlt : k < bs.length
    · have d1 := hT.r.cell hlt
      have d2 := hT.i.cell hlt
      have e1 := hT.r.frozen k
      have e2 := hT.i.frozen k
      clear hT
      go_wp2_with fail
      go_region
      go_wp2_with fail
      go_roundw
      case rel => exact ⟨k + 1, by omega, by go_num, ((HTk.out.setR k (-1)).setD k (-1)).drew.congr (fun t ht => initI k t) (fun t ht => initI k t)⟩
      case measure => simp [intOf]; omega
    · obtain rfl : k = bs.length := by omega
      have HT1 := Lib.hid (HTk.out.congr (rk' := rkK ord 0) (id' := fun _ => -1) (fun t ht => by rw [if_pos ht]; rfl) (fun t ht => by rw [if_pos ht]))
      clear hT c1 c2 HTk HT0
      go_wp2_with fail
      go_loopw [43] (fun i wr => ∃ k : Nat, k ≤ ord.length ∧ i = .int .i64 k ∧ TS W1 W1.heap.size bs.length (rkK ord k) (fun _ => -1) wr) (fun i _ => ord.length - (intOf i).toNat)
      case atStart => exact ⟨0, by omega, rfl, HT1.out⟩
      case round =>
        obtain ⟨k, hk, rfl, hT⟩ := hrel
        have HTk := Lib.hid hT
        have c1 := hT.rB.cell
        have c2 := hT.iB.cell
        by_cases hlt : k < ord.length
        · have g := (hT.bel.cell (p := ⟨ob, oo + k, none⟩) hob).trans (HOC.out k (by simpa using hlt))
          rw [getD_map_ofNat ord hlt] at g
          have htn := HOL.out _ (getD_mem_nat hlt)
          have hrk : rkK ord (k + 1) = setI (rkK ord k) (ord.getD k 0) k := rfl
          obtain ⟨t, ht⟩ : ∃ t, ord.getD k 0 = t := ⟨_, rfl⟩
          rw [ht] at g htn hrk
          have HRK := Lib.hid hrk
          have d1 := hT.r.cell htn
          have e1 := hT.r.frozen t
          clear hT ht hrk
          go_wp2_with fail
          go_roundw
          case rel => exact ⟨k + 1, by omega, by go_num, by rw [HRK.out]; exact HTk.out.setR t k⟩
          case measure => simp [intOf]; omega
        · obtain rfl : k = ord.length := by omega
          obtain ⟨rk, hrk⟩ : ∃ rk, rkK ord ord.length = rk := ⟨_, rfl⟩
          rw [hrk] at HTk HR
          have d1 := hT.i.cell (i := 0) (by omega)
          have e1 := hT.i.frozen 0
          clear hT hrk
          go_wp2_with fail
          obtain ⟨R0, hR0, hRR⟩ := Option.map_eq_some_iff.1 HR.out
          have HRR := Lib.hid hRR
          have HT2 := Lib.hid (HTk.out.setD 0 0)
          have HR0 := Lib.hid hR0
          obtain ⟨V1, hV1⟩ : ∃ V1, wr.setCell ⟨W1.heap.size + 2, 0, none⟩ (.int .i64 0) = V1 := ⟨_, rfl⟩
          rw [hV1] at HT2 ⊢
          clear hR0 hRR hV1 d1 e1 c1 c2 HTk
          go_loopg [10] f (fun g s10 wr => ∃ (id : Nat → Int) (ch : Bool), s10 = .bool ch ∧ TS W1 W1.heap.size bs.length rk id wr ∧ (if ch then passes rk bs.length (pvN pv) ord.tail g id = some R0 else id = R0))
          case atStart => exact ⟨_, true, rfl, HT2.out, HR0.out⟩
          case round =>
            obtain ⟨id, ch, rfl, hT, hch⟩ := hrel
            have c1 := hT.rB.cell
            have c2 := hT.iB.cell
            have HTi := Lib.hid hT
            have HCHG := Lib.hid hch
            clear hch
            cases ch with
            | false =>
              have d1 := hT.i.cell (i := 0) (by omega)
              have e1 := hT.i.frozen 0
              clear hT
              have HD := Lib.hid (HTi.out.setD 0 (-1))
              go_wp2_with fail
              go_ret
              refine ⟨⟨some ⟨W1.heap.size + 2, 0, none⟩, bs.length, rfl, fun hp => ⟨W1.heap.size + 2, 0, rfl, ?_, fun j hj => ?_⟩⟩, ?_⟩
              · have := HD.out.size; omega
              · have hj' : j < bs.length := by simpa using hj
                rw [Nat.zero_add, HD.out.i.cell hj', List.getD_eq_getElem?_getD, List.getElem?_map, List.getElem?_range hj', ← HRR.out, ← HCHG.out]
                rfl
              · exact HB.out.trans (HD.out.bel.mono HB.out.size)
            | true =>
              clear hT
              cases gk with
              | zero => exact absurd HCHG.out (by rw [if_pos rfl, passes]; simp)
              | succ g =>
                have hps := HCHG.out
                rw [if_pos rfl, passes] at hps
                obtain ⟨st, hst, hnext⟩ := Option.bind_eq_some_iff.1 hps
                have HST := Lib.hid hst
                have HNX := Lib.hid hnext
                clear hps hst hnext HCHG
                by_cases hco1 : co = 1
                · have hol1 : ord.length = 1 := by omega
                  have htl0 : ord.tail.length = 0 := by simp [hol1]
                  have hst := HST.out
                  rw [htl0, passK] at hst
                  cases hst
                  have HH := Lib.hid HNX.out
                  rw [if_neg (by simp)] at HH
                  have q5 : decide ((0 : Int) < ((ord.length - 1 : Nat) : Int)) = false := decide_eq_false (by omega)
                  have q6 : ((ord.length - 1 : Nat) : Int) = 0 := by omega
                  clear hco hol1
                  subst hco1
                  go_wp2_with fail
                  refine wp_loop_rounds 1 ?_
                  rw [rounds_succ]
                  go_wp2_with fail
                  go_roundg g
                  case rel => exact ⟨id, false, by go_num, HTi.out, by rw [if_neg (by simp)]; exact Option.some.inj HH.out⟩
                  case measure => omega
                · have hol0 : ord.length - 1 = ord.tail.length := by rw [List.length_tail]
                  have HOL0 := Lib.hid hol0
                  clear hol0
                  go_wp2_with fail
                  go_loopw [10, 60] (fun s10 i wr => ∃ (k : Nat) (id2 : Nat → Int) (ch : Bool), k ≤ ord.length - 1 ∧ i = .int .i64 k ∧ s10 = .bool ch ∧ passK rk bs.length (pvN pv) ord.tail id k = some (id2, ch) ∧ TS W1 W1.heap.size bs.length rk id2 wr) (fun _ i _ => (ord.length - 1) - (intOf i).toNat)
                  case atStart => exact ⟨0, id, false, by omega, rfl, rfl, rfl, HTi.out⟩
                  case round =>
                    obtain ⟨k, id2, ch, hk, rfl, rfl, hpk, hT⟩ := hrel
                    have HPK := Lib.hid hpk
                    have HT2 := Lib.hid hT
                    clear hpk
                    by_cases hlt : k < ord.length - 1
                    · have g0 := (hT.bel.cell (p := ⟨ob, oo + (k + 1), none⟩) hob).trans (HOC.out (k + 1) (by simp; omega))
                      rw [getD_map_ofNat ord (by omega)] at g0
                      have htn := HOL.out _ (getD_mem_nat (show k + 1 < ord.length by omega))
                      obtain ⟨st', hst'⟩ := passK_le (show k + 1 ≤ ord.tail.length by rw [← HOL0.out]; omega) HST.out
                      have hstep := hst'
                      rw [passK, HPK.out] at hstep
                      simp only [Option.bind_some] at hstep
                      rw [getD_tail] at hstep
                      have g : wr.cell? ⟨ob, oo + 1 + k, none⟩ = some (.int .i64 ((ord.getD (k + 1) 0 : Nat) : Int)) := by rw [show oo + 1 + k = oo + (k + 1) by omega]; exact g0
                      clear g0
                      obtain ⟨t, ht⟩ : ∃ t, ord.getD (k + 1) 0 = t := ⟨_, rfl⟩
                      rw [ht] at g htn hstep
                      have HST' := Lib.hid hst'
                      clear ht hst'
                      rw [stepB] at hstep
                      obtain ⟨bx, hbx, hstx⟩ := Option.map_eq_some_iff.1 hstep
                      have HBX := Lib.hid hbx
                      have HSTX := Lib.hid hstx
                      clear hstep hbx hstx
                      have y1 := (hT.bel.cell (p := ⟨w.heap.size, 1, none⟩) hGN).trans HCH.out
                      have htp : t < pv.length := by rw [hpl.out]; exact htn
                      obtain ⟨pb, po, hBq, hpb, hpc⟩ := (HT.out.step HB.out) (by omega)
                      cases hBq
                      obtain ⟨A1, k1, r0, hA1⟩ := hpc t htp
                      replace r0 := (hT.bel.cell (p := ⟨pb, po + t, none⟩) hpb).trans r0
                      have hpz := HPZ.out t htp
                      have hpin := fun q hq => pvN_lt HV.out htn _ (getD_mem_nat (xs := pvN pv t) (k := q) hq)
                      have hplen := pvN_length pv t
                      have hpget := pvN_getD pv t
                      have hpin0 := fun q hq => pv_in HV.out htn (q := q) hq
                      obtain ⟨ps, hpsd⟩ : ∃ ps, pvN pv t = ps := ⟨_, rfl⟩
                      obtain ⟨pi, hpid⟩ : ∃ pi, nthR pv t = pi := ⟨_, rfl⟩
                      have HPIN1 := Lib.hid (pvN_lt HV.out htn)
                      rw [hpsd] at HBX hpin hplen hpget HPIN1
                      rw [hpid] at r0 hA1 hpz hplen hpget hpin0
                      have HPL := Lib.hid hplen
                      have HPG := Lib.hid hpget
                      have HPI0 := Lib.hid hpin0
                      have HA1 := Lib.hid hA1
                      have c1 := hT.rB.cell
                      have c2 := hT.iB.cell
                      clear hpsd hpid hpc hT hpin hplen hpget hpin0 hA1
                      have tlp : (t : Int) < (pv.length : Int) := by omega
                      go_wp2_with fail
                      go_loopw [13, 70] (fun s13 i W => ∃ (j : Nat) (best : Int) (q : Nat), j ≤ pi.length ∧ i = .int .i64 j ∧ s13 = .int .i64 best ∧ bestP rk id2 bs.length ps j = some best ∧ W = wr.drewN q) (fun _ i _ => pi.length - (intOf i).toNat)
                      case atStart => exact ⟨0, -1, 0, by omega, rfl, rfl, rfl, rfl⟩
                      case round =>
                        obtain ⟨j, best, q, hj, rfl, rfl, hbj, rfl⟩ := hrel
                        have hbin := bestP_in HPIN1.out (by rw [HPL.out]; exact hj) hbj
                        have HBJ := Lib.hid hbj
                        have HT3 := Lib.hid (HT2.out.drewN q)
                        have c3 := HT3.out.rB.cell
                        have c4 := HT3.out.iB.cell
                        clear hbj
                        by_cases hjt : j < pi.length
                        · obtain ⟨b1, off1, hAq, hbl1, hc⟩ := HA1.out (by omega)
                          cases hAq
                          have g1 := ((HT3.out.bel).cell (p := ⟨b1, off1 + j, none⟩) hbl1).trans (hc j hjt)
                          have hx := HPI0.out j hjt
                          have hgd := HPG.out j hjt
                          obtain ⟨x, hxx⟩ : ∃ x, pi.getD j 0 = x := ⟨_, rfl⟩
                          rw [hxx] at g1 hx hgd
                          obtain ⟨p, rfl⟩ : ∃ p : Nat, x = (p : Int) := ⟨x.toNat, by omega⟩
                          rw [Int.toNat_natCast] at hgd
                          have hpn : p < bs.length := by omega
                          obtain ⟨nb, hnb⟩ := bestP_le (show j + 1 ≤ ps.length by rw [HPL.out]; omega) HBX.out
                          have hstep := hnb
                          rw [bestP, HBJ.out] at hstep
                          simp only [Option.bind_some] at hstep
                          rw [hgd, stepP] at hstep
                          have HNB := Lib.hid hnb
                          have d1 := HT3.out.r.cell hpn
                          have d2 := HT3.out.i.cell hpn
                          obtain ⟨rp, hrp⟩ : ∃ x, rk p = x := ⟨_, rfl⟩
                          obtain ⟨ip, hip⟩ : ∃ x, id2 p = x := ⟨_, rfl⟩
                          rw [hrp] at d1 hstep
                          rw [hip] at d2 hstep
                          clear hc hxx hgd hnb hrp hip hx
                          by_cases f1 : rp < 0
                          · rw [if_pos (.inl f1)] at hstep
                            have p1 : decide (rp < 0) = true := decide_eq_true f1
                            have HS' := Lib.hid hstep
                            clear hstep f1
                            go_wp2_with fail
                            go_roundw
                            case rel => exact ⟨j + 1, best, q, by omega, by go_num, by go_num, by rw [HNB.out]; exact HS'.out.symm, rfl⟩
                            case measure => simp [intOf]; omega
                          by_cases f2 : ip < 0
                          · rw [if_pos (.inr f2)] at hstep
                            have p1 : decide (rp < 0) = false := decide_eq_false f1
                            have p2 : decide (ip < 0) = true := decide_eq_true f2
                            have HS' := Lib.hid hstep
                            clear hstep f1 f2
                            go_wp2_with fail
                            go_roundw
                            case rel => exact ⟨j + 1, best, q, by omega, by go_num, by go_num, by rw [HNB.out]; exact HS'.out.symm, rfl⟩
                            case measure => simp [intOf]; omega
                          rw [if_neg (by omega)] at hstep
                          have p1 : decide (rp < 0) = false := decide_eq_false f1
                          have p2 : decide (ip < 0) = false := decide_eq_false f2
                          by_cases f3 : best < 0
                          · rw [if_pos f3] at hstep
                            have p3 : decide (best < 0) = true := decide_eq_true f3
                            have HS' := Lib.hid hstep
                            clear hstep f1 f2 f3
                            go_wp2_with fail
                            go_roundw
                            case rel => exact ⟨j + 1, p, q, by omega, by go_num, by go_num, by rw [HNB.out]; exact HS'.out.symm, rfl⟩
                            case measure => simp [intOf]; omega
                          · rw [if_neg f3] at hstep
                            have p3 : decide (best < 0) = false := decide_eq_false f3
                            obtain ⟨mb, rfl⟩ : ∃ mb : Nat, best = (mb : Int) := ⟨best.toNat, by omega⟩
                            rw [Int.toNat_natCast] at hstep
                            obtain ⟨cc, hcc, hcc2⟩ := Option.map_eq_some_iff.1 hstep
                            have HM := Lib.hid (meet45 W1 W1.heap.size bs.length rk id2 (2 * bs.length) mb p cc (by omega) hpn hl hcc _ HT3.out)
                            have HS' := Lib.hid hcc2
                            clear hstep hcc hcc2 f1 f2 f3
                            go_wp2_with (first | (go_at_call 45; refine HM.out.mono ?_; rintro e w4 ⟨⟨rfl, hcn⟩, q', rfl⟩))
                            go_roundw
                            case rel => exact ⟨j + 1, cc, q + q', by omega, by go_num, by go_num, by rw [HNB.out, ← HS'.out]; rfl, rfl⟩
                            case measure => simp [intOf]; omega
                        · obtain rfl : j = pi.length := by omega
                          have hbb := HBJ.out
                          rw [← HPL.out, HBX.out] at hbb
                          cases hbb
                          have d2 := HT3.out.i.cell htn
                          have e2 := HT3.out.i.frozen t
                          obtain ⟨it, hit⟩ : ∃ x, id2 t = x := ⟨_, rfl⟩
                          rw [hit] at d2
                          have HX := HSTX.out
                          rw [hit] at HX
                          by_cases hq : bx = it
                          · rw [if_pos hq] at HX
                            have p1 : (bx != it) = false := by simpa using hq
                            have HX2 := Lib.hid HX
                            have HIT := Lib.hid hit
                            clear HX hq hit
                            go_wp2_with fail
                            go_roundw
                            case rel => exact ⟨k + 1, id2, ch, by omega, by go_num, by go_num, by rw [HST'.out, ← HX2.out], HT3.out⟩
                            case measure => simp [intOf]; omega
                          · rw [if_neg hq] at HX
                            have p1 : (bx != it) = true := by simpa using hq
                            have HX2 := Lib.hid HX
                            have HIT := Lib.hid hit
                            clear HX hq hit
                            go_wp2_with fail
                            go_roundw
                            case rel => exact ⟨k + 1, setI id2 t bx, true, by omega, by go_num, by go_num, by rw [HST'.out, ← HX2.out], HT3.out.setD t bx⟩
                            case measure => simp [intOf]; omega
                    · obtain rfl : k = ord.length - 1 := by omega
                      have hpp := HPK.out
                      rw [HOL0.out, HST.out] at hpp
                      cases hpp
                      have HN2 := Lib.hid HNX.out
                      clear hT
                      go_wp2_with fail
                      go_roundg g
                      case rel => exact ⟨id2, ch, by go_num, HT2.out, by have := HN2.out; cases ch with | true => simpa using this | false => exact Option.some.inj (by simpa using this)⟩
                      case measure => omega
end Go.Proofs.Ytcbofikjcgdjmaa
