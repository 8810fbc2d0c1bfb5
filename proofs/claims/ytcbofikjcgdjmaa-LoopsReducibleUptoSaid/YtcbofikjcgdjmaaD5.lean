/- The walk of LoopsReducible. -/
import Derived.Test.YtcbofikjcgdjmaaG11
import Derived.Test.YtcbofikjcgdjmaaD4
namespace Go.Proofs.Ytcbofikjcgdjmaa
set_option linter.unusedVariables false
set_option linter.unusedSimpArgs false
open Go.RowKit Go.Maps

/-- the edges and the blocks that are left, in memory -/
structure KR (V : World) (mb rq n : Nat) (es : Int → Int → Bool) (s : Nat → Bool) (qb : Nat) (W : World) : Prop where
  m : ∃ q, q ≤ qb ∧ AMap W mb q (aB es)
  r : BR W rq n s
  bel : Below V.heap.size V W
  hr : V.heap.size ≤ rq
  hm : V.heap.size ≤ mb
section
variable {V W : World} {mb rq n : Nat} {es : Int → Int → Bool} {s : Nat → Bool} {qb : Nat}
theorem KR.mono (h : KR V mb rq n es s qb W) {qb' : Nat} (hq : qb ≤ qb') : KR V mb rq n es s qb' W := by
  obtain ⟨q, h1, h2⟩ := h.m
  exact ⟨⟨q, by omega, h2⟩, h.r, h.bel, h.hr, h.hm⟩
theorem KR.ne (h : KR V mb rq n es s qb W) : mb ≠ rq := by
  obtain ⟨q, _, hm⟩ := h.m
  obtain ⟨c, hc, _⟩ := h.r
  exact hm.ne_cells hc
theorem KR.map {W' : World} (h : KR V mb rq n es s qb W) {es' : Int → Int → Bool} {q qb' : Nat} (hm : AMap W' mb q (aB es')) (hq : q ≤ qb') (hg : W.grownBy W' (some mb)) : KR V mb rq n es' s qb' W' :=
  ⟨⟨q, hq, hm⟩, World.rowIs.of_block h.r (hg.block rq (World.rowIs.lt h.r) (by have := h.ne; simp; omega)), h.bel.grown hg h.bel.size (fun q e => by cases e; exact h.hm), h.hr, h.hm⟩
theorem KR.put (h : KR V mb rq n es s qb W) (hq : qb < maxLen) {x y : Int} (hx : wf x) (hy : wf y) :
    ∃ W', (Instr.mapUpdate 54 (.map (some mb)) (.agg #[.int .i64 x, .int .i64 y]) (.bool true)).run Try.prog W = .ok () W' ∧ KR V mb rq n (upP es x y) s (qb + 1) W' := by
  obtain ⟨q, h1, h2⟩ := h.m
  obtain ⟨W', hup, hM, hg⟩ := h2.put Try.underlying54 (by omega) hx hy (.bool true)
  rw [aB_up] at hM
  exact ⟨W', hup, h.map hM (by omega) hg⟩
theorem KR.del (h : KR V mb rq n es s qb W) {x y : Int} (hx : wf x) (hy : wf y) :
    ∃ W', (Builtin.delete_ #[54, 35] 0 #[.map (some mb), .agg #[.int .i64 x, .int .i64 y]]).run Try.prog W = .ok (.tuple #[]) W' ∧ KR V mb rq n (dnP es x y) s qb W' := by
  obtain ⟨q, h1, h2⟩ := h.m
  obtain ⟨W', hup, hM, hg⟩ := h2.del Try.underlying54 hx hy 0
  rw [aB_dn] at hM
  exact ⟨W', hup, h.map hM h1 hg⟩
theorem KR.look (h : KR V mb rq n es s qb W) {x y : Int} (hx : wf x) (hy : wf y) : (Instr.lookup 54 (.map (some mb)) (.agg #[.int .i64 x, .int .i64 y]) false).run Try.prog W = .ok (.bool (es x y)) W := by
  obtain ⟨q, h1, h2⟩ := h.m
  have := h2.look Try.underlying54 (zero4 _) hx hy
  rw [aB_at] at this
  exact this
theorem KR.off (h : KR V mb rq n es s qb W) (b : Nat) : KR V mb rq n es (fun t => s t && decide (t ≠ b)) qb (W.setCell ⟨rq, b, none⟩ (.bool false)) := by
  obtain ⟨q, h1, h2⟩ := h.m
  refine ⟨⟨q, h1, h2.setCell (q := ⟨rq, b, none⟩) h.ne _⟩, (World.rowIs.set h.r b _).congr fun j _ => ?_, h.bel.setCell (p := ⟨rq, b, none⟩) h.hr _, h.hr, h.hm⟩
  by_cases e : j = b <;> simp [e]
end
/-- what one round has brought so far -/
def PR (s0 : Nat → Bool) (es0 : Int → Int → Bool) (al0 b : Nat) (s : Nat → Bool) (es : Int → Int → Bool) (al : Nat) : Prop :=
  al ≤ al0 ∧ (al + 1 ≤ al0 ∨ (s = s0 ∧ es = es0 ∧ ∀ b' p, b' < b → s0 b' = true → ¬ Uni (fun u v => natE es0 u v = true) p b'))

set_option maxRecDepth 100000 in
set_option maxHeartbeats 16000000 in
theorem reducible8 (A B : Option Addr) (bs : List Bk) (pv : List (List Int)) (c d : Nat) (w : World) (h : BV w A bs) (h' : RV w B pv) (hz : GZ bs pv) :
    Calls Try.prog 8 #[.agg #[.slice A bs.length c, .slice B pv.length d]] w fun e w' => e = .returned (.bool true) ∧ Below w.heap.size w w' := by
  have HN := Lib.hid (fun W h h' => next21_any A B bs pv c d W h h' hz)
  have HF := Lib.hid (fun W h h' => find20_any A B bs pv c d W h h' hz)
  have HS := Lib.hid h
  have HT := Lib.hid h'
  have HZ := Lib.hid hz
  clear h h' hz
  go_enter Try.func8, Try.ntmps8
  go_wp2_with (first
    | (go_at_call 11; refine (awake11 _).mono ?_; rintro e W1 ⟨rfl, hb⟩
       have y0 := (hb.cell (p := ⟨w.heap.size, 0, none⟩) (by simp)).trans (cell_new' _ _ #[.slice A bs.length c, .slice B pv.length d] _ _ _ rfl rfl)
       have y1 := (hb.cell (p := ⟨w.heap.size, 1, none⟩) (by simp)).trans (cell_new' _ _ #[.slice A bs.length c, .slice B pv.length d] _ _ _ rfl rfl)
       have hg : w.heap.size < W1.heap.size := by have := hb.size; simp at this; omega
       have HB1 := Lib.hid (below_through hb)
       clear hb))
  refine (HN.out _ (HS.out.step HB1.out) (HT.out.step HB1.out)).mono ?_
  rintro e W2 ⟨R, n', cap, ok, rfl, hok, hR, hb⟩
  cases ok with
  | false =>
    have HB2 := Lib.hid hb
    clear hb y0 y1 hg hR
    go_wp2_with fail
    go_ret
    exact ⟨rfl, HB1.out.trans (HB2.out.mono HB1.out.size)⟩
  | true =>
    obtain ⟨h14, hv⟩ := hok.1 rfl
    obtain ⟨rfl, hcap, hRV⟩ := hR rfl
    have hO := ord_of hv
    have hne := (validB_okB hv).1
    have hin : ∀ i, i < bs.length → ∀ x, x ∈ (nthB bs i).nx → 0 ≤ x ∧ x < bs.length := fun i hi x hx => nx_nonneg hv hi hx
    have HIN := Lib.hid hin
    have HRI := Lib.hid (ri_start hv)
    have HNE := Lib.hid hne
    have HV := Lib.hid hv
    have HH14 := Lib.hid h14
    have HRE := Lib.hid (fun A c W (h : RV W A (nxs bs bs.length)) => reach28 A (nxs bs bs.length) c bs.length (-1) W h (nxs_length _ _) hne (by omega) (fun j hj => by rw [nxs_at bs hj]; exact HZ.out.nx j hj) (nxs_in hv))
    have HRK := Lib.hid (reF_rk hv)
    have HNX2 := Lib.hid (valid_nx hv)
    have hmm := @run_makeMap Try.prog
    have y0' := (hb.cell (p := ⟨w.heap.size, 0, none⟩) hg).trans y0
    have y1' := (hb.cell (p := ⟨w.heap.size, 1, none⟩) hg).trans y1
    have HB2 := Lib.hid hb
    have HRV := Lib.hid hRV
    clear hb y0 y1 hg hok hR hRV hin hO hne hv h14 hcap
    go_wp2_with (first
      | (go_at_call 20; refine (HF.out _ ((HS.out.step HB1.out).step HB2.out) ((HT.out.step HB1.out).step HB2.out)).mono ?_
         rintro e W3 ⟨L, ln, lc, fq, fk, rfl, hk, _, hb⟩
         have HFK := Lib.hid (show fk = 0 ↔ Rdc bs from ⟨fun e => (hk.1 e).2, fun e => hk.2 ⟨HV.out, e⟩⟩)
         have HB3 := Lib.hid hb
         clear hb hk y0' y1' HF)
      | (go_at_call 28; refine (HRE.out _ _ _ (HRV.out.step HB3.out)).mono ?_
         rintro e W4 ⟨rfl, hR, hb⟩
         have hR' : BR W4 W3.heap.size bs.length (fun t => decide (0 ≤ rkN bs t)) := hR.congr fun t _ => HRK.out t
         have hm0 := AMap.made W4
         rw [aB_none] at hm0
         have HK := Lib.hid (show KR W3 W4.heap.size W3.heap.size bs.length (iR bs (fun t => decide (0 ≤ rkN bs t)) 0) (fun t => decide (0 ≤ rkN bs t)) (2 * 0) (W4.alloc (.map #[] 0)) from
           ⟨⟨0, by omega, hm0⟩, World.rowIs.alloc hR' _, hb.alloc hb.size _, Nat.le_refl _, hb.size⟩)
         clear hb hR hR' hm0 HRE))
    obtain ⟨rea, hrea⟩ : ∃ rea, (fun t => decide (0 ≤ rkN bs t)) = rea := ⟨_, rfl⟩
    rw [hrea] at HK HRI
    obtain ⟨V4, hV4⟩ : ∃ V4, W4.alloc (.map #[] 0) = V4 := ⟨_, rfl⟩
    rw [hV4] at HK
    rw [hV4]
    obtain ⟨mb, hmb⟩ : ∃ mb, W4.heap.size = mb := ⟨_, rfl⟩
    obtain ⟨rq, hrq⟩ : ∃ rq, W3.heap.size = rq := ⟨_, rfl⟩
    have HRQ := Lib.hid hrq
    rw [hmb, hrq] at HK
    rw [hmb, hrq]
    have HRV3 := Lib.hid (HRV.out.step HB3.out)
    clear hrea hV4 hmb hrq HRV
    have h14 := HH14.out
    go_loopw [9, 39] (fun av i wr => ∃ k : Nat, k ≤ bs.length ∧ i = .int .i64 k ∧ av = .int .i64 (aR rea k) ∧ KR W3 mb rq bs.length (iR bs rea k) rea (2 * k) wr) (fun _ i _ => bs.length - (intOf i).toNat)
    case atStart => exact ⟨0, by omega, rfl, rfl, HK.out⟩
    case round =>
      obtain ⟨k, hk, rfl, rfl, hK⟩ := hrel
      rename World => W5
      have HK5 := Lib.hid hK
      clear hK
      have hak := aR_le rea k
      by_cases hlt : k < bs.length
      · obtain ⟨rb, ro, rfl, hrb, hrc⟩ := HRV3.out (by rw [nxs_length]; omega)
        obtain ⟨A2, c2, r0, hA2⟩ := hrc k (by rw [nxs_length]; exact hlt)
        rw [nxs_at bs hlt] at r0 hA2
        have rc := World.rowIs.cell HK5.out.r hlt
        have hn2 := HNX2.out k hlt
        have hin := HIN.out k hlt
        have har : aR rea (k + 1) = aR rea k + if rea k then 1 else 0 := rfl
        have hir : iR bs rea (k + 1) = if rea k then iJ (iR bs rea k) (nthB bs k).nx k (nthB bs k).nx.length else iR bs rea k := rfl
        obtain ⟨ra, hra⟩ : ∃ z, rea k = z := ⟨_, rfl⟩
        rw [hra] at rc har hir
        obtain ⟨nx, hnx⟩ : ∃ nx, (nthB bs k).nx = nx := ⟨_, rfl⟩
        rw [hnx] at r0 hA2 hn2 hin hir
        obtain ⟨ak, hak'⟩ : ∃ z, aR rea k = z := ⟨_, rfl⟩
        rw [hak'] at hak har ⊢
        obtain ⟨es, hes⟩ : ∃ z, iR bs rea k = z := ⟨_, rfl⟩
        rw [hes] at hir HK5
        have HAR := Lib.hid har
        have HIR := Lib.hid hir
        have HIN5 := Lib.hid hin
        have HA := Lib.hid hA2
        have HR0 := Lib.hid r0
        clear hrc hA2 r0 har hir hin hra hnx hak' hes
        cases ra with
        | false =>
          go_wp2_with fail
          go_roundw
          case rel => exact ⟨k + 1, by omega, by go_num, by rw [HAR.out]; rfl, by rw [HIR.out]; exact HK5.out.mono (by omega)⟩
          case measure => simp [intOf]; omega
        | true =>
          have r0 := (HK5.out.bel.cell (p := ⟨rb, ro + k, none⟩) hrb).trans HR0.out
          go_wp2_with fail
          go_loopw [54] (fun i wr => ∃ j : Nat, j ≤ nx.length ∧ i = .int .i64 j ∧ KR W3 mb rq bs.length (iJ es nx k j) rea (2 * k + j) wr) (fun i _ => nx.length - (intOf i).toNat)
          case atStart => exact ⟨0, by omega, rfl, HK5.out⟩
          case round =>
            obtain ⟨j, hj, rfl, hK⟩ := hrel
            rename World => W6
            have HK6 := Lib.hid hK
            clear hK
            by_cases hjt : j < nx.length
            · obtain ⟨b1, o1, rfl, hb1, hcx⟩ := HA.out (by omega)
              have gx := (HK6.out.bel.cell (p := ⟨b1, o1 + j, none⟩) hb1).trans (hcx j hjt)
              have hx0 := HIN5.out _ (getD_mem hjt)
              have hsj : iJ es nx (k : Int) (j + 1) = if (k : Int) = nx.getD j 0 then iJ es nx k j else upP (iJ es nx k j) k (nx.getD j 0) := rfl
              obtain ⟨x, hx⟩ : ∃ x, nx.getD j 0 = x := ⟨_, rfl⟩
              rw [hx] at gx hx0 hsj
              have HSJ := Lib.hid hsj
              obtain ⟨Wc, hup, hKc⟩ := HK6.out.put (by unfold maxLen; omega) (x := (k : Int)) (y := x) (wf_of (by omega) (by omega)) (wf_of (by omega) (by omega))
              have HKc := Lib.hid hKc
              clear hcx hx hsj hKc
              by_cases e : (k : Int) = x
              · have e1 : ((k : Int) != x) = false := by simpa using e
                have HE := Lib.hid e
                clear e hup
                go_wp2_with fail
                go_roundw
                case rel => exact ⟨j + 1, by omega, by go_num, by rw [HSJ.out, if_pos HE.out]; exact HK6.out.mono (by omega)⟩
                case measure => simp [intOf]; omega
              · have e1 : ((k : Int) != x) = true := by simpa using e
                have HE := Lib.hid e
                clear e
                go_wp2_with fail
                go_roundw
                case rel => exact ⟨j + 1, by omega, by go_num, by rw [HSJ.out, if_neg HE.out]; exact HKc.out⟩
                case measure => simp [intOf]; omega
            · obtain rfl : j = nx.length := by omega
              go_wp2_with fail
              go_roundw
              case rel => exact ⟨k + 1, by omega, by go_num, by rw [HAR.out]; go_num, by rw [HIR.out]; exact HK6.out.mono (by omega)⟩
              case measure => simp [intOf]; omega
      · obtain rfl : k = bs.length := by omega
        obtain ⟨al0, hal⟩ : ∃ z, aR rea bs.length = z := ⟨_, rfl⟩
        rw [hal] at HRI hak ⊢
        obtain ⟨es0, hes⟩ : ∃ z, iR bs rea bs.length = z := ⟨_, rfl⟩
        rw [hes] at HRI HK5
        clear hal hes
        have HAK := Lib.hid hak
        go_wp2_with fail
        have HBC := Lib.hid (show ∀ W : World, Below W3.heap.size W3 W → Below w.heap.size w W from fun W hb => ((HB1.out.trans (HB2.out.mono HB1.out.size)).trans (HB3.out.mono (Nat.le_trans HB1.out.size HB2.out.size))).trans (hb.mono (Nat.le_trans (Nat.le_trans HB1.out.size HB2.out.size) HB3.out.size)))
        go_loopw [9, 69] (fun av i wr => ∃ (r al : Nat) (s : Nat → Bool) (es : Int → Int → Bool), r ≤ bs.length ∧ i = .int .i64 r ∧ av = .int .i64 al ∧ KR W3 mb rq bs.length es s (40 + 400 * r) wr ∧ RI bs s (natE es) al ∧ (Rdc bs → al ≤ 1 ∨ al + r ≤ bs.length)) (fun _ i _ => bs.length - (intOf i).toNat)
        case atStart => exact ⟨0, al0, rea, es0, by omega, rfl, rfl, HK5.out.mono (by omega), HRI.out, fun _ => .inr (by omega)⟩
        case round =>
          obtain ⟨r, al1, s1, es1, hr, rfl, rfl, hK, hRI, hpr⟩ := hrel
          rename World => W6
          have HK6 := Lib.hid hK
          have HRI6 := Lib.hid hRI
          have HPR6 := Lib.hid hpr
          have hal1 : al1 ≤ bs.length := by rw [hRI.al]; unfold cntS; exact Nat.le_trans (List.length_filter_le _ _) (by simp)
          clear hK hRI hpr
          by_cases hrt : r < bs.length
          · go_wp2_with fail
            go_loopw [9, 14] (fun av bv wr => ∃ (b al : Nat) (s : Nat → Bool) (es : Int → Int → Bool), 1 ≤ b ∧ b ≤ bs.length ∧ bv = .int .i64 b ∧ av = .int .i64 al ∧ KR W3 mb rq bs.length es s (40 + 400 * r + 20 * b) wr ∧ RI bs s (natE es) al ∧ PR s1 es1 al1 b s es al) (fun _ bv _ => bs.length - (intOf bv).toNat)
            case atStart => exact ⟨1, al1, s1, es1, by omega, by omega, rfl, rfl, HK6.out.mono (by omega), HRI6.out, Nat.le_refl _, .inr ⟨rfl, rfl, fun b' p hb' _ U => U.b0 (by omega)⟩⟩
            case round =>
              obtain ⟨b, al, s, es, hb1, hb, rfl, rfl, hK, hRI, hP⟩ := hrel
              rename World => W7
              have HK7 := Lib.hid hK
              have HRI7 := Lib.hid hRI
              have HP7 := Lib.hid hP
              have hal : al ≤ bs.length := by rw [hRI.al]; unfold cntS; exact Nat.le_trans (List.length_filter_le _ _) (by simp)
              clear hK hRI hP
              by_cases hbt : b < bs.length
              · have hwb : wf (b : Int) := wf_of (by omega) (by omega)
                go_wp2_with fail
                go_loopw [15, 16, 79] (fun fv cv i wr => ∃ a : Nat, a ≤ bs.length ∧ i = .int .i64 a ∧ fv = .int .i64 (fP es b a) ∧ cv = .int .i64 (cP es b a) ∧ wr = W7) (fun _ _ i _ => bs.length - (intOf i).toNat)
                case atStart => exact ⟨0, by omega, rfl, rfl, rfl, rfl⟩
                case round =>
                  obtain ⟨a, ha, rfl, rfl, rfl, hwr⟩ := hrel
                  rename World => W8
                  obtain rfl : W7 = W8 := hwr.symm
                  have hcl := cP_le es (b : Int) a
                  have hcs : cP es (b : Int) (a + 1) = cP es b a + if es a b then 1 else 0 := rfl
                  have hfs : fP es (b : Int) (a + 1) = if es a b then (a : Int) else fP es b a := rfl
                  by_cases hat : a < bs.length
                  · have hlk := HK7.out.look (x := (a : Int)) (y := (b : Int)) (wf_of (by omega) (by omega)) hwb
                    obtain ⟨cc, hcc⟩ : ∃ z, cP es (b : Int) a = z := ⟨_, rfl⟩
                    obtain ⟨ff, hff⟩ : ∃ z, fP es (b : Int) a = z := ⟨_, rfl⟩
                    obtain ⟨ea, hea⟩ : ∃ z, es (a : Int) (b : Int) = z := ⟨_, rfl⟩
                    rw [hcc, hea] at hcs
                    rw [hff, hea] at hfs
                    rw [hcc] at hcl ⊢
                    rw [hff]
                    rw [hea] at hlk
                    have HCS := Lib.hid hcs
                    have HFS := Lib.hid hfs
                    clear hcs hfs hcc hff hea
                    cases ea with
                    | false =>
                      go_wp2_with fail
                      go_roundw
                      case rel => exact ⟨a + 1, by omega, by go_num, by rw [HFS.out]; rfl, by rw [HCS.out]; rfl, trivial⟩
                      case measure => simp [intOf]; omega
                    | true =>
                      go_wp2_with fail
                      go_roundw
                      case rel => exact ⟨a + 1, by omega, by go_num, by rw [HFS.out]; rfl, by rw [HCS.out]; go_num, trivial⟩
                      case measure => simp [intOf]; omega
                  · obtain rfl : a = bs.length := by omega
                    have rc := World.rowIs.cell HK7.out.r hbt
                    have rf := World.rowIs.frozen HK7.out.r b
                    have hcu := cP_uni HRI7.out.g (b := b) (by omega)
                    have huc := fun p (U : Uni (fun u v => natE es u v = true) p b) => uni_cP HRI7.out.g U
                    obtain ⟨cc, hcc⟩ : ∃ z, cP es (b : Int) bs.length = z := ⟨_, rfl⟩
                    obtain ⟨ff, hff⟩ : ∃ z, fP es (b : Int) bs.length = z := ⟨_, rfl⟩
                    obtain ⟨sb, hsb⟩ : ∃ z, s b = z := ⟨_, rfl⟩
                    rw [hcc] at hcu hcl ⊢
                    rw [hff] at hcu
                    rw [hff]
                    simp only [hcc] at huc
                    rw [hsb] at rc
                    have HSB := Lib.hid hsb
                    have HCU := Lib.hid hcu
                    have HUC := Lib.hid huc
                    clear hcs hfs hcc hff hsb hcu huc
                    -- nothing is merged
                    have HSTAY := Lib.hid (show (cc ≠ 1 ∨ sb = false) → KR W3 mb rq bs.length es s (40 + 400 * r + 20 * (b + 1)) W7 ∧ PR s1 es1 al1 (b + 1) s es al from fun hno => ⟨HK7.out.mono (by omega), HP7.out.1, by
                      rcases HP7.out.2 with h | ⟨h1, h2, h3⟩
                      · exact .inl h
                      · subst h1 h2
                        refine .inr ⟨rfl, rfl, fun b' p hb' hs' U => ?_⟩
                        by_cases e : b' = b
                        · subst e
                          rcases hno with h | h
                          · exact h (HUC.out p U)
                          · rw [HSB.out, h] at hs'; cases hs'
                        · exact h3 b' p (by omega) hs' U⟩)
                    by_cases hc1 : cc = 1
                    · cases sb with
                      | false =>
                        have c1 : ((cc : Int) != 1) = false := by simp; omega
                        clear hc1
                        go_wp2_with fail
                        go_roundw
                        case rel => exact ⟨b + 1, al, s, es, by omega, by omega, by go_num, rfl, (HSTAY.out (.inr rfl)).1, HRI7.out, (HSTAY.out (.inr rfl)).2⟩
                        case measure => simp [intOf]; omega
                      | true =>
                        have c1 : ((cc : Int) != 1) = false := by simp; omega
                        obtain ⟨p, hpn, rfl, hU⟩ := HCU.out hc1
                        have HUU := Lib.hid hU
                        have hwp : wf (p : Int) := wf_of (by omega) (by omega)
                        obtain ⟨Wd, hdl, hKd⟩ := HK7.out.del hwp hwb
                        have HDL := Lib.hid hdl
                        have HKd := Lib.hid (show KR W3 mb rq bs.length (mgC es b p 0) s (40 + 400 * r + 20 * b) Wd from hKd)
                        clear hc1 hU hdl hKd HSTAY HCU HUC
                        go_wp2_with (first
                          | (at_delete; refine wpList_delete_eq rfl (.tmp 100) (.tmp 103) 54 35 0 rfl rfl _ _ _ rfl rfl HDL.out ?_; clear HDL))
                        go_loopw [106] (fun i wr => ∃ k : Nat, k ≤ bs.length ∧ i = .int .i64 k ∧ KR W3 mb rq bs.length (mgC es b p k) s (40 + 400 * r + 20 * b + k) wr) (fun i _ => bs.length - (intOf i).toNat)
                        case atStart => exact ⟨0, by omega, rfl, HKd.out⟩
                        case round =>
                          obtain ⟨k, hk, rfl, hK⟩ := hrel
                          rename World => W9
                          have HK9 := Lib.hid hK
                          clear hK
                          by_cases hkt : k < bs.length
                          · have hwk : wf (k : Int) := wf_of (by omega) (by omega)
                            have hlk := HK9.out.look hwb hwk
                            have hst : mgC es (b : Int) (p : Int) (k + 1) = if mgC es b p k b k then (if (k : Int) = p then dnP (mgC es b p k) b k else upP (dnP (mgC es b p k) b k) p k) else mgC es b p k := rfl
                            obtain ⟨ec, hec⟩ : ∃ z, mgC es (b : Int) (p : Int) k = z := ⟨_, rfl⟩
                            rw [hec] at hlk hst HK9
                            obtain ⟨mv, hmv⟩ : ∃ z, ec (b : Int) (k : Int) = z := ⟨_, rfl⟩
                            rw [hmv] at hlk hst
                            have HST := Lib.hid hst
                            clear hst hec hmv
                            cases mv with
                            | false =>
                              go_wp2_with fail
                              go_roundw
                              case rel => exact ⟨k + 1, by omega, by go_num, by rw [HST.out]; exact HK9.out.mono (by omega)⟩
                              case measure => simp [intOf]; omega
                            | true =>
                              obtain ⟨We, hdl, hKe⟩ := HK9.out.del hwb hwk
                              have HDL := Lib.hid hdl
                              have HKe := Lib.hid hKe
                              by_cases e : (k : Int) = (p : Int)
                              · have e1 : ((k : Int) != (p : Int)) = false := by simpa using e
                                have HE := Lib.hid e
                                clear e hdl hKe
                                go_wp2_with (first
                                  | (at_delete; refine wpList_delete_eq rfl (.tmp 114) (.tmp 117) 54 35 0 rfl rfl _ _ _ rfl rfl HDL.out ?_; clear HDL))
                                go_roundw
                                case rel => exact ⟨k + 1, by omega, by go_num, by rw [HST.out, if_pos rfl, if_pos HE.out]; exact HKe.out.mono (by omega)⟩
                                case measure => simp [intOf]; omega
                              · have e1 : ((k : Int) != (p : Int)) = true := by simpa using e
                                have HE := Lib.hid e
                                obtain ⟨Wf, hup, hKf⟩ := hKe.put (by unfold maxLen; omega) hwp hwk
                                have HKf := Lib.hid hKf
                                clear e hdl hKe hKf
                                go_wp2_with (first
                                  | (at_delete; refine wpList_delete_eq rfl (.tmp 114) (.tmp 117) 54 35 0 rfl rfl _ _ _ rfl rfl HDL.out ?_; clear HDL))
                                go_roundw
                                case rel => exact ⟨k + 1, by omega, by go_num, by rw [HST.out, if_pos rfl, if_neg HE.out]; exact HKf.out⟩
                                case measure => simp [intOf]; omega
                          · obtain rfl : k = bs.length := by omega
                            have rc := World.rowIs.cell HK9.out.r hbt
                            have rf := World.rowIs.frozen HK9.out.r b
                            rw [HSB.out] at rc
                            have hmr := HRI7.out.merge HUU.out (E' := natE (mgC es b p bs.length)) (mgC_all HRI7.out.g HUU.out)
                            have HMR := Lib.hid hmr.1
                            have hal1' := hmr.2
                            have HKo := Lib.hid (HK9.out.off b)
                            have hsub : (al : Int) - 1 = ((al - 1 : Nat) : Int) := by omega
                            have HSUB := Lib.hid hsub
                            clear hmr hsub
                            go_wp2_with fail
                            go_roundw
                            case rel => exact ⟨b + 1, al - 1, _, _, by omega, by omega, by go_num, by rw [← HSUB.out], HKo.out.mono (by omega), HMR.out, by have := HP7.out.1; omega, .inl (by have := HP7.out.1; omega)⟩
                            case measure => simp [intOf]; omega
                    · have c1 : ((cc : Int) != 1) = true := by simp; omega
                      have HC1 := Lib.hid hc1
                      clear hc1
                      go_wp2_with fail
                      go_roundw
                      case rel => exact ⟨b + 1, al, s, es, by omega, by omega, by go_num, rfl, (HSTAY.out (.inl HC1.out)).1, HRI7.out, (HSTAY.out (.inl HC1.out)).2⟩
                      case measure => simp [intOf]; omega
              · obtain rfl : b = bs.length := by omega
                go_wp2_with fail
                go_roundw
                case rel =>
                  refine ⟨r + 1, al, s, es, by omega, by go_num, rfl, HK7.out.mono (by omega), HRI7.out, fun R => ?_⟩
                  have h1 := HPR6.out R
                  have h2 := HP7.out.1
                  rcases HP7.out.2 with h3 | ⟨h3, h4, h5⟩
                  · omega
                  · by_cases hm : 1 < al1
                    · exfalso
                      obtain ⟨p, b', hs', U⟩ := HRI6.out.more R hm
                      exact h5 b' p (HRI6.out.g.lt b' hs') hs' U
                    · omega
                case measure => simp [intOf]; omega
          · obtain rfl : r = bs.length := by omega
            have hfin : (fk = 0 ↔ al1 ≤ 1) := by
              rw [HFK.out]
              exact ⟨fun R => by have := HPR6.out R; omega, fun h => HRI6.out.one h⟩
            by_cases h1 : al1 ≤ 1
            · have e1 : fk = 0 := hfin.2 h1
              subst e1
              have e2 : decide ((al1 : Int) ≤ 1) = true := decide_eq_true (by omega)
              clear hfin h1
              go_wp2_with fail
              go_ret
              exact ⟨ret_b (by simp [e2]), HBC.out _ HK6.out.bel⟩
            · have e1 : (fk == 0) = false := by
                rw [beq_eq_false_iff_ne]
                exact fun h => h1 (hfin.1 h)
              have e2 : decide ((al1 : Int) ≤ 1) = false := decide_eq_false (by omega)
              clear hfin h1
              go_wp2_with fail
              go_ret
              exact ⟨ret_b (by simp [e1, e2]), HBC.out _ HK6.out.bel⟩
end Go.Proofs.Ytcbofikjcgdjmaa
