/- The contract of the reference's Find. -/
import Derived.Test.YtcbofikjcgdjmaaF8
namespace Go.Proofs.Ytcbofikjcgdjmaa
set_option linter.unusedVariables false
set_option linter.unusedSimpArgs false
open Go.RowKit Go.Maps Go.Sort Go.BigFrame

theorem valid_pos {bs : List Bk} {pv : List (List Int)} (hv : validB bs pv = true) : bs.length ≠ 0 := (validB_okB hv).1
theorem lsQ_at {bs : List Bk} {j : Nat} (hj : j < (lsQ bs bs.length).length) : ∃ h, nthL (lsQ bs bs.length) j = lpQ bs h := by
  rw [nthL, List.getD_eq_getElem?_getD, List.getElem?_eq_getElem hj]
  have := List.getElem_mem hj
  unfold lsQ at this
  obtain ⟨h, _, e⟩ := List.mem_map.1 this
  exact ⟨h, e.symm⟩
theorem OQ.cells {W : World} {base base' g n cv : Nat} {ls : List Lp} (h : OQ W base base' (.slice (some ⟨g, 0, none⟩) n cv) ls) (hn : ls.length = n) {j : Nat} (hj : j < n) :
    ∃ A1 c1 A2 c2, W.cell? ⟨g, j * 4, none⟩ = some (.int .i64 (nthL ls j).hd) ∧ W.cell? ⟨g, j * 4 + 1, none⟩ = some (.slice A1 (nthL ls j).bl.length c1) ∧ W.cell? ⟨g, j * 4 + 2, none⟩ = some (.slice A2 (nthL ls j).la.length c2) ∧ W.cell? ⟨g, j * 4 + 3, none⟩ = some (.int .i64 (nthL ls j).pa) ∧
      IV W A1 (nthL ls j).bl ∧ g < W.heap.size ∧ base ≤ g ∧ ∀ q, W.frozen? ⟨g, q, none⟩ = false := by
  subst hn
  obtain ⟨cs, hr, hc⟩ := h
  obtain ⟨A1, c1, A2, c2, h0, h1, h2, h3, r1, r2⟩ := hc j hj
  have hlt := hr.lt g rfl
  refine ⟨A1, c1, A2, c2, ?_, ?_, ?_, ?_, IV.of_slice r1, hlt.2, hlt.1, fun q => hr.frozenAt q⟩
  · rw [hr.cellAt (j * 4) (by omega), h0]
  · rw [hr.cellAt (j * 4 + 1) (by omega), h1]
  · rw [hr.cellAt (j * 4 + 2) (by omega), h2]
  · rw [hr.cellAt (j * 4 + 3) (by omega), h3]
theorem OQ.row {W : World} {base base' n cv : Nat} {A : Option Addr} {ls : List Lp} (h : OQ W base base' (.slice A n cv) ls) (hn : ls.length = n) (h0 : 0 < n) : ∃ g, A = some ⟨g, 0, none⟩ := by
  obtain ⟨cs, hr, _⟩ := h
  rcases hr.2 with ⟨h1, _⟩ | ⟨g, cap, cur, h1, _⟩
  · have := (Value.slice.inj h1).2.1; omega
  · exact ⟨g, (Value.slice.inj h1).1⟩
set_option maxRecDepth 100000 in
set_option maxHeartbeats 8000000 in
theorem find23 (A : Option Addr) (bs : List Bk) (pv : List (List Int)) (c : Nat) (w : World) (h : RV w A (nxs bs bs.length)) (hv : validB bs pv = true) (hl : bs.length ≤ 14) :
    Calls Try.prog 23 #[.slice A bs.length c] w fun e w' => (∃ L cap, e = .returned (.slice L (lsQ bs bs.length).length cap) ∧ LV w' L (lsM (lsQ bs bs.length) (lsQ bs bs.length).length)) ∧ Below w.heap.size w w' := by
  have hn2 := valid_nx hv
  have hz : ∀ j, j < bs.length → (nthR (nxs bs bs.length) j).length ≤ 1048576 := fun j hj => by rw [nxs_at bs hj]; have := hn2 j hj; omega
  have hn0 := valid_pos hv
  have hreq : reF (nxR (nxs bs bs.length)) (-1) bs.length = reA bs := by funext t; exact reF_rk hv t
  have hr0 := reach28 A (nxs bs bs.length) c bs.length (-1) w h (nxs_length _ _) hn0 (by omega) hz (nxs_in hv)
  rw [hreq] at hr0
  have HR := Lib.hid hr0
  have HDO := Lib.hid (fun W (h : RV W A (nxs bs bs.length)) a b ha hb => dom42 A (nxs bs bs.length) bs.length c a b W h (nxs_length _ _) hn0 (by omega) hz (nxs_in hv) ha hb)
  have HRC := Lib.hid (fun W (h : RV W A (nxs bs bs.length)) to wo f hf => reaches43 A (nxs bs bs.length) bs.length c to wo W h (nxs_length _ _) (by omega) hz (nxs_in hv) bs.length f hf (by omega))
  have HS := Lib.hid h
  have HN2 := Lib.hid hn2
  have hlap : ∀ b a : Nat, latP bs b a = (reA bs a && decide (0 ≤ posOf (nthB bs a).nx b) && dmR (nxR (nxs bs bs.length)) bs.length b a) := fun b a => rfl
  have HLAP := Lib.hid hlap
  obtain ⟨rb, ro, rfl, hrb, hrc⟩ := h (by rw [nxs_length]; omega)
  have HROW := Lib.hid (fun a (ha : a < bs.length) => (by have := hrc a (by rw [nxs_length]; exact ha); rw [nxs_at bs ha] at this; exact this : ∃ A1 c1, w.cell? ⟨rb, ro + a, none⟩ = some (.slice A1 (nthB bs a).nx.length c1) ∧ IV w A1 (nthB bs a).nx))
  have hmix : Try.prog.follows .mixedOrders = true := by kernel_rfl
  obtain ⟨i1, hi1, hy0, hy1, hy2⟩ := info_parts info3r
  obtain ⟨i50, hi50, hx0, hx1, hx2⟩ := info_parts info50
  clear hn2 hz hv hreq hr0 hlap hrc h
  go_enter Try.func23, Try.ntmps23
  go_wp2_with (go_at_call 28; refine HR.out.mono ?_; rintro e W1 ⟨rfl, hR, hb⟩
               have HREA := Lib.hid (fun W a (ha : a < bs.length) (hb' : Below W1.heap.size W1 W) => World.rowIs.cell (hR.below hb') ha)
               have HB1 := Lib.hid hb
               clear hR hb HR)
  have hs1 := HB1.out.size
  go_loopw [4, 5] (fun v i wr => ∃ b : Nat, b ≤ bs.length ∧ i = .int .i64 b ∧ OQ wr W1.heap.size 0 v (lsQ bs b) ∧ Below W1.heap.size W1 wr) (fun _ i _ => bs.length - (intOf i).toNat)
  case atStart => exact ⟨0, by omega, rfl, OQ.nil _ _ _, Below.refl _ _⟩
  case round =>
    obtain ⟨b, hb, rfl, hO, hB⟩ := hrel
    rename World => V
    have HOV := Lib.hid hO
    have HBV := Lib.hid hB
    have hsV := hB.size
    clear hO hB
    by_cases hbt : b < bs.length
    · have hrb0 := HREA.out V b hbt HBV.out
      have hq := lsQ_succ bs b
      have hhd : hdP bs b = (reA bs b && decide (laK bs b bs.length ≠ [])) := rfl
      obtain ⟨r, hr⟩ : ∃ r, reA bs b = r := ⟨_, rfl⟩
      rw [hr] at hrb0 hhd
      have HQ := Lib.hid hq
      have HHD := Lib.hid hhd
      clear hq hhd hr
      cases r with
      | false =>
        go_wp2_with fail
        go_roundw
        case rel => exact ⟨b + 1, by omega, by go_num, by rw [HQ.out, HHD.out]; exact HOV.out, HBV.out⟩
        case measure => simp [intOf]; omega
      | true =>
        go_wp2_with fail
        go_loopw [7] (fun i wr => ∃ (a : Nat) (vl : Value), a ≤ bs.length ∧ i = .int .i64 a ∧ LS V V.heap.size b (laK bs b a) vl wr) (fun i _ => bs.length - (intOf i).toNat)
        case atStart => exact ⟨0, _, by omega, rfl, LS.made V b⟩
        case round =>
          obtain ⟨a, vl, ha, rfl, hLS⟩ := hrel
          rename World => W2
          have hB2 : Below W1.heap.size W1 W2 := HBV.out.trans (hLS.bel.mono hsV)
          have HB2 := Lib.hid hB2
          have z2 : W2.cell? ⟨V.heap.size, 2, none⟩ = some vl := by simp [World.cell?, hLS.bx]
          have hs2 := hB2.size
          have HLS := Lib.hid hLS
          have hll := laK_len bs b a
          clear hLS hB2
          by_cases hat : a < bs.length
          · have hra0 := HREA.out W2 a hat HB2.out
            have hla := laK_succ bs b a
            rw [HLAP.out] at hla
            obtain ⟨A1, c1, g0, hA1⟩ := HROW.out a hat
            have hbw : Below w.heap.size w W2 := HB1.out.trans (HB2.out.mono hs1)
            have HBW := Lib.hid hbw
            replace g0 := (hbw.cell (p := ⟨rb, ro + a, none⟩) hrb).trans g0
            have hn2 := HN2.out a hat
            have HP := Lib.hid (fun W (h : IV W A1 (nthB bs a).nx) => position41 A1 (nthB bs a).nx c1 (b : Int) W h (by omega))
            have HDa := Lib.hid (fun W h => HDO.out W h b a hbt hat)
            have HI1 := Lib.hid (hA1.step hbw)
            obtain ⟨nx, hnx⟩ : ∃ nx, (nthB bs a).nx = nx := ⟨_, rfl⟩
            rw [hnx] at g0 hla HI1 hn2
            simp only [hnx] at HP
            obtain ⟨p, hp⟩ : ∃ p, posOf nx (b : Int) = p := ⟨_, rfl⟩
            rw [hp] at hla
            simp only [hp] at HP
            obtain ⟨dm, hdm⟩ : ∃ dm, dmR (nxR (nxs bs bs.length)) bs.length b a = dm := ⟨_, rfl⟩
            rw [hdm] at hla
            simp only [hdm] at HDa
            obtain ⟨ra, hra⟩ : ∃ ra, reA bs a = ra := ⟨_, rfl⟩
            rw [hra] at hra0 hla
            have HLA := Lib.hid hla
            clear hla hA1 hbw hnx hp hdm hra
            cases ra with
            | false =>
              go_wp2_with fail
              go_roundw
              case rel => exact ⟨a + 1, vl, by omega, by go_num, by rw [HLA.out]; exact HLS.out⟩
              case measure => simp [intOf]; omega
            | true =>
              by_cases hp : p < 0
              · have q1 : decide (0 ≤ p) = false := decide_eq_false (by omega)
                have HPN := Lib.hid q1
                go_wp2_with (go_at_call 41; refine (HP.out _ HI1.out).mono ?_; rintro e w1 ⟨rfl, hw1⟩; subst w1)
                go_roundw
                case rel => exact ⟨a + 1, vl, by omega, by go_num, by rw [HLA.out, HPN.out]; exact HLS.out⟩
                case measure => simp [intOf]; omega
              · have q1 : decide (0 ≤ p) = true := decide_eq_true (by omega)
                have HPN := Lib.hid q1
                clear hp
                cases dm with
                | false =>
                  go_wp2_with (first
                    | (go_at_call 41; refine (HP.out _ HI1.out).mono ?_; rintro e w1 ⟨rfl, hw1⟩; subst w1; clear HP)
                    | (go_at_call 42; refine (HDa.out _ (HS.out.step HBW.out)).mono ?_; rintro e W3 ⟨rfl, hb3⟩
                       have HLS3 := Lib.hid (HLS.out.step hb3)
                       clear hb3 HDa))
                  go_roundw
                  case rel => exact ⟨a + 1, vl, by omega, by go_num, by rw [HLA.out, HPN.out]; exact HLS3.out⟩
                  case measure => simp [intOf]; omega
                | true =>
                  go_wp2_with (first
                    | (go_at_call 41; refine (HP.out _ HI1.out).mono ?_; rintro e w1 ⟨rfl, hw1⟩; subst w1; clear HP)
                    | (go_at_call 42; refine (HDa.out _ (HS.out.step HBW.out)).mono ?_; rintro e W3 ⟨rfl, hb3⟩
                       have hLS3 := HLS.out.step hb3
                       have z3 : W3.cell? ⟨V.heap.size, 2, none⟩ = some vl := by simp [World.cell?, hLS3.bx]
                       have HLS3 := Lib.hid hLS3
                       have hs3 := hLS3.size
                       clear hb3 HDa hLS3)
                    | (at_builtin; refine wpList_append_own _ rfl _ _ 28 rfl (V.heap.size + 1) 3 i1 (.int .i64 0) 1 8 Try.underlying28 hi1 hy0 hy1 hy2 rfl (by decide) _ _ _ rfl (HLS3.out.own.alloc _) ⟨W3.heap.size, 0, none⟩ 1 1 [.int .i64 a] rfl rfl (cell_one_new _ _ _) (by simp [Value.oneCell']) (by unfold maxLen; omega) (by omega) (by simp; omega) ?_
                       intro v' W4 hown' hgrow hnil'
                       obtain ⟨g', cap', rfl⟩ := own_succ hown'
                       have hput := HLS3.out.put _ hgrow a hown'
                       have z4 : W4.cell? ⟨V.heap.size, 2, none⟩ = some vl := by simp [World.cell?, hput.1]
                       have f4 : W4.frozen? ⟨V.heap.size, 2, none⟩ = false := by simp [World.frozen?, hput.1]
                       have HLS4 := Lib.hid hput.2
                       clear hput hown' hgrow hnil'))
                  go_roundw
                  case rel => exact ⟨a + 1, _, by omega, by go_num, by rw [HLA.out, HPN.out]; exact HLS4.out⟩
                  case measure => simp [intOf]; omega
          · obtain rfl : a = bs.length := by omega
            have hhd := HHD.out
            have hlp : lpQ bs b = ⟨(b : Int), blK bs b (laK bs b bs.length) bs.length, laK bs b bs.length, -1⟩ := rfl
            have hli := fun x (hx : x ∈ laK bs b bs.length) => laK_in hx
            obtain ⟨Al, cl, rfl, hIl⟩ := IV.of_own HLS.out.own
            have hls := HLS.out
            obtain ⟨la, hla⟩ : ∃ la, laK bs b bs.length = la := ⟨_, rfl⟩
            rw [hla] at hll z2 hhd hlp hls
            simp only [hla] at hli
            have HLSL := Lib.hid hls
            have HLP := Lib.hid hlp
            have HLI := Lib.hid hli
            clear hIl hla hlp hli hls HLS
            by_cases hla0 : la.length = 0
            · have e0 : ((la.length : Int) == 0) = true := by simp; exact List.eq_nil_of_length_eq_zero hla0
              have HHD2 := Lib.hid (show hdP bs b = false by rw [hhd, List.eq_nil_of_length_eq_zero hla0]; rfl)
              clear hhd hla0
              go_wp2_with fail
              go_roundw
              case rel => exact ⟨b + 1, by omega, by go_num, by rw [HQ.out, HHD2.out]; exact HOV.out.below HLSL.out.bel, HBV.out.trans (HLSL.out.bel.mono hsV)⟩
              case measure => simp [intOf]; omega
            have e0 : ((la.length : Int) == 0) = false := by simp; exact fun e => hla0 (by rw [e]; rfl)
            have HHD2 := Lib.hid (show hdP bs b = true by rw [hhd, Bool.true_and, decide_eq_true_iff]; exact fun e => hla0 (by rw [e]; rfl))
            clear hhd hla0
            go_wp2_with fail
            go_loopw [8] (fun i wr => ∃ (x : Nat) (vb : Value), x ≤ bs.length ∧ i = .int .i64 x ∧ BS V V.heap.size W2.heap.size b la (blK bs b la x) (.slice Al la.length cl) vb wr) (fun i _ => bs.length - (intOf i).toNat)
            case atStart => exact ⟨0, _, by omega, rfl, BS.start HLSL.out⟩
            case round =>
              obtain ⟨x, vb, hx, rfl, hBS⟩ := hrel
              rename World => W5
              have HB5 := Lib.hid (HBV.out.trans (hBS.bel.mono hsV))
              have z51 : W5.cell? ⟨V.heap.size, 1, none⟩ = some vb := by simp [World.cell?, hBS.bx]
              have z52 : W5.cell? ⟨V.heap.size, 2, none⟩ = some (.slice Al la.length cl) := by simp [World.cell?, hBS.bx]
              have HBS := Lib.hid hBS
              have hblL := blK_len bs b la x
              clear hBS
              by_cases hxt : x < bs.length
              · have hrx0 := HREA.out W5 x hxt HB5.out
                have hbl := blK_succ bs b la x
                have hbp : blP bs b la x = (inK bs b x la la.length && reA bs x) := rfl
                have HI5 := Lib.hid (IV.of_slice HBS.out.la)
                have HS5 := Lib.hid (HS.out.step (HB1.out.trans (HB5.out.mono hs1)))
                have hik := fun j (hj : j < la.length) => inK_succ bs b x la hj
                have hi0 : inK bs b x la 0 = decide (x = b) := by unfold inK; simp
                have e9 : ((x : Int) == (b : Int)) = decide (x = b) := by
                  by_cases e : x = b
                  · simp [e]
                  · rw [decide_eq_false e]; simp; omega
                obtain ⟨f0, hf0⟩ : ∃ f0, decide (x = b) = f0 := ⟨_, rfl⟩
                rw [hf0] at hi0 e9
                obtain ⟨rx, hrx⟩ : ∃ rx, reA bs x = rx := ⟨_, rfl⟩
                rw [hrx] at hrx0 hbp
                have HBL := Lib.hid hbl
                have HBP := Lib.hid hbp
                have HIK := Lib.hid hik
                have HI0 := Lib.hid hi0
                clear hbl hbp hik hi0 hf0 hrx
                cases rx with
                | false =>
                  have HBN := Lib.hid (show blK bs b la (x + 1) = blK bs b la x by rw [HBL.out, HBP.out, Bool.and_false]; rfl)
                  go_wp2_with fail
                  go_loopw [9, 10] (fun f i wr => ∃ (j : Nat) (g : Bool), j ≤ la.length ∧ i = .int .i64 j ∧ f = .bool g ∧ wr = W5) (fun _ i _ => la.length - (intOf i).toNat)
                  case atStart => exact ⟨0, _, by omega, rfl, rfl, rfl⟩
                  case round =>
                    obtain ⟨j, g, hj, rfl, rfl, hwr⟩ := hrel
                    rename World => W6
                    subst hwr
                    by_cases hjt : j < la.length
                    · cases g <;>
                      · go_wp2_with fail
                        go_roundw
                        case rel => exact ⟨x + 1, vb, by omega, by go_num, by rw [HBN.out]; exact HBS.out⟩
                        case measure => simp [intOf]; omega
                    · cases g <;>
                      · go_wp2_with fail
                        go_roundw
                        case rel => exact ⟨x + 1, vb, by omega, by go_num, by rw [HBN.out]; exact HBS.out⟩
                        case measure => simp [intOf]; omega
                | true =>
                  go_wp2_with fail
                  go_loopw [9, 10] (fun f i wr => ∃ (j : Nat) (g : Bool), j ≤ la.length ∧ i = .int .i64 j ∧ f = .bool g ∧ inK bs b x la j = g ∧ wr = W5) (fun _ i _ => la.length - (intOf i).toNat)
                  case atStart => exact ⟨0, _, by omega, rfl, rfl, HI0.out, rfl⟩
                  case round =>
                    obtain ⟨j, g, hj, rfl, rfl, hg, hwr⟩ := hrel
                    rename World => W6
                    subst hwr
                    have HG := Lib.hid hg
                    clear hg
                    by_cases hjt : j < la.length
                    · obtain ⟨b1, o1, hb1, hlb1, hcx⟩ := HI5.out (by omega)
                      subst hb1
                      have gx := hcx j hjt
                      have hik := HIK.out j hjt
                      obtain ⟨l, hll2, hln⟩ := HLI.out _ (getD_mem hjt)
                      rw [hll2] at gx hik
                      rw [Int.toNat_natCast] at hik
                      have HCc := Lib.hid (HRC.out _ HS5.out l b x hxt)
                      obtain ⟨rr, hrr⟩ : ∃ rr, rcF (nxR (nxs bs bs.length)) l b bs.length x = rr := ⟨_, rfl⟩
                      rw [hrr] at hik HCc
                      have HIK1 := Lib.hid hik
                      clear hcx hik hll2 hrr
                      cases g with
                      | true =>
                        go_wp2_with fail
                        go_roundw
                        case rel => exact ⟨j + 1, true, by omega, by go_num, rfl, by rw [HIK1.out, HG.out]; rfl, by trivial⟩
                        case measure => simp [intOf]; omega
                      | false =>
                        go_wp2_with (go_at_call 43; refine HCc.out.mono ?_; rintro e w1 ⟨rfl, hw1⟩; subst w1)
                        go_roundw
                        case rel => exact ⟨j + 1, rr, by omega, by go_num, rfl, by rw [HIK1.out, HG.out]; rfl, by trivial⟩
                        case measure => simp [intOf]; omega
                    · obtain rfl : j = la.length := by omega
                      cases g with
                      | false =>
                        go_wp2_with fail
                        go_roundw
                        case rel => exact ⟨x + 1, vb, by omega, by go_num, by rw [HBL.out, HBP.out, HG.out]; exact HBS.out⟩
                        case measure => simp [intOf]; omega
                      | true =>
                        have hs5 := HBS.out.size
                        have hg5 := HBS.out.gs
                        go_wp2_with (first
                          | (at_builtin; refine wpList_append_own _ rfl _ _ 28 rfl W2.heap.size 3 i1 (.int .i64 0) 1 8 Try.underlying28 hi1 hy0 hy1 hy2 rfl (by decide) _ _ _ rfl (HBS.out.bl.alloc _) ⟨W6.heap.size, 0, none⟩ 1 1 [.int .i64 x] rfl rfl (cell_one_new _ _ _) (by simp [Value.oneCell']) (by unfold maxLen; omega) (by omega) (by simp; omega) ?_
                             intro v' W7 hown' hgrow hnil'
                             obtain ⟨g', cap', rfl⟩ := own_succ hown'
                             have hput := HBS.out.put _ hgrow x hown'
                             have z4 : W7.cell? ⟨V.heap.size, 1, none⟩ = some vb := by simp [World.cell?, hput.1]
                             have f4 : W7.frozen? ⟨V.heap.size, 1, none⟩ = false := by simp [World.frozen?, hput.1]
                             have HBS7 := Lib.hid hput.2
                             clear hput hown' hgrow hnil'))
                        go_roundw
                        case rel => exact ⟨x + 1, _, by omega, by go_num, by rw [HBL.out, HBP.out, HG.out]; exact HBS7.out⟩
                        case measure => simp [intOf]; omega
              · obtain rfl : x = bs.length := by omega
                obtain ⟨Ab, cb, rfl, hIb⟩ := IV.of_own HBS.out.bl
                have hlp := HLP.out
                have HBSL := HBS.out
                obtain ⟨bl, hbl⟩ : ∃ bl, blK bs b la bs.length = bl := ⟨_, rfl⟩
                rw [hbl] at hlp z51 hblL HBSL
                have HLP2 := Lib.hid hlp
                have z50 : W5.cell? ⟨V.heap.size, 0, none⟩ = some (.int .i64 b) := by simp [World.cell?, HBSL.bx]
                have z53 : W5.cell? ⟨V.heap.size, 3, none⟩ = some (.int .i64 (-1)) := by simp [World.cell?, HBSL.bx]
                obtain ⟨cs, hrow, hcs⟩ := HOV.out.below HBSL.bel
                have HRW := Lib.hid hrow
                have HCS := Lib.hid hcs
                have HBS5 := Lib.hid HBSL
                have hlq := lsQ_len bs b
                have hs5 := HB5.out.size
                clear hIb hlp hbl hcs HBSL hrow
                go_wp2_with (first
                  | (at_builtin; refine wpList_append_own _ rfl _ _ 48 rfl W1.heap.size 50 i50 (.agg #[.int .i64 0, .slice none 0 0, .slice none 0 0, .int .i64 0]) 4 64 Try.underlying48 hi50 hx0 hx1 hx2 rfl (by decide) _ _ _ rfl (HRW.out.alloc _) ⟨W5.heap.size, 0, none⟩ 1 1 [.int .i64 b, .slice Ab bl.length cb, .slice Al la.length cl, .int .i64 (-1)] rfl rfl (cell_four_new _ _ _ _ _ _) (by simp [Value.oneCell']) (by unfold maxLen; omega) (by omega) (by simp; omega) ?_
                     intro v' W8 hown' hgrow hnil'
                     have HO8 := Lib.hid (OQ.snoc cs HRW.out HCS.out hgrow ⟨(b : Int), bl, la, -1⟩ Ab cb Al cl hown' (own_base HBS5.out.bl (Nat.zero_le _)) (own_base HBS5.out.la (Nat.zero_le _)))
                     have HB8 := Lib.hid ((HB5.out.alloc HB5.out.size (.cells #[.int .i64 b, .slice Ab bl.length cb, .slice Al la.length cl, .int .i64 (-1)] 50)).grown hgrow (by have := HB5.out.size; simp; omega) (fun k e => (HRW.out.lt k e).1))
                     clear hown' hgrow hnil'))
                go_roundw
                case rel => exact ⟨b + 1, by omega, by go_num, by rw [HQ.out, HHD2.out, HLP2.out]; exact HO8.out, HB8.out⟩
                case measure => simp [intOf]; omega
    · obtain rfl : b = bs.length := by omega
      have hlq := lsQ_len bs bs.length
      have hpa : ∀ j, j < (lsQ bs bs.length).length → (nthL (lsQ bs bs.length) j).pa = -1 := fun j hj => by obtain ⟨h, e⟩ := lsQ_at hj; rw [e]; rfl
      have hblz : ∀ j, j < (lsQ bs bs.length).length → (nthL (lsQ bs bs.length) j).bl.length ≤ bs.length := fun j hj => by obtain ⟨h, e⟩ := lsQ_at hj; rw [e]; exact blK_len _ _ _ _
      obtain ⟨Av, cv, hu, hLV⟩ := HOV.out.lv
      subst hu
      have hO := HOV.out
      obtain ⟨ls, hls⟩ : ∃ ls, lsQ bs bs.length = ls := ⟨_, rfl⟩
      rw [hls] at hlq hpa hblz hO
      have HLSQ := Lib.hid hls
      have HO := Lib.hid hO
      have HBLZ := Lib.hid hblz
      have HST := Lib.hid (fun i => lsP_start hpa i)
      rw [hls]
      clear hpa hblz hO hLV HOV hls
      go_wp2_with fail
      go_loopw [11] (fun i wr => ∃ n1 : Nat, n1 ≤ ls.length ∧ i = .int .i64 n1 ∧ OQ wr W1.heap.size 0 (.slice Av ls.length cv) (lsM ls n1) ∧ Below W1.heap.size W1 wr) (fun i _ => ls.length - (intOf i).toNat)
      case atStart => exact ⟨0, by omega, rfl, by rw [lsM_zero]; exact HO.out, HBV.out⟩
      case round =>
        obtain ⟨n1, hn1, rfl, hOX, hBX⟩ := hrel
        rename World => X
        have HOX := Lib.hid hOX
        have HBX := Lib.hid hBX
        clear hOX hBX
        by_cases h1 : n1 < ls.length
        · obtain ⟨g, rfl⟩ := HOX.out.row (lsM_length ls n1) (by omega)
          go_wp2_with fail
          go_loopw [12] (fun i wr => ∃ k : Nat, k ≤ ls.length ∧ i = .int .i64 k ∧ OQ wr W1.heap.size 0 (.slice (some ⟨g, 0, none⟩) ls.length cv) (lsP ls n1 k) ∧ Below W1.heap.size W1 wr) (fun i _ => ls.length - (intOf i).toNat)
          case atStart => exact ⟨0, by omega, rfl, by rw [HST.out]; exact HOX.out, HBX.out⟩
          case round =>
            obtain ⟨k, hk, rfl, hO, hB⟩ := hrel
            rename World => Y
            have hsY := hB.size
            have HOY := Lib.hid hO
            have HBY := Lib.hid hB
            clear hO hB
            by_cases hkt : k < ls.length
            · have HGO := Lib.hid (fun (n : Nat) (os : Array Obj) => HOY.out.below (grow_below Y n os))
              have HGB := Lib.hid (fun (n : Nat) (os : Array Obj) => HBY.out.trans ((grow_below Y n os).mono hsY))
              have hpm := arK_in ls n1 k
              have hstep : arK ls n1 (k + 1) = if arC ls n1 k && (decide (arK ls n1 k < 0) || decide ((nthL ls k).bl.length < (nthL ls (arK ls n1 k).toNat).bl.length)) then (k : Int) else arK ls n1 k := rfl
              have hac : arC ls n1 k = (!(decide (k = n1)) && !(decide ((nthL ls k).hd = (nthL ls n1).hd)) && !((nthL ls n1).bl.any fun b => !(nthL ls k).bl.contains b)) := rfl
              obtain ⟨A1, c1, B1, d1, x0, x1, x2, x3, hA1, hgs, hgb, hfz⟩ := HOY.out.cells (lsP_length ls n1 k) hkt
              obtain ⟨A2, c2, B2, d2, y0, y1, y2, y3, hA2, _, _, _⟩ := HOY.out.cells (lsP_length ls n1 k) h1
              rw [(lsP_hd ls n1 k hkt).1] at x0
              rw [(lsP_hd ls n1 k hkt).2.1] at x1 hA1
              rw [(lsP_hd ls n1 k hkt).2.2] at x2
              rw [(lsP_hd ls n1 k h1).1] at y0
              rw [(lsP_hd ls n1 k h1).2.1] at y1 hA2
              rw [(lsP_hd ls n1 k h1).2.2] at y2
              rw [lsP_pa ls n1 k h1] at y3
              have hz1 := HBLZ.out k hkt
              have hz2 := HBLZ.out n1 h1
              have HHD := Lib.hid (fun m' (hm' : m' < ls.length) => HOY.out.cells (lsP_length ls n1 k) hm')
              have HLH := Lib.hid (fun m' (hm' : m' < ls.length) => (lsP_hd ls n1 k hm').2.1)
              have HSAME := Lib.hid (fun (h : arK ls n1 (k + 1) = arK ls n1 k) => lsP_same h)
              have HSUCC := Lib.hid (fun j (hj : j < ls.length) => lsP_succ ls n1 k hj)
              obtain ⟨yk, hyk⟩ : ∃ y, nthL ls k = y := ⟨_, rfl⟩
              obtain ⟨yi, hyi⟩ : ∃ y, nthL ls n1 = y := ⟨_, rfl⟩
              rw [hyk] at x0 x1 x2 hA1 hz1 hstep hac
              rw [hyi] at y0 y1 y2 hA2 hz2 hac
              obtain ⟨pk, hpk⟩ : ∃ p, (nthL (lsP ls n1 k) k).pa = p := ⟨_, rfl⟩
              rw [hpk] at x3
              obtain ⟨m, hm⟩ : ∃ m, arK ls n1 k = m := ⟨_, rfl⟩
              rw [hm] at y3 hstep hpm
              obtain ⟨hdk, blk, lak, pak⟩ := yk
              obtain ⟨hdi, bli, lai, pai⟩ := yi
              dsimp only at x0 x1 x2 hA1 hz1 hstep hac y0 y1 y2 hA2 hz2
              have HC := Lib.hid (fun (n : Nat) (os : Array Obj) => Calls.grown_of (contains44g A1 A2 B1 B2 c1 c2 d1 d2 lak.length lai.length pk m hdk hdi blk bli (grow (Y.drewN n) os) (hA1.step (grow_below Y n os)) (hA2.step (grow_below Y n os)) (by omega) (by omega)))
              have g0 : ∀ n os, (grow (Y.drewN n) os).cell? ⟨g, k * 4, none⟩ = some (.int .i64 hdk) := cell_grown hgs x0
              have g1 : ∀ n os, (grow (Y.drewN n) os).cell? ⟨g, k * 4 + 1, none⟩ = some (.slice A1 blk.length c1) := cell_grown hgs x1
              have g2 : ∀ n os, (grow (Y.drewN n) os).cell? ⟨g, k * 4 + 2, none⟩ = some (.slice B1 lak.length d1) := cell_grown hgs x2
              have g3 : ∀ n os, (grow (Y.drewN n) os).cell? ⟨g, k * 4 + 3, none⟩ = some (.int .i64 pk) := cell_grown hgs x3
              have f0 : ∀ n os, (grow (Y.drewN n) os).cell? ⟨g, n1 * 4, none⟩ = some (.int .i64 hdi) := cell_grown hgs y0
              have f1 : ∀ n os, (grow (Y.drewN n) os).cell? ⟨g, n1 * 4 + 1, none⟩ = some (.slice A2 bli.length c2) := cell_grown hgs y1
              have f2 : ∀ n os, (grow (Y.drewN n) os).cell? ⟨g, n1 * 4 + 2, none⟩ = some (.slice B2 lai.length d2) := cell_grown hgs y2
              have f3 : ∀ n os, (grow (Y.drewN n) os).cell? ⟨g, n1 * 4 + 3, none⟩ = some (.int .i64 m) := cell_grown hgs y3
              have fz : ∀ n os q, (grow (Y.drewN n) os).frozen? ⟨g, q, none⟩ = false := fun n os q => (frozen?_grow (Y.drewN n) os ⟨g, q, none⟩ hgs).trans (hfz q)
              obtain ⟨rC, hrC⟩ : ∃ rC, (bli.all (fun b => blk.contains b) && !decide (hdk = hdi)) = rC := ⟨_, rfl⟩
              simp only [hrC] at HC
              have hac2 : k ≠ n1 → arC ls n1 k = rC := fun hne => by
                rw [hac, decide_eq_false hne, ← hrC]
                have e : (bli.any fun b => !blk.contains b) = !(bli.all fun b => blk.contains b) := by rw [List.not_all_eq_any_not]
                rw [e]
                cases bli.all (fun b => blk.contains b) <;> cases decide (hdk = hdi) <;> rfl
              have HPUT := Lib.hid (fun (n : Nat) (os : Array Obj) (he : arK ls n1 (k + 1) = (k : Int)) => OQ.setPa (ls' := lsP ls n1 (k + 1)) (by rw [lsP_length]; exact HGO.out n os) (Nat.zero_le _) (i := n1) (by rw [lsP_length]; exact h1) (k : Int) (by rw [lsP_length, lsP_length]) (fun j hj => by rw [lsP_length] at hj; rw [HSUCC.out j hj, he]))
              have HYK := Lib.hid hyk
              have HM := Lib.hid hm
              clear x0 x1 x2 x3 y0 y1 y2 y3 hfz hrC hyk hyi hpk hm hA1 hA2
              by_cases e1 : k = n1
              · have p1 : ((k : Int) != (n1 : Int)) = false := by simp [e1]
                have HSM := Lib.hid (HSAME.out (by rw [hstep, HM.out, hac, decide_eq_true e1]; rfl))
                clear hstep hac hac2 e1
                go_wp2_with fail
                refine wp_region_quiet_grown (by assumption) (by kernel_rfl) ?_
                repeat (go_big_quiet_step (fail))
                refine wpQuiet_nil ?_
                intro _ hw'
                obtain ⟨⟨nq, osq⟩, hw2⟩ := hw'
                subst hw2
                go_wp2_with fail
                go_roundw
                case rel => exact ⟨k + 1, by omega, by go_num, by rw [HSM.out]; exact HGO.out _ _, HGB.out _ _⟩
                case measure => simp [intOf]; omega
              have p1 : ((k : Int) != (n1 : Int)) = true := by simp; omega
              rw [hac2 e1] at hstep
              clear hac hac2 e1
              cases rC with
              | false =>
                have HSM := Lib.hid (HSAME.out (by rw [hstep, HM.out]; rfl))
                clear hstep
                go_wp2_with fail
                refine wp_region_quiet_grown (by assumption) (by kernel_rfl) ?_
                repeat (go_big_quiet_step (first | (go_at_call 44; exact HC.out _ _)))
                refine wpQuiet_nil ?_
                intro _ hw'
                obtain ⟨⟨nq, osq⟩, hw2⟩ := hw'
                subst hw2
                go_wp2_with fail
                go_roundw
                case rel => exact ⟨k + 1, by omega, by go_num, by rw [HSM.out]; exact HGO.out _ _, HGB.out _ _⟩
                case measure => simp [intOf]; omega
              | true =>
                by_cases hm : m < 0
                · have q1 : decide (m < 0) = true := by simpa using hm
                  have HE := Lib.hid (show arK ls n1 (k + 1) = (k : Int) by rw [hstep, q1]; rfl)
                  clear hstep hm
                  go_wp2_with fail
                  refine wp_region_quiet_grown (by assumption) (by kernel_rfl) ?_
                  repeat (go_big_quiet_step (first | (go_at_call 44; exact HC.out _ _)))
                  refine wpQuiet_nil ?_
                  intro _ hw'
                  obtain ⟨⟨nq, osq⟩, hw2⟩ := hw'
                  subst hw2
                  go_wp2_with fail
                  go_roundw
                  case rel => exact ⟨k + 1, by omega, by go_num, by have := (HPUT.out nq osq HE.out).1; rw [lsP_length] at this; exact this, (HGB.out nq osq).grown (HPUT.out nq osq HE.out).2 (HGB.out nq osq).size (fun q e => by cases e; exact hgb)⟩
                  case measure => simp [intOf]; omega
                · have q1 : decide (m < 0) = false := by simpa using hm
                  obtain ⟨m', rfl⟩ : ∃ m' : Nat, m = (m' : Int) := ⟨m.toNat, by omega⟩
                  have hm' : m' < ls.length := by omega
                  obtain ⟨A3, c3, B3, d3, _, k1, _, _, _, _, _, _⟩ := HHD.out m' hm'
                  rw [HLH.out m' hm'] at k1
                  rw [Int.toNat_natCast] at hstep
                  obtain ⟨n3, hn3⟩ : ∃ n3, (nthL ls m').bl.length = n3 := ⟨_, rfl⟩
                  rw [hn3] at k1 hstep
                  have h3 : ∀ n os, (grow (Y.drewN n) os).cell? ⟨g, m' * 4 + 1, none⟩ = some (.slice A3 n3 c3) := cell_grown hgs k1
                  clear hn3 k1
                  by_cases e : blk.length < n3
                  · have q2 : decide ((blk.length : Int) < (n3 : Int)) = true := by simpa using e
                    have HE := Lib.hid (show arK ls n1 (k + 1) = (k : Int) by rw [hstep, q1, decide_eq_true e]; rfl)
                    clear hstep hm
                    go_wp2_with fail
                    refine wp_region_quiet_grown (by assumption) (by kernel_rfl) ?_
                    repeat (go_big_quiet_step (first | (go_at_call 44; exact HC.out _ _)))
                    refine wpQuiet_nil ?_
                    intro _ hw'
                    obtain ⟨⟨nq, osq⟩, hw2⟩ := hw'
                    subst hw2
                    go_wp2_with fail
                    go_roundw
                    case rel => exact ⟨k + 1, by omega, by go_num, by have := (HPUT.out nq osq HE.out).1; rw [lsP_length] at this; exact this, (HGB.out nq osq).grown (HPUT.out nq osq HE.out).2 (HGB.out nq osq).size (fun q e => by cases e; exact hgb)⟩
                    case measure => simp [intOf]; omega
                  · have q2 : decide ((blk.length : Int) < (n3 : Int)) = false := by simpa using e
                    have HSM := Lib.hid (HSAME.out (by rw [hstep, HM.out, q1, decide_eq_false e]; rfl))
                    clear hstep hm
                    go_wp2_with fail
                    refine wp_region_quiet_grown (by assumption) (by kernel_rfl) ?_
                    repeat (go_big_quiet_step (first | (go_at_call 44; exact HC.out _ _)))
                    refine wpQuiet_nil ?_
                    intro _ hw'
                    obtain ⟨⟨nq, osq⟩, hw2⟩ := hw'
                    subst hw2
                    go_wp2_with fail
                    go_roundw
                    case rel => exact ⟨k + 1, by omega, by go_num, by rw [HSM.out]; exact HGO.out _ _, HGB.out _ _⟩
                    case measure => simp [intOf]; omega
            · obtain rfl : k = ls.length := by omega
              go_wp2_with fail
              go_roundw
              case rel => exact ⟨n1 + 1, by omega, by go_num, by rw [← lsP_end]; exact HOY.out, HBY.out⟩
              case measure => simp [intOf]; omega
        · obtain rfl : n1 = ls.length := by omega
          obtain ⟨A9, c9, he9, hLV9⟩ := HOX.out.lv
          rw [lsM_length] at he9
          cases he9
          have HLV := Lib.hid hLV9
          clear hLV9
          go_wp2_with fail
          go_ret
          exact ⟨⟨Av, cv, by rw [HLSQ.out]; rfl, by rw [HLSQ.out]; exact HLV.out⟩, HB1.out.trans (HBX.out.mono hs1)⟩
end Go.Proofs.Ytcbofikjcgdjmaa
