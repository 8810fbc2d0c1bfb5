/- The contracts of the reference's search (leave) and of its Order. -/
import Derived.Test.YtcbofikjcgdjmaaD4
namespace Go.Proofs.Ytcbofikjcgdjmaa
set_option linter.unusedVariables false
set_option linter.unusedSimpArgs false
open Go.RowKit

/-- leave: nothing where b is seen, else the search from b -/
def lvF (nx : Nat → List Nat) (k b : Nat) (st : DSt) : DSt := if st.1 b then st else dfs nx k b st
/-- the marks and the nodes left so far, in memory; N: the block of the marks -/
structure DL (V : World) (N n : Nat) (s : Nat → Bool) (o : List Nat) (v : Value) (W : World) : Prop where
  row : BR W N n s
  own : W.ownsRow (N + 1) 3 1 v o.length (icells (o.map Int.ofNat))
  bel : Below N V W
  size : N + 1 ≤ W.heap.size
theorem DL.mark {V : World} {N n : Nat} {s : Nat → Bool} {o : List Nat} {v : Value} {W : World} (h : DL V N n s o v W) (b : Nat) : DL V N n (upd s b) o v (W.setCell ⟨N, b, none⟩ (.bool true)) :=
  ⟨h.row.put b, own_other h.own (by simp) _, h.bel.setCell (p := ⟨N, b, none⟩) (Nat.le_refl _) _, by have := h.size; simpa using this⟩
theorem DL.noted {V : World} {N n : Nat} {s : Nat → Bool} {o : List Nat} {v v' : Value} {W W2 : World} {b : Nat} (h : DL V N n s o v W) (ob : Obj) (hg : (W.alloc ob).grownBy W2 v.ownBlock)
    (hown : W2.ownsRow (N + 1) 3 1 v' (o.length + 1) (icells (o.map Int.ofNat) ++ [.int .i64 b])) : DL V N n s (o ++ [b]) v' W2 := by
  have hsz := h.size
  have ho := h.own.alloc ob
  refine ⟨World.rowIs.of_block (World.rowIs.alloc h.row ob) (hg.block N (by simp; omega) (own_ne ho (by omega))), ?_, (h.bel.alloc (by omega) ob).grown hg (by simp; omega) (fun k e => by have := (ho.lt k e).1; omega), by have := hg.size; simp at this; omega⟩
  rw [List.length_append]
  simpa [icells] using hown
theorem DL.iv {V : World} {N n : Nat} {s : Nat → Bool} {o : List Nat} {v : Value} {W : World} (h : DL V N n s o v W) : ∃ A c, v = .slice A o.length c ∧ IV W A (o.map Int.ofNat) := by
  have h1 : W.ownsRow (N + 1) 3 1 v (o.map Int.ofNat).length (icells (o.map Int.ofNat)) := by rw [List.length_map]; exact h.own
  obtain ⟨A, c, e, hI⟩ := IV.of_own h1
  exact ⟨A, c, by rw [e, List.length_map], hI⟩
theorem nxR_length (xss : List (List Int)) (b : Nat) : (nxR xss b).length = (nthR xss b).length := by simp [nxR]
theorem nxR_getD (xss : List (List Int)) (b j : Nat) {nx : List Int} (h : nthR xss b = nx) (hj : j < nx.length) : (nxR xss b).getD j 0 = (nx.getD j 0).toNat := by
  rw [nxR, h, List.getD_eq_getElem?_getD, List.getElem?_map, List.getD_eq_getElem?_getD, List.getElem?_eq_getElem hj]; rfl
set_option maxRecDepth 100000 in
set_option maxHeartbeats 1000000 in
theorem leave61 (V : World) (N : Nat) (hN : V.heap.size = N) (A : Option Addr) (xss : List (List Int)) (n c : Nat) (h : RV V A xss) (hn : xss.length = n) (hl : n ≤ 1048576)
    (hz : ∀ j, j < n → (nthR xss j).length ≤ 1048576) (hin : ∀ j, j < n → ∀ t, t ∈ nthR xss j → 0 ≤ t ∧ t < n) :
    ∀ (k b m : Nat) (s : Nat → Bool) (o : List Nat) (v : Value) (W : World), b < n → cnt n s ≤ k → o.length + cnt n s ≤ m → m ≤ 1048576 → DL V N n s o v W →
      Calls Try.prog 61 #[.slice A n c, .int .i64 b, .slice (some ⟨N, 0, none⟩) n n, v] W fun e w' =>
        ∃ v', e = .returned v' ∧ DL V N n (lvF (nxR xss) k b (s, o)).1 (lvF (nxR xss) k b (s, o)).2 v' w' ∧ (lvF (nxR xss) k b (s, o)).2.length + cnt n (lvF (nxR xss) k b (s, o)).1 ≤ m := by
  intro k
  induction k with
  | zero =>
    intro b m s o v W hb hk hm hm2 hD
    have hs : s b = true := cnt_zero (by omega) hb
    obtain ⟨Av, cv, rfl, _⟩ := hD.iv
    have HD := Lib.hid hD
    have cb := World.rowIs.cell hD.row hb
    rw [hs] at cb
    have hlv : lvF (nxR xss) 0 b (s, o) = (s, o) := by unfold lvF; rw [if_pos hs]
    have HLV := Lib.hid hlv
    have HM := Lib.hid hm
    clear hD hs hlv hm h hz hin
    go_enter Try.func61, Try.ntmps61
    go_wp2_with fail
    go_ret
    exact ⟨_, rfl, by rw [HLV.out]; exact HD.out, by rw [HLV.out]; exact HM.out⟩
  | succ k ih =>
    intro b m s o v W hb hk hm hm2 hD
    cases hs : s b with
    | true =>
      obtain ⟨Av, cv, rfl, _⟩ := hD.iv
      have HD := Lib.hid hD
      have cb := World.rowIs.cell hD.row hb
      rw [hs] at cb
      have hlv : lvF (nxR xss) (k + 1) b (s, o) = (s, o) := by unfold lvF; rw [if_pos hs]
      have HLV := Lib.hid hlv
      have HM := Lib.hid hm
      clear hD hs hlv hm h hz hin ih
      go_enter Try.func61, Try.ntmps61
      go_wp2_with fail
      go_ret
      exact ⟨_, rfl, by rw [HLV.out]; exact HD.out, by rw [HLV.out]; exact HM.out⟩
    | false =>
      have IH := Lib.hid ih
      have HIN := Lib.hid hin
      have hcu := cnt_upd hb hs
      have HM0 := Lib.hid (hD.mark b)
      have cb := World.rowIs.cell hD.row hb
      rw [hs] at cb
      have fb := World.rowIs.frozen hD.row b
      have hlv : lvF (nxR xss) (k + 1) b (s, o) = dfs (nxR xss) (k + 1) b (s, o) := by unfold lvF; rw [if_neg (by simp [hs])]
      have HLV := Lib.hid hlv
      obtain ⟨b0, off, rfl, hbl, hc⟩ := h (by omega)
      obtain ⟨A1, c1, g0, hA1⟩ := hc b (by omega)
      rw [hN] at hbl
      have G0 := Lib.hid (fun (W' : World) (hb' : Below N V W') => (hb'.cell (p := ⟨b0, off + b, none⟩) hbl).trans g0)
      have hz1 := hz b hb
      have hin1 := hin b hb
      obtain ⟨nx, hnx⟩ : ∃ nx, nthR xss b = nx := ⟨_, rfl⟩
      rw [hnx] at g0 hA1 hz1 hin1 G0
      have HNX := Lib.hid hnx
      have HA1 := Lib.hid hA1
      have HIN1 := Lib.hid hin1
      have hv0 : ∃ Av cv, v = .slice Av o.length cv := by obtain ⟨A, c, e, _⟩ := hD.iv; exact ⟨A, c, e⟩
      obtain ⟨Av, cv, rfl⟩ := hv0
      clear hc g0 hnx hA1 hin1 ih hz hin hD hs hlv
      go_enter Try.func61, Try.ntmps61
      go_wp2_with fail
      clear cb fb
      go_loopw [3, 9] (fun vv i wr => ∃ (j : Nat), j ≤ nx.length ∧ i = .int .i64 j ∧ DL V N n (dfsJ (nxR xss) k b j (s, o)).1 (dfsJ (nxR xss) k b j (s, o)).2 vv wr ∧ (dfsJ (nxR xss) k b j (s, o)).2.length + cnt n (dfsJ (nxR xss) k b j (s, o)).1 + 1 ≤ m) (fun _ i _ => nx.length - (intOf i).toNat)
      case atStart => exact ⟨0, by omega, rfl, by rw [dfsJ_zero]; exact HM0.out, by rw [dfsJ_zero]; show o.length + cnt n (upd s b) + 1 ≤ m; omega⟩
      case round =>
        obtain ⟨j, hj, rfl, hD, hmm⟩ := hrel
        rename World => W5
        have HD2 := Lib.hid hD
        have g0 := G0.out W5 hD.bel
        have hbl5 : b0 < W5.heap.size := by have := hD.size; omega
        obtain ⟨st, hst⟩ : ∃ st, dfsJ (nxR xss) k b j (s, o) = st := ⟨_, rfl⟩
        have hcl : cnt n st.1 ≤ k := by
          have := cnt_mono n (s := upd s b) (s' := st.1) (fun t ht => by
            have := dfsJ_le (nxR xss) k b j (s, o) t
            rw [hst] at this
            by_cases e : t = b
            · subst e
              rw [← hst]
              exact dfsJ_self (nxR xss) k t j (s, o)
            · exact this (by simpa [upd, e] using ht))
          omega
        rw [hst] at hmm HD2
        have hv1 : ∃ Au cu, u3 = .slice Au st.2.length cu := by obtain ⟨A, c, e, _⟩ := HD2.out.iv; exact ⟨A, c, e⟩
        obtain ⟨Au, cu, rfl⟩ := hv1
        by_cases hlt : j < nx.length
        · have hsucc := dfsJ_succ (nx := nxR xss) (k := k) (b := b) (j := j) (st := (s, o)) (by rw [nxR_length, HNX.out]; exact hlt)
          obtain ⟨b1, off1, rfl, hbl1, hc1⟩ := HA1.out (by omega)
          rw [hN] at hbl1
          have g := (hD.bel.cell (p := ⟨b1, off1 + j, none⟩) hbl1).trans (hc1 j hlt)
          have hx0 := HIN1.out _ (getD_mem hlt)
          have hgd := nxR_getD xss b j HNX.out hlt
          obtain ⟨x, hx⟩ : ∃ x, nx.getD j 0 = x := ⟨_, rfl⟩
          rw [hx] at g hx0 hgd
          obtain ⟨t, rfl⟩ : ∃ t : Nat, x = (t : Int) := ⟨x.toNat, by omega⟩
          rw [Int.toNat_natCast] at hgd
          rw [hgd, hst] at hsucc
          have ht : t < n := by omega
          have HSU := Lib.hid (show dfsJ (nxR xss) k b (j + 1) (s, o) = lvF (nxR xss) k t st from hsucc)
          have HC := Lib.hid (IH.out t (m - 1) st.1 st.2 _ W5 ht hcl (by omega) (by omega) HD2.out)
          clear hc1 hx hgd hst hsucc hD
          go_wp2_with (go_at_call 61; refine HC.out.mono ?_; rintro e w1 ⟨v', rfl, hD3, hm3⟩; have HD3 := Lib.hid hD3; have HM3 := Lib.hid hm3; clear hD3 hm3)
          go_roundw
          case rel => exact ⟨j + 1, by omega, by go_num, by rw [HSU.out]; exact HD3.out, by rw [HSU.out]; have h3 : (lvF (nxR xss) k t st).2.length + cnt n (lvF (nxR xss) k t st).1 ≤ m - 1 := HM3.out; omega⟩
          case measure => simp [intOf]; omega
        · obtain rfl : j = nx.length := by omega
          have hall := dfs_all (nxR xss) k b (s, o)
          rw [nxR_length, HNX.out, hst] at hall
          have HALL := Lib.hid hall
          have hown := HD2.out.own
          have hsz := HD2.out.size
          have hol : st.2.length ≤ 1048576 := by omega
          obtain ⟨i1, hi1, hy0, hy1, hy2⟩ := info_parts info3r
          have HOWN := Lib.hid hown
          clear hall hD hst hown
          go_wp2_with (first
            | (at_builtin; refine wpList_append_own _ rfl _ _ 28 rfl (N + 1) 3 i1 (.int .i64 0) 1 8 Try.underlying28 hi1 hy0 hy1 hy2 rfl (by decide) _ _ _ rfl (HOWN.out.alloc _) ⟨W5.heap.size, 0, none⟩ 1 1 [.int .i64 b] rfl rfl (cell_one_new _ _ _) (by simp [Value.oneCell']) (by unfold maxLen; omega) (by omega) (by simp; omega) ?_
               intro v' w1 hown' hgrow hnil'
               have HD4 := Lib.hid (HD2.out.noted _ hgrow hown')
               obtain ⟨g', cap', rfl⟩ := own_succ hown'
               clear hown' hgrow hnil'))
          go_ret
          refine ⟨_, rfl, ?_, ?_⟩
          · rw [HLV.out, HALL.out]; exact HD4.out
          · rw [HLV.out, HALL.out]; show (st.2 ++ [b]).length + cnt n st.1 ≤ m; rw [List.length_append]; simp; omega
theorem rev_at (l : List Nat) {q : Nat} (h : q < l.length) : l.reverse.getD q 0 = l.getD (l.length - 1 - q) 0 := by
  rw [List.getD_eq_getElem?_getD, List.getD_eq_getElem?_getD, List.getElem?_reverse h]
set_option maxRecDepth 100000 in
set_option maxHeartbeats 2000000 in
theorem order40 (A : Option Addr) (xss : List (List Int)) (n c : Nat) (w : World) (h : RV w A xss) (hn : xss.length = n) (h0 : n ≠ 0) (hl : n ≤ 1048576)
    (hz : ∀ j, j < n → (nthR xss j).length ≤ 1048576) (hin : ∀ j, j < n → ∀ t, t ∈ nthR xss j → 0 ≤ t ∧ t < n) :
    Calls Try.prog 40 #[.slice A n c] w fun e w' => (∃ R cap, e = .returned (.slice R (dfs (nxR xss) n 0 (fun _ => false, [])).2.length cap) ∧ IV w' R ((dfs (nxR xss) n 0 (fun _ => false, [])).2.reverse.map Int.ofNat)) ∧ Below w.heap.size w w' := by
  have hmk := run_make_row' (P := Try.prog) 55 4 (.bool false) 1 Try.underlying55 info4 rfl .i64 .i64 n (by omega) (by omega)
  have hlv : lvF (nxR xss) n 0 (fun _ => false, []) = dfs (nxR xss) n 0 (fun _ => false, []) := rfl
  have hL := leave61 w w.heap.size rfl A xss n c h hn hl hz hin n 0 n (fun _ => false) [] (.slice none 0 0) (w.alloc (.cells (madeCells #[.bool false] n) 4)) (by omega) (cnt_le _ _) (by rw [cnt_none]; simp) hl
    ⟨World.rowIs_made w (.bool false) n 4, World.ownsRow_nil _ _ _ _, below_new (Below.refl _ _) _, by simp⟩
  rw [hlv] at hL
  obtain ⟨st, hst⟩ : ∃ st, dfs (nxR xss) n 0 (fun _ => false, []) = st := ⟨_, rfl⟩
  rw [hst] at hL
  rw [hst]
  have HL := Lib.hid hL
  obtain ⟨i1, hi1, hy0, hy1, hy2⟩ := info_parts info3r
  clear hL hlv hst h hz hin hn h0
  go_enter Try.func40, Try.ntmps40
  go_wp2_with (go_at_call 61; refine HL.out.mono ?_; rintro e W1 ⟨v', rfl, hD, hm⟩
               obtain ⟨Av, cv, rfl, hI⟩ := hD.iv
               have HI := Lib.hid hI
               have HB1 := Lib.hid hD.bel
               have hlen : st.2.length ≤ 1048576 := by omega
               clear hD hI hm HL)
  go_loopw [4, 5] (fun v i wr => ∃ q : Nat, q ≤ st.2.length ∧ i = .int .i64 ((st.2.length : Int) - 1 - q) ∧ wr.ownsRow W1.heap.size 3 1 v q (icells ((st.2.reverse.take q).map Int.ofNat)) ∧ Below W1.heap.size W1 wr) (fun _ i _ => (intOf i + 1).toNat)
  case atStart => exact ⟨0, by omega, by go_num, World.ownsRow_nil _ _ _ _, Below.refl _ _⟩
  case round =>
    obtain ⟨q, hq, rfl, hown, hB⟩ := hrel
    rename World => W2
    have HO := Lib.hid hown
    have HB2 := Lib.hid hB
    have hsz := hB.size
    clear hown hB
    by_cases hlt : q < st.2.length
    · obtain ⟨b1, o1, rfl, hb1, hc1⟩ := HI.out (by simp; omega)
      have hj : st.2.length - 1 - q < (st.2.map Int.ofNat).length := by simp; omega
      have g := (HB2.out.cell (p := ⟨b1, o1 + (st.2.length - 1 - q), none⟩) hb1).trans (hc1 _ hj)
      have hgx : (st.2.map Int.ofNat).getD (st.2.length - 1 - q) 0 = ((st.2.reverse.getD q 0 : Nat) : Int) := by rw [getD_map_ofNat _ (by simpa using hj), rev_at _ hlt]
      have htk : st.2.reverse.take (q + 1) = st.2.reverse.take q ++ [st.2.reverse.getD q 0] := take_succ_nat (by simpa using hlt)
      rw [hgx] at g
      obtain ⟨x, hx⟩ : ∃ x, st.2.reverse.getD q 0 = x := ⟨_, rfl⟩
      rw [hx] at g htk
      obtain ⟨i, hi⟩ : ∃ i : Nat, st.2.length - 1 - q = i := ⟨_, rfl⟩
      rw [hi] at g
      have hi' : (st.2.length : Int) - 1 - q = (i : Int) := by omega
      have HII := Lib.hid hi'
      have hil : i < st.2.length := by omega
      have HTK := Lib.hid htk
      rw [hi']
      clear hj hgx htk hx hi hi' hc1
      go_wp2_with (first
        | (at_builtin; refine wpList_append_own _ rfl _ _ 28 rfl W1.heap.size 3 i1 (.int .i64 0) 1 8 Try.underlying28 hi1 hy0 hy1 hy2 rfl (by decide) _ _ _ rfl (HO.out.alloc _) ⟨W2.heap.size, 0, none⟩ 1 1 [.int .i64 x] rfl rfl (cell_one_new _ _ _) (by simp [Value.oneCell']) (by unfold maxLen; omega) (by omega) (by simp; omega) ?_
           intro v' w1 hown' hgrow hnil'
           have HO1 := Lib.hid hown'
           have HB3 := Lib.hid ((below_new HB2.out (.cells #[.int .i64 x] 3)).grown hgrow (by simp; omega) (fun q e => (HO.out.lt q e).1))
           clear hown' hgrow hnil'))
      go_roundw
      case rel =>
        refine ⟨q + 1, by omega, ?_, ?_, HB3.out⟩
        · have := HII.out
          rw [show (st.2.length : Int) - 1 - ((q + 1 : Nat) : Int) = (i : Int) - 1 by omega]
        · rw [HTK.out]
          have := HO1.out
          simpa [icells] using this
      case measure => simp [intOf]
    · obtain rfl : q = st.2.length := by omega
      have hi' : (st.2.length : Int) - 1 - (st.2.length : Int) = -1 := by omega
      rw [hi']
      have h1 := HO.out
      rw [show st.2.length = ((st.2.reverse.take st.2.length).map Int.ofNat).length by simp] at h1
      obtain ⟨R, cap, hv, hI⟩ := IV.of_own (xs := (st.2.reverse.take st.2.length).map Int.ofNat) (by simpa using h1)
      rw [show ((st.2.reverse.take st.2.length).map Int.ofNat).length = st.2.length by simp] at hv
      rw [show st.2.reverse.take st.2.length = st.2.reverse from List.take_of_length_le (by simp)] at hI
      subst hv
      have HIR := Lib.hid hI
      clear h1 hI hi'
      go_wp2_with fail
      go_ret
      exact ⟨⟨R, cap, rfl, HIR.out⟩, HB1.out.trans (HB2.out.mono HB1.out.size)⟩
end Go.Proofs.Ytcbofikjcgdjmaa
