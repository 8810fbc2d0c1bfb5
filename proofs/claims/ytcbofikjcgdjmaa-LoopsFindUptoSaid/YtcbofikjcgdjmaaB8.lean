/- The contract of the closure of dominator.Order: a depth-first search. -/
import Derived.Test.YtcbofikjcgdjmaaB7
namespace Go.Proofs.Ytcbofikjcgdjmaa
set_option linter.unusedVariables false
set_option linter.unusedSimpArgs false
open Go.RowKit

/-- a block of one cell -/
def Bx (W : World) (b : Nat) (t : TypeId) (v : Value) : Prop := W.heap[b]? = some (.cells #[v] t (0, 0))
theorem Bx.cell {W : World} {b : Nat} {t : TypeId} {v : Value} (h : Bx W b t v) : W.cell? ⟨b, 0, none⟩ = some v := by simp [World.cell?, show W.heap[b]? = _ from h]
theorem Bx.frozen {W : World} {b : Nat} {t : TypeId} {v : Value} (h : Bx W b t v) : W.frozen? ⟨b, 0, none⟩ = false := by simp [World.frozen?, show W.heap[b]? = _ from h]
theorem Bx.lt {W : World} {b : Nat} {t : TypeId} {v : Value} (h : Bx W b t v) : b < W.heap.size := (Array.getElem?_eq_some_iff.1 h).1
theorem Bx.new (W : World) (t : TypeId) (v : Value) : Bx (W.alloc (.cells #[v] t)) W.heap.size t v := by show (W.heap.push _)[W.heap.size]? = _; simp
theorem Bx.below {W W' : World} {n b : Nat} {t : TypeId} {v : Value} (h : Bx W b t v) (hb : Below n W W') (hn : b < n) : Bx W' b t v := (hb.block b hn).trans h
theorem Bx.alloc {W : World} {b : Nat} {t : TypeId} {v : Value} (h : Bx W b t v) (o : Obj) : Bx (W.alloc o) b t v := h.below (below_new (Below.refl _ _) o) h.lt
theorem Bx.grown {W W' : World} {row : Option Nat} {b : Nat} {t : TypeId} {v : Value} (h : Bx W b t v) (hg : W.grownBy W' row) (hne : some b ≠ row) : Bx W' b t v := (hg.block b h.lt hne).trans h
theorem Bx.other {W : World} {b : Nat} {t : TypeId} {v : Value} (h : Bx W b t v) {q : Addr} (hne : b ≠ q.block) (u : Value) : Bx (W.setCell q u) b t v := (Below.heap_setCell W q u b hne).trans h
theorem Bx.set {W : World} {b : Nat} {t : TypeId} {v : Value} (h : Bx W b t v) (u : Value) : Bx (W.setCell ⟨b, 0, none⟩ u) b t u := by
  show (W.heap.modify b _)[b]? = _
  have h' : W.heap[b]? = _ := h
  obtain ⟨hlt, hk⟩ := Array.getElem?_eq_some_iff.1 h'
  rw [Array.getElem?_eq_getElem (by rw [Array.size_modify]; exact hlt), Array.getElem_modify_self, hk]
  rfl
/-- a row of the call's own is no block of another kind -/
theorem own_ne {W : World} {base : Nat} {e : TypeId} {size n : Nat} {v : Value} {xs : List Value} (h : W.ownsRow base e size v n xs) {b : Nat} (hb : b < base) : some b ≠ v.ownBlock := fun e => by
  have := (h.lt b e.symm).1; omega
theorem own_other {W : World} {base : Nat} {e : TypeId} {size n : Nat} {v : Value} {xs : List Value} (h : W.ownsRow base e size v n xs) {q : Addr} (hq : q.block < base) (u : Value) : (W.setCell q u).ownsRow base e size v n xs := by
  refine ⟨h.1, ?_⟩
  rcases h.2 with hn | ⟨g, cap, cur, hv, hbg, hg, rest⟩
  · exact .inl hn
  · exact .inr ⟨g, cap, cur, hv, hbg, (Below.heap_setCell W q u g (by omega)).trans hg, rest⟩

/-- the boxes of dominator.Order and what the search has done so far; N: the first block of the call's own -/
structure DS (W1 : World) (G N n : Nat) (s : Nat → Bool) (o : List Nat) (W : World) : Prop where
  seenB : Bx W (N + 1) 55 (.slice (some ⟨N, 0, none⟩) n n)
  fnB : Bx W (N + 3) 81 (.func (.func 46) #[] #[.pointer (some ⟨N + 1, 0, none⟩), .pointer (some ⟨G, 0, none⟩), .pointer (some ⟨N + 3, 0, none⟩), .pointer (some ⟨N + 2, 0, none⟩)])
  outB : ∃ v, Bx W (N + 2) 28 v ∧ W.ownsRow (N + 4) 3 1 v o.length (icells (o.map Int.ofNat))
  row : W.rowIs N 4 n (fun t => .bool (s t))
  bel : Below N W1 W
  size : N + 4 ≤ W.heap.size
theorem DS.mark {W1 : World} {G N n : Nat} {s : Nat → Bool} {o : List Nat} {W : World} (h : DS W1 G N n s o W) (b : Nat) : DS W1 G N n (upd s b) o (W.setCell ⟨N, b, none⟩ (.bool true)) := by
  obtain ⟨v, hv, hr⟩ := h.outB
  refine ⟨h.seenB.other (by simp) _, h.fnB.other (by simp) _, ⟨v, hv.other (by simp) _, own_other hr (by simp) _⟩, ?_, h.bel.setCell (p := ⟨N, b, none⟩) (Nat.le_refl _) _, by have := h.size; simpa using this⟩
  refine (h.row.set b (.bool true)).congr fun i hi => ?_
  by_cases e : i = b <;> simp [upd, e]
theorem DS.noted {W1 : World} {G N n : Nat} {s : Nat → Bool} {o : List Nat} {W Wa W2 : World} {v v' : Value} {b : Nat} (h : DS W1 G N n s o W) (hv : Bx W (N + 2) 28 v) (hr : W.ownsRow (N + 4) 3 1 v o.length (icells (o.map Int.ofNat)))
    (ha : Below W.heap.size W Wa) (hg : Wa.grownBy W2 v.ownBlock) (hown : W2.ownsRow (N + 4) 3 1 v' (o.length + 1) (icells (o.map Int.ofNat) ++ [.int .i64 b])) : DS W1 G N n s (o ++ [b]) (W2.setCell ⟨N + 2, 0, none⟩ v') := by
  have hsz := h.size
  have hra := own_below hr ha
  have ne : ∀ k, k < N + 4 → some k ≠ v.ownBlock := fun k hk => own_ne hra hk
  have hB : Below N W1 W2 := (h.bel.trans (ha.mono (by omega))).grown hg (by have := ha.size; omega) (fun k e => by have := (hra.lt k e).1; omega)
  refine ⟨((h.seenB.below ha h.seenB.lt).grown hg (ne _ (by omega))).other (by simp) _, ((h.fnB.below ha h.fnB.lt).grown hg (ne _ (by omega))).other (by simp) _, ⟨v', ((hv.below ha hv.lt).grown hg (ne _ (by omega))).set _, ?_⟩, ?_, hB.setCell (p := ⟨N + 2, 0, none⟩) (by simp) _, ?_⟩
  · rw [List.map_append, List.length_append]
    have := own_other hown (q := ⟨N + 2, 0, none⟩) (by simp) v'
    simpa [icells] using this
  · have r1 := rowIs_below h.row ha
    exact (r1.of_block (hg.block N r1.lt (ne _ (by omega)))).setOther (by simp) _
  · have := ha.size; have := hg.size; simp; omega

theorem nxN_length (bs : List Bk) (b : Nat) : (nxN bs b).length = (nthB bs b).nx.length := by simp [nxN]
theorem nxN_getD (bs : List Bk) (b j : Nat) {nx : List Int} (h : (nthB bs b).nx = nx) (hj : j < nx.length) : (nxN bs b).getD j 0 = (nx.getD j 0).toNat := by
  rw [nxN, h, List.getD_eq_getElem?_getD, List.getElem?_map, List.getD_eq_getElem?_getD, List.getElem?_eq_getElem hj]; rfl
set_option maxRecDepth 100000 in
set_option maxHeartbeats 4000000 in
theorem visit46 (W1 : World) (N : Nat) (hN : W1.heap.size = N) (G : Nat) (hG : G < N) (A : Option Addr) (bs : List Bk) (c : Nat) (h : BV W1 A bs) (hg : W1.cell? ⟨G, 0, none⟩ = some (.slice A bs.length c)) (hl : bs.length ≤ 1048576)
    (hz : ∀ j, j < bs.length → (nthB bs j).nx.length ≤ 2) (hin : ∀ j, j < bs.length → ∀ q, q < (nthB bs j).nx.length → 0 ≤ (nthB bs j).nx.getD q 0 ∧ (nthB bs j).nx.getD q 0 < bs.length) :
    ∀ (k b m : Nat) (s : Nat → Bool) (o : List Nat) (W : World), b < bs.length → s b = false → cnt bs.length s ≤ k → o.length + cnt bs.length s ≤ m → m ≤ 1048576 → DS W1 G N bs.length s o W →
      Calls Try.prog 46 #[.int .i64 b, .pointer (some ⟨N + 1, 0, none⟩), .pointer (some ⟨G, 0, none⟩), .pointer (some ⟨N + 3, 0, none⟩), .pointer (some ⟨N + 2, 0, none⟩)] W fun e w' =>
        e = .returned (.tuple #[]) ∧ DS W1 G N bs.length (dfs (nxN bs) k b (s, o)).1 (dfs (nxN bs) k b (s, o)).2 w' ∧ (dfs (nxN bs) k b (s, o)).2.length + cnt bs.length (dfs (nxN bs) k b (s, o)).1 ≤ m := by
  intro k
  induction k with
  | zero =>
    intro b m s o W hb hs hk
    have := cnt_upd hb hs
    omega
  | succ k ih =>
    intro b m s o W hb hs hk hm hm2 hD
    have IH := Lib.hid ih
    have HS := Lib.hid h
    have HG := Lib.hid hg
    have HZ := Lib.hid hz
    have HIN := Lib.hid hin
    have hcu := cnt_upd hb hs
    have HD := Lib.hid hD
    have cS := hD.seenB.cell
    have cG := (hD.bel.cell (p := ⟨G, 0, none⟩) hG).trans hg
    have hGW : G < W.heap.size := by have := hD.size; omega
    obtain ⟨b0, off, rfl, hbl, hc⟩ := h (by omega)
    obtain ⟨A1, c1, g0, g1, g2, hA1⟩ := hc b hb
    rw [hN] at hbl
    replace g2 := (hD.bel.cell (p := ⟨b0, off + b * 3 + 2, none⟩) hbl).trans g2
    have hz1 := hz b hb
    have hin1 := hin b hb
    obtain ⟨nx, hnx⟩ : ∃ nx, (nthB bs b).nx = nx := ⟨_, rfl⟩
    rw [hnx] at g2 hA1 hz1 hin1
    have HNX := Lib.hid hnx
    have HA1 := Lib.hid hA1
    have HIN1 := Lib.hid hin1
    have hGN : G ≠ N := by omega
    have hbN : b0 ≠ N := by omega
    clear hc g0 g1 hnx hA1 hin1
    have cb := hD.row.cell hb
    have fb := hD.row.frozen b
    clear ih h hg hz hin hD
    go_enter Try.func46, Try.ntmps46
    go_wp2_with fail
    go_loopw [18] (fun i wr => ∃ j : Nat, j ≤ nx.length ∧ i = .int .i64 j ∧ DS W1 G N bs.length (dfsJ (nxN bs) k b j (s, o)).1 (dfsJ (nxN bs) k b j (s, o)).2 wr ∧ (dfsJ (nxN bs) k b j (s, o)).2.length + cnt bs.length (dfsJ (nxN bs) k b j (s, o)).1 + 1 ≤ m) (fun i _ => nx.length - (intOf i).toNat)
    case atStart => exact ⟨0, by omega, rfl, by rw [dfsJ_zero]; exact HD.out.mark b, by rw [dfsJ_zero]; show o.length + cnt bs.length (upd s b) + 1 ≤ m; omega⟩
    case round =>
      obtain ⟨j, hj, rfl, hD, hmm⟩ := hrel
      have hle := dfsJ_le (nxN bs) k b j (s, o)
      have HD2 := Lib.hid hD
      by_cases hlt : j < nx.length
      · have hsucc := dfsJ_succ (nx := nxN bs) (k := k) (b := b) (j := j) (st := (s, o)) (by rw [nxN_length, HNX.out]; exact hlt)
        obtain ⟨st, hst⟩ : ∃ st, dfsJ (nxN bs) k b j (s, o) = st := ⟨_, rfl⟩
        have hcl : cnt bs.length st.1 ≤ k := by
          have := cnt_mono bs.length (s := upd s b) (s' := st.1) (fun t ht => by
            have := dfsJ_le (nxN bs) k b j (s, o) t
            rw [hst] at this
            by_cases e : t = b
            · subst e
              rw [← hst]
              exact dfsJ_self (nxN bs) k t j (s, o)
            · exact this (by simpa [upd, e] using ht))
          omega
        obtain ⟨b1, off1, rfl, hbl1, hc1⟩ := HA1.out (by omega)
        rw [hN] at hbl1
        have g := (hD.bel.cell (p := ⟨b1, off1 + j, none⟩) hbl1).trans (hc1 j hlt)
        obtain ⟨x0, x1⟩ := HIN1.out j hlt
        have hgd := nxN_getD bs b j HNX.out hlt
        obtain ⟨x, hx⟩ : ∃ x, nx.getD j 0 = x := ⟨_, rfl⟩
        rw [hx] at g x0 x1 hgd
        obtain ⟨t, rfl⟩ : ∃ t : Nat, x = (t : Int) := ⟨x.toNat, by omega⟩
        rw [Int.toNat_natCast] at hgd
        rw [hgd, hst] at hsucc
        rw [hst] at hmm HD2
        simp only [hst] at hD
        have ht : t < bs.length := by omega
        have cS := hD.seenB.cell
        have cF := hD.fnB.cell
        have ct := hD.row.cell ht
        have HSU := Lib.hid hsucc
        clear hle hc1 hx hgd hst hsucc hD
        cases hseen : st.1 t with
        | true =>
          rw [hseen] at ct
          have HSE := Lib.hid hseen
          clear hseen
          go_wp2_with fail
          go_roundw
          case rel => exact ⟨j + 1, by omega, by go_num, by rw [HSU.out, if_pos HSE.out]; exact HD2.out, by rw [HSU.out, if_pos HSE.out]; exact hmm⟩
          case measure => simp [intOf]; omega
        | false =>
          rw [hseen] at ct
          have HSE := Lib.hid hseen
          have HC := Lib.hid (IH.out t (m - 1) st.1 st.2 wr ht hseen hcl (by omega) (by omega) HD2.out)
          clear hseen
          go_wp2_with (go_at_call 46; refine HC.out.mono ?_; rintro e w1 ⟨rfl, hD3, hm3⟩; have HD3 := Lib.hid hD3; have HM3 := Lib.hid hm3; clear hD3 hm3)
          go_roundw
          case rel => exact ⟨j + 1, by omega, by go_num, by rw [HSU.out, if_neg (by rw [HSE.out]; simp)]; exact HD3.out, by rw [HSU.out, if_neg (by rw [HSE.out]; simp)]; have h3 : (dfs (nxN bs) k t st).2.length + cnt bs.length (dfs (nxN bs) k t st).1 ≤ m - 1 := HM3.out; omega⟩
          case measure => simp [intOf]; omega
      · obtain rfl : j = nx.length := by omega
        have hall := dfs_all (nxN bs) k b (s, o)
        rw [nxN_length, HNX.out] at hall
        obtain ⟨st, hst⟩ : ∃ st, dfsJ (nxN bs) k b nx.length (s, o) = st := ⟨_, rfl⟩
        rw [hst] at hall hmm HD2
        have HALL := Lib.hid hall
        obtain ⟨v, hv, hown⟩ := HD2.out.outB
        have cv := hv.cell
        have fv := hv.frozen
        have hsz := HD2.out.size
        have hol : st.2.length ≤ 1048576 := by omega
        have HV := Lib.hid hv
        obtain ⟨i1, hi1, hy0, hy1, hy2⟩ := info_parts info3r
        clear hall hle hD hst hv
        go_wp2_with (first
          | (at_builtin; refine wpList_append_own _ rfl _ _ 28 rfl (N + 4) 3 i1 (.int .i64 0) 1 8 Try.underlying28 hi1 hy0 hy1 hy2 rfl (by decide) _ _ _ rfl (hown.alloc _) ⟨wr.heap.size, 0, none⟩ 1 1 [.int .i64 b] rfl rfl (cell_one_new _ _ _) (by simp [Value.oneCell']) (by unfold maxLen; omega) (by omega) (by simp; omega) ?_; intro v' w1 hown' hgrow hnil'
             obtain ⟨g', cap', rfl⟩ := own_succ hown'
             have hbx := (HV.out.alloc (.cells #[.int .i64 b] 3)).grown hgrow (own_ne hown (by omega))
             have cb2 := hbx.cell
             have fb2 := hbx.frozen
             have HD4 := Lib.hid (HD2.out.noted HV.out hown (below_new (Below.refl _ _) (.cells #[.int .i64 b] 3)) hgrow hown')
             clear hown' hgrow hnil' hbx))
        go_end0
        refine ⟨rfl, ?_, ?_⟩
        · rw [HALL.out]; exact HD4.out
        · rw [HALL.out]; show (st.2 ++ [b]).length + cnt bs.length st.1 ≤ m; rw [List.length_append]; simp; omega
end Go.Proofs.Ytcbofikjcgdjmaa
