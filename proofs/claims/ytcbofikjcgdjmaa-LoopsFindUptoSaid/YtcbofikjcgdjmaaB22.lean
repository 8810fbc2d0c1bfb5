/- The contract of the statement's Graph. -/
import Derived.Test.YtcbofikjcgdjmaaB20
import Derived.BigRegion
import Derived.Deep.RegionLaw
namespace Go.Proofs.Ytcbofikjcgdjmaa
set_option linter.unusedVariables false
set_option linter.unusedSimpArgs false
open Go.RowKit

/-- the blocks of the graph with the given successors -/
def bsOf (xss : List (List Int)) (k : Nat) : List Bk := (List.range k).map fun i : Nat => ⟨(i : Int), (i : Int) + 1, nthR xss i⟩
theorem bsOf_length (xss : List (List Int)) (k : Nat) : (bsOf xss k).length = k := by simp [bsOf]
theorem bsOf_at (xss : List (List Int)) {k j : Nat} (h : j < k) : nthB (bsOf xss k) j = ⟨(j : Int), (j : Int) + 1, nthR xss j⟩ := by
  rw [nthB, bsOf, List.getD_eq_getElem?_getD, List.getElem?_map, List.getElem?_range h]; rfl
theorem bsOf_succ (xss : List (List Int)) (k : Nat) : bsOf xss (k + 1) = bsOf xss k ++ [⟨(k : Int), (k : Int) + 1, nthR xss k⟩] := by
  rw [bsOf, List.range_succ, List.map_append]; rfl
/-- the edges of the first k blocks -/
theorem edgK_bsOf (xss : List (List Int)) {n m : Nat} (hn : n ≤ m) : ∀ k, k ≤ n → edgK (bsOf xss n) k = edgK (bsOf xss m) k
  | 0, _ => rfl
  | k + 1, hk => by rw [edgK, edgK, edgK_bsOf xss hn k (by omega), bsOf_at xss (by omega), bsOf_at xss (by omega)]
/-- a list of blocks in a row of the call's own -/
def BO (w W : World) (base : Nat) (v : Value) (bs : List Bk) : Prop :=
  ∃ cs : List Value, W.ownsRow base 63 3 v bs.length cs ∧ ∀ j, j < bs.length → ∃ A c, cs[j * 3]? = some (.int .i64 (nthB bs j).fr) ∧ cs[j * 3 + 1]? = some (.int .i64 (nthB bs j).to) ∧ cs[j * 3 + 2]? = some (.slice A (nthB bs j).nx.length c) ∧ IV w A (nthB bs j).nx
theorem BO.nil (w W : World) (base : Nat) : BO w W base (.slice none 0 0) [] := ⟨[], World.ownsRow_nil _ _ _ _, fun j hj => absurd hj (by simp)⟩
theorem nthB_append_left {ls : List Bk} {x : Bk} {j : Nat} (h : j < ls.length) : nthB (ls ++ [x]) j = nthB ls j := by
  rw [nthB, nthB, List.getD_eq_getElem?_getD, List.getElem?_append_left h, List.getD_eq_getElem?_getD]
theorem nthB_append_right {ls : List Bk} {x : Bk} : nthB (ls ++ [x]) ls.length = x := by
  rw [nthB, List.getD_eq_getElem?_getD, List.getElem?_append_right (Nat.le_refl _), Nat.sub_self]; rfl
theorem BO.snoc {w W W1 : World} {base : Nat} {v v' : Value} {bs : List Bk} (cs : List Value) (hr : W.ownsRow base 63 3 v bs.length cs)
    (hc : ∀ j, j < bs.length → ∃ A c, cs[j * 3]? = some (.int .i64 (nthB bs j).fr) ∧ cs[j * 3 + 1]? = some (.int .i64 (nthB bs j).to) ∧ cs[j * 3 + 2]? = some (.slice A (nthB bs j).nx.length c) ∧ IV w A (nthB bs j).nx)
    (x : Bk) (A : Option Addr) (c : Nat) (hown : W1.ownsRow base 63 3 v' (bs.length + 1) (cs ++ [.int .i64 x.fr, .int .i64 x.to, .slice A x.nx.length c])) (h1 : IV w A x.nx) : BO w W1 base v' (bs ++ [x]) := by
  have hlen : cs.length = bs.length * 3 := hr.1
  refine ⟨_, by rw [List.length_append]; exact hown, fun j hj => ?_⟩
  rw [List.length_append, List.length_singleton] at hj
  by_cases e : j < bs.length
  · rw [nthB_append_left e]
    obtain ⟨B1, d1, k0, k1, k2, r1⟩ := hc j e
    refine ⟨B1, d1, ?_, ?_, ?_, r1⟩
    · rw [List.getElem?_append_left (by omega), k0]
    · rw [List.getElem?_append_left (by omega), k1]
    · rw [List.getElem?_append_left (by omega), k2]
  · obtain rfl : j = bs.length := by omega
    rw [nthB_append_right]
    refine ⟨A, c, ?_, ?_, ?_, h1⟩
    · exact getElem?_append_at cs [.int .i64 x.fr, .int .i64 x.to, .slice A x.nx.length c] _ 0 hlen
    · exact getElem?_append_at cs [.int .i64 x.fr, .int .i64 x.to, .slice A x.nx.length c] _ 1 hlen
    · exact getElem?_append_at cs [.int .i64 x.fr, .int .i64 x.to, .slice A x.nx.length c] _ 2 hlen
theorem BO.bv {w W : World} {base : Nat} {v : Value} {bs : List Bk} (h : BO w W base v bs) (hb : Below w.heap.size w W) : ∃ A c, v = .slice A bs.length c ∧ BV W A bs := by
  obtain ⟨cs, hr, hc⟩ := h
  have hl := hr
  rcases hr.2 with ⟨rfl, h0⟩ | ⟨g, cap, cur, rfl, hbg, hg, hnc, hcm, hcs, ht⟩
  · exact ⟨none, 0, by rw [h0], fun h => by omega⟩
  · refine ⟨_, _, rfl, fun _ => ⟨g, 0, rfl, (Array.getElem?_eq_some_iff.1 hg).1, fun j hj => ?_⟩⟩
    obtain ⟨A1, c1, h0, h1, h2, r1⟩ := hc j hj
    refine ⟨A1, c1, ?_, ?_, ?_, r1.step hb⟩
    · rw [Nat.zero_add, hl.cellAt (j * 3) (by omega), h0]
    · rw [Nat.zero_add, hl.cellAt (j * 3 + 1) (by omega), h1]
    · rw [Nat.zero_add, hl.cellAt (j * 3 + 2) (by omega), h2]
theorem info63 : (Try.prog.info? 63).map (fun i => (i.zero, i.size, i.bytes)) = some (some (.agg #[.int .i64 0, .int .i64 0, .slice none 0 0]), 3, 40) := by kernel_rfl

/-- the matrix stands while a row of another kind grows -/
theorem Mat.kind {W W' : World} {base P n : Nat} {f : Nat → List Int} (h : Mat W base P n f) {b e s k : Nat} {v : Value} {cs : List Value} (hv : W.ownsRow b e s v k cs) (h1 : e ≠ 28) (h2 : e ≠ 3) (hg : W.grownBy W' v.ownBlock) : Mat W' base P n f := by
  obtain ⟨u, r1, r2, r3, r4⟩ := h
  have hP : some P ≠ v.ownBlock := fun e' => by
    obtain ⟨cur, hc⟩ := own_cell hv e'.symm
    obtain ⟨cur', hc', _⟩ := r1
    rw [hc] at hc'
    exact h1 (Obj.cells.inj (Option.some.inj hc')).2.1
  exact ⟨u, r1.of_block (hg.block P r1.lt hP), r2, fun t ht => (r3 t ht).kept hg (own_kinds (r3 t ht) hv (fun e' => h2 e'.symm)), r4⟩
/-- .. and while a cell of another kind is written -/
theorem Mat.other {W : World} {base P n : Nat} {f : Nat → List Int} (h : Mat W base P n f) {q : Addr} {cur : Array Value} {e : TypeId} {fz : Nat × Nat} (hq : W.heap[q.block]? = some (.cells cur e fz)) (h1 : e ≠ 28) (h2 : e ≠ 3) (x : Value) : Mat (W.setCell q x) base P n f := by
  obtain ⟨u, r1, r2, r3, r4⟩ := h
  have hP : P ≠ q.block := fun e' => by
    obtain ⟨cur', hc', _⟩ := r1
    rw [e', hq] at hc'
    exact h1 (Obj.cells.inj (Option.some.inj hc')).2.1
  refine ⟨u, r1.of_block (Below.heap_setCell W q x P hP), r2, fun t ht => ?_, r4⟩
  refine ⟨(r3 t ht).1, ?_⟩
  rcases (r3 t ht).2 with hn | ⟨g, cap, cur', hv, hbg, hg, rest⟩
  · exact .inl hn
  · refine .inr ⟨g, cap, cur', hv, hbg, (Below.heap_setCell W q x g ?_).trans hg, rest⟩
    intro e'
    rw [e', hq] at hg
    exact h2 (Obj.cells.inj (Option.some.inj hg)).2.1
theorem own_setCell {W : World} {base : Nat} {e : TypeId} {size n : Nat} {v : Value} {xs : List Value} (h : W.ownsRow base e size v n xs) {q : Addr} {cur : Array Value} {e' : TypeId} {fz : Nat × Nat} (hq : W.heap[q.block]? = some (.cells cur e' fz)) (hne : e' ≠ e) (x : Value) : (W.setCell q x).ownsRow base e size v n xs := by
  refine ⟨h.1, ?_⟩
  rcases h.2 with hn | ⟨g, cap, cur', hv, hbg, hg, rest⟩
  · exact .inl hn
  · refine .inr ⟨g, cap, cur', hv, hbg, (Below.heap_setCell W q x g ?_).trans hg, rest⟩
    intro e2
    rw [e2, hq] at hg
    exact hne (Obj.cells.inj (Option.some.inj hg)).2.1
theorem own_ne_cells {W : World} {base : Nat} {e : TypeId} {size n : Nat} {v : Value} {xs : List Value} (h : W.ownsRow base e size v n xs) {b : Nat} {cur : Array Value} {e' : TypeId} {fz : Nat × Nat} (hb : W.heap[b]? = some (.cells cur e' fz)) (hne : e' ≠ e) : some b ≠ v.ownBlock := fun he => by
  obtain ⟨c, hc⟩ := own_cell h he.symm
  rw [hc] at hb
  exact hne (Obj.cells.inj (Option.some.inj hb)).2.1.symm
/-- an append whose run is known, as one step of a region that draws -/
theorem step_append_eq' {P : Program} {ops : Array Oper} {o : Oper} {a : Act} {w w' : World} {K : Act → World → Prop} {Q : Exit → Act → World → Prop} {E : Prop}
    (hg : o.guard = none) (s x : Operand) (t ty : TypeId) (hop : o.op = Op.call { callee := Callee.builtin Builtin.append, args := #[s, x], argTypes := #[t, t] }) (hty : o.type = ty) (v u v' : Value) (hs : a.eval s = v) (hx : a.eval x = u)
    (hrun : (Builtin.append_ #[t, t] ty #[v, u]).run P w = .ok v' w') (hK : K (a.put o.dst v') w') :
    if Region.wanted o (yielded ops a.tmps) = true then Oper.wp P o a w K Q else E :=
  step_append_eq hg s x t ty hop hty v u v' hs hx hrun hK
theorem cell_three_new (w : World) (x y z : Value) (t : TypeId) : ∀ j v, [x, y, z][j]? = some v → (w.alloc (.cells #[x, y, z] t)).cell? ((⟨w.heap.size, 0, none⟩ : Addr).add j) = some v := by
  intro j v hj
  match j, hj with
  | 0, hj => simp at hj; subst hj; simp [Addr.add]
  | 1, hj => simp at hj; subst hj; simp [Addr.add]
  | 2, hj => simp at hj; subst hj; simp [Addr.add]

set_option maxRecDepth 100000 in
set_option maxHeartbeats 8000000 in
theorem graph29 (A : Option Addr) (xss : List (List Int)) (c : Nat) (w : World) (h : RV w A xss) (hl : xss.length ≤ 1048576) (hz : ∀ j, j < xss.length → (nthR xss j).length ≤ 1048576) (hm : (edgK (bsOf xss xss.length) xss.length).length ≤ 1099511627776) :
    Calls Try.prog 29 #[.slice A xss.length c] w fun e w' => (∃ B c' P, e = .returned (.agg #[.slice B xss.length c', .slice (some P) xss.length xss.length]) ∧ BV w' B (bsOf xss xss.length) ∧ RV w' (some P) (prevL (bsOf xss xss.length))) ∧ Below w.heap.size w w' := by
  have HS := Lib.hid h
  have HZ := Lib.hid hz
  have HM := Lib.hid hm
  clear h hz hm
  obtain ⟨i0, hi, hz0, hz1, hz2⟩ := info_parts info28
  obtain ⟨i1, hj', hy0, hy1, hy2⟩ := info_parts info3r
  obtain ⟨i6, hi6, hx0, hx1, hx2⟩ := info_parts info63
  go_enter Try.func29, Try.ntmps29
  go_wp2_with (first
    | (at_make; refine wpList_make_row _ rfl _ _ 23 rfl 28 i0 (.slice none 0 0) Try.underlying23 hi hz0 hz1 rfl .i64 .i64 xss.length rfl rfl (by rw [hz2]; omega) (by omega) ?_))
  obtain ⟨W0, hW0⟩ : ∃ W0, (((w.alloc (.cells #[.slice none 0 0, .slice none 0 0] 25)).alloc (.cells (madeCells #[.slice none 0 0] xss.length) 28)).alloc (.cells #[.slice none 0 0, .slice (some ⟨w.heap.size + 1, 0, none⟩) xss.length xss.length] 25)) = W0 := ⟨_, rfl⟩
  have hs0 : W0.heap.size = w.heap.size + 3 := by rw [← hW0]; simp
  have hG0 : W0.heap[w.heap.size + 2]? = some (.cells #[.slice none 0 0, .slice (some ⟨w.heap.size + 1, 0, none⟩) xss.length xss.length] 25 (0, 0)) := by
    rw [← hW0]
    have : ((w.alloc (.cells #[.slice none 0 0, .slice none 0 0] 25)).alloc (.cells (madeCells #[.slice none 0 0] xss.length) 28)).heap.size = w.heap.size + 2 := by simp
    show (Array.push _ _)[w.heap.size + 2]? = _
    rw [← this]; exact Array.getElem?_push_size
  have hM0 : Mat W0 (w.heap.size + 1) (w.heap.size + 1) xss.length (fun _ => []) := by
    rw [← hW0]
    have := madeCells_nil xss.length (w.alloc (.cells #[.slice none 0 0, .slice none 0 0] 25)) (w.heap.size + 1) (by simp)
    rw [World.size_alloc] at this
    exact this.alloc _
  have hR0 : W0.heap[w.heap.size]? = some (.cells #[.slice none 0 0, .slice none 0 0] 25 (0, 0)) := by
    rw [← hW0]
    refine (Below.heap_alloc _ _ _ (by simp; omega)).trans ((Below.heap_alloc _ _ _ (by simp)).trans ?_)
    show (w.heap.push _)[w.heap.size]? = _
    simp
  have hB0 : Below w.heap.size w W0 := by rw [← hW0]; exact below_new (below_new (below_new (Below.refl _ _) _) _) _
  rw [show (((w.alloc (.cells #[.slice none 0 0, .slice none 0 0] 25)).alloc (.cells (madeCells #[.slice none 0 0] xss.length) 28)).alloc (.cells #[.slice none 0 0, .slice (some ⟨w.heap.size + 1, 0, none⟩) xss.length xss.length] 25)) = W0 from hW0]
  have HG0 := Lib.hid hG0
  have HM0 := Lib.hid hM0
  have HR0 := Lib.hid hR0
  have HB0 := Lib.hid hB0
  clear hW0 hG0 hM0 hR0 hB0
  go_loopw [4] (fun i wr => ∃ (k : Nat) (bv : Value), k ≤ xss.length ∧ i = .int .i64 k ∧ wr.heap[w.heap.size + 2]? = some (.cells #[bv, .slice (some ⟨w.heap.size + 1, 0, none⟩) xss.length xss.length] 25 (0, 0)) ∧ BO w wr (w.heap.size + 1) bv (bsOf xss k) ∧ Mat wr (w.heap.size + 1) (w.heap.size + 1) xss.length (fun t => pvOf (edgK (bsOf xss xss.length) k) t) ∧ Below (w.heap.size + 1) W0 wr) (fun i _ => xss.length - (intOf i).toNat)
  case atStart => exact ⟨0, _, by omega, rfl, HG0.out, BO.nil _ _ _, HM0.out, Below.refl _ _⟩
  case round =>
    obtain ⟨k, bv, hk, rfl, hG, hO, hM, hB⟩ := hrel
    have HG := Lib.hid hG
    have HO := Lib.hid hO
    have HMk := Lib.hid hM
    have HB := Lib.hid hB
    have HBw := Lib.hid (HB0.out.trans (hB.mono (by omega)))
    have hszr := hB.size
    have cG0 : wr.cell? ⟨w.heap.size + 2, 0, none⟩ = some bv := by simp [World.cell?, hG]
    have cG1 : wr.cell? ⟨w.heap.size + 2, 1, none⟩ = some (.slice (some ⟨w.heap.size + 1, 0, none⟩) xss.length xss.length) := by simp [World.cell?, hG]
    clear hO hM hB hG
    by_cases hlt : k < xss.length
    · obtain ⟨rb, ro, rfl, hrb, hrc⟩ := HS.out (by omega)
      obtain ⟨A1, k1, r0, hA1⟩ := hrc k hlt
      have R0 := r0
      replace r0 := (HBw.out.cell (p := ⟨rb, ro + k, none⟩) hrb).trans r0
      have hz1 := HZ.out k hlt
      have hmm := Nat.le_trans (edgK_mono (bsOf xss xss.length) (show k + 1 ≤ xss.length by omega)) HM.out
      have hedg : edgK (bsOf xss xss.length) (k + 1) = edgK (bsOf xss xss.length) k ++ (nthR xss k).map fun t => ((k : Int), t) := by rw [edgK, bsOf_at xss hlt]
      have hbs := bsOf_succ xss k
      have hbl := bsOf_length xss k
      obtain ⟨nx, hnx⟩ : ∃ nx, nthR xss k = nx := ⟨_, rfl⟩
      rw [hnx] at r0 R0 hA1 hz1 hedg hbs
      rw [hedg, List.length_append, List.length_map] at hmm
      have HR1 := Lib.hid R0
      clear R0
      have HA1 := Lib.hid hA1
      have HEDG := Lib.hid hedg
      have HBS := Lib.hid hbs
      obtain ⟨cs, hrow, hcs⟩ := HO.out
      rw [hbl] at hrow
      have hrow0 : wr.drew.ownsRow (w.heap.size + 1) 63 3 bv k cs := hrow
      obtain ⟨v', w7, hrun, hown', hgrow, hnil', hloc⟩ := run_append_own_at (P := Try.prog) (wr.drew.alloc (.cells #[.int .i64 (k : Int), .int .i64 ((k : Int) + 1), .slice A1 nx.length k1] 63)) (w.heap.size + 1) 22 22 63 i6 (.agg #[.int .i64 0, .int .i64 0, .slice none 0 0]) 3 40 Try.underlying22 hi6 hx0 hx1 hx2 rfl (by decide) _ _ _ (hrow0.alloc _) ⟨wr.heap.size, 0, none⟩ 1 1 [.int .i64 (k : Int), .int .i64 ((k : Int) + 1), .slice A1 nx.length k1] rfl (cell_three_new _ _ _ _ _) (by simp [Value.oneCell']) (by unfold maxLen; omega) (by omega) (by simp; omega)
      obtain ⟨g', cap', rfl⟩ := own_succ hown'
      have hgb : w.heap.size + 2 < wr.heap.size := (Array.getElem?_eq_some_iff.1 HG.out).1
      have hG7 : w7.heap[w.heap.size + 2]? = some (.cells #[bv, .slice (some ⟨w.heap.size + 1, 0, none⟩) xss.length xss.length] 25 (0, 0)) := (hgrow.block (w.heap.size + 2) (by simp; omega) (own_ne_cells hrow0 HG.out (by decide))).trans ((Below.heap_alloc _ _ _ (by simpa using hgb)).trans HG.out)
      have z0 : w7.cell? ⟨w.heap.size + 2, 0, none⟩ = some bv := by simp [World.cell?, hG7]
      have f0 : w7.frozen? ⟨w.heap.size + 2, 0, none⟩ = false := by simp [World.frozen?, hG7]
      have hG8 : (w7.setCell ⟨w.heap.size + 2, 0, none⟩ (.slice (some ⟨g', 0, none⟩) (k + 1) cap')).heap[w.heap.size + 2]? = some (.cells #[.slice (some ⟨g', 0, none⟩) (k + 1) cap', .slice (some ⟨w.heap.size + 1, 0, none⟩) xss.length xss.length] 25 (0, 0)) := by
        rw [heap_setCell_same w7 (w.heap.size + 2) 0 _ 25 _ hG7]; rfl
      have hO8 : BO w (w7.setCell ⟨w.heap.size + 2, 0, none⟩ (.slice (some ⟨g', 0, none⟩) (k + 1) cap')) (w.heap.size + 1) (.slice (some ⟨g', 0, none⟩) (k + 1) cap') (bsOf xss (k + 1)) := by
        rw [HBS.out]
        refine BO.snoc (W := wr) cs (by rw [hbl]; exact hrow) hcs ⟨(k : Int), (k : Int) + 1, nx⟩ A1 k1 ?_ HA1.out
        rw [hbl]
        exact own_setCell hown' hG7 (by decide) _
      have hM8 : Mat (w7.setCell ⟨w.heap.size + 2, 0, none⟩ (.slice (some ⟨g', 0, none⟩) (k + 1) cap')) (w.heap.size + 1) (w.heap.size + 1) xss.length (fun t => pvOf (edgJ (bsOf xss xss.length) nx k 0) t) := by
        have h0 : Mat wr.drew (w.heap.size + 1) (w.heap.size + 1) xss.length (fun t => pvOf (edgJ (bsOf xss xss.length) nx k 0) t) := by simp only [edgJ_zero]; exact HMk.out
        exact ((h0.alloc _).kind (hrow0.alloc _) (by decide) (by decide) hgrow).other hG7 (by decide) (by decide) _
      have hB8 : Below (w.heap.size + 1) W0 (w7.setCell ⟨w.heap.size + 2, 0, none⟩ (.slice (some ⟨g', 0, none⟩) (k + 1) cap')) := by
        have h1 : Below (w.heap.size + 1) W0 wr.drew := ⟨HB.out.os, HB.out.tape, HB.out.output, HB.out.size, HB.out.block⟩
        have h2 := h1.alloc (by show w.heap.size + 1 ≤ wr.heap.size; omega) (.cells #[.int .i64 (k : Int), .int .i64 ((k : Int) + 1), .slice A1 nx.length k1] 63)
        exact (h2.grown hgrow (by rw [World.size_alloc]; show w.heap.size + 1 ≤ wr.heap.size + 1; omega) (fun q e => (hrow0.lt q e).1)).setCell (p := ⟨w.heap.size + 2, 0, none⟩) (by simp) _
      have HRUN := Lib.hid (show (Builtin.append_ #[22, 22] 22 #[bv, .slice (some ⟨wr.heap.size, 0, none⟩) 1 1]).run Try.prog (wr.alloc (.cells #[.int .i64 (k : Int), .int .i64 ((k : Int) + 1), .slice A1 nx.length k1] 63)).drew = .ok _ w7 from hrun)
      obtain ⟨w8, hw8⟩ : ∃ w8, w7.setCell ⟨w.heap.size + 2, 0, none⟩ (.slice (some ⟨g', 0, none⟩) (k + 1) cap') = w8 := ⟨_, rfl⟩
      rw [hw8] at hG8 hO8 hM8 hB8
      have HW8 := Lib.hid hw8
      have HG8 := Lib.hid hG8
      have HO8 := Lib.hid hO8
      have HM8 := Lib.hid hM8
      have HB8 := Lib.hid hB8
      have tl : (k : Int) < (xss.length : Int) := by omega
      have hwrap : IntKind.i64.wrap ((k : Int) + 1) = (k : Int) + 1 := Go.IntWalk.i64_in _ (by omega)
      clear hrc hA1 hedg hbs hnx hrow hcs hrow0 hown' hgrow hnil' hloc hrun hG7 hG8 hO8 hM8 hB8 hbl hw8
      go_wp2_with fail
      go_region_law (refine step_append_eq rfl (.tmp 18) (.tmp 27) 22 22 rfl rfl bv (.slice (some ⟨wr.heap.size, 0, none⟩) 1 1) _ (by simp [Act.eval, Act.put]) (by simp [Act.eval, Act.put]) HRUN.out ?_)
      all_goals
        rw [show w7.setCell ⟨w.heap.size + 1 + 1, 0, none⟩ (.slice (some ⟨g', 0, none⟩) (k + 1) cap') = w8 from HW8.out]
        go_wp2_with fail
        go_loopw [5] (fun i wr2 => ∃ j : Nat, j ≤ nx.length ∧ i = .int .i64 j ∧ wr2.heap[w.heap.size + 2]? = some (.cells #[.slice (some ⟨g', 0, none⟩) (k + 1) cap', .slice (some ⟨w.heap.size + 1, 0, none⟩) xss.length xss.length] 25 (0, 0)) ∧ BO w wr2 (w.heap.size + 1) (.slice (some ⟨g', 0, none⟩) (k + 1) cap') (bsOf xss (k + 1)) ∧ Mat wr2 (w.heap.size + 1) (w.heap.size + 1) xss.length (fun t => pvOf (edgJ (bsOf xss xss.length) nx k j) t) ∧ Below (w.heap.size + 1) W0 wr2) (fun i _ => nx.length - (intOf i).toNat)
        case atStart => exact ⟨0, by omega, rfl, HG8.out, HO8.out, HM8.out, HB8.out⟩
        case round =>
          obtain ⟨j, hj, rfl, hG, hO, hM, hB⟩ := hrel
          have HGj := Lib.hid hG
          have HOj := Lib.hid hO
          have HMj := Lib.hid hM
          have HBj := Lib.hid hB
          have HBw2 := Lib.hid (HB0.out.trans (hB.mono (by omega)))
          have hsz2 := hB.size
          have d0 : wr.cell? ⟨w.heap.size + 2, 0, none⟩ = some (.slice (some ⟨g', 0, none⟩) (k + 1) cap') := by simp [World.cell?, hG]
          have d1 : wr.cell? ⟨w.heap.size + 2, 1, none⟩ = some (.slice (some ⟨w.heap.size + 1, 0, none⟩) xss.length xss.length) := by simp [World.cell?, hG]
          have r1 := (HBw2.out.cell (p := ⟨rb, ro + k, none⟩) hrb).trans HR1.out
          clear hG hO hM hB
          by_cases hjt : j < nx.length
          · obtain ⟨b1, off1, hAq, hbl1, hc⟩ := HA1.out (by omega)
            cases hAq
            have gx := (HBw2.out.cell (p := ⟨b1, off1 + j, none⟩) hbl1).trans (hc j hjt)
            have hsu := edgJ_succ (bs := bsOf xss xss.length) (k := k) hjt
            obtain ⟨x, hx⟩ : ∃ x, nx.getD j 0 = x := ⟨_, rfl⟩
            rw [hx] at gx hsu
            have HSU := Lib.hid hsu
            clear hc hx hsu
            by_cases e1 : x < 0
            · have p1 : decide (0 ≤ x) = false := decide_eq_false (by omega)
              go_wp2_with fail
              go_roundw
              case rel => exact ⟨j + 1, by omega, by go_num, HGj.out, HOj.out, HMj.out.congr (fun t ht => by rw [HSU.out, pvOf_snoc, if_neg (by omega)]), HBj.out⟩
              case measure => simp [intOf]; omega
            by_cases e2 : (xss.length : Int) ≤ x
            · have p1 : decide (0 ≤ x) = true := decide_eq_true (by omega)
              have p2 : decide (x < (xss.length : Int)) = false := decide_eq_false (by omega)
              go_wp2_with fail
              go_roundw
              case rel => exact ⟨j + 1, by omega, by go_num, HGj.out, HOj.out, HMj.out.congr (fun t ht => by rw [HSU.out, pvOf_snoc, if_neg (by omega)]), HBj.out⟩
              case measure => simp [intOf]; omega
            obtain ⟨t, rfl⟩ : ∃ t : Nat, x = (t : Int) := ⟨x.toNat, by omega⟩
            have ht : t < xss.length := by omega
            have p1 : decide (0 ≤ (t : Int)) = true := decide_eq_true (by omega)
            have p2 : decide ((t : Int) < (xss.length : Int)) = true := decide_eq_true (by omega)
            have tlt : (t : Int) < (xss.length : Int) := by omega
            have hlen := Nat.le_trans (pvOf_length (edgJ (bsOf xss xss.length) nx k j) t) (Nat.le_of_eq (edgJ_length (bs := bsOf xss xss.length) (k := k) hj))
            have hMd : Mat wr.drew (w.heap.size + 1) (w.heap.size + 1) xss.length (fun t => pvOf (edgJ (bsOf xss xss.length) nx k j) t) := HMj.out
            obtain ⟨v, h1, h2, h3, h4⟩ := hMd
            have hown : wr.drew.ownsRow (w.heap.size + 1) 3 1 (v t) (pvOf (edgJ (bsOf xss xss.length) nx k j) t).length (icells (pvOf (edgJ (bsOf xss xss.length) nx k j) t)) := h3 t ht
            have cu : wr.cell? ⟨w.heap.size + 1, t, none⟩ = some (v t) := h1.cell ht
            obtain ⟨v9, w9, hrun, hown', hgrow, hnil', hloc⟩ := run_append_own_at (P := Try.prog) (wr.drew.alloc (.cells #[.int .i64 (k : Int)] 3)) (w.heap.size + 1) 28 28 3 i1 (.int .i64 0) 1 8 Try.underlying28 hj' hy0 hy1 hy2 rfl (by decide) _ _ _ (hown.alloc _) ⟨wr.heap.size, 0, none⟩ 1 1 [.int .i64 (k : Int)] rfl (cell_one_new _ _ _) (by simp [Value.oneCell']) (by unfold maxLen; omega) (by omega) (by rw [World.size_alloc]; show w.heap.size + 1 ≤ wr.heap.size + 1; omega)
            obtain ⟨g9, cap9, rfl⟩ := own_succ hown'
            have hput := Mat.put h1 h2 h3 h4 ht (below_new (Below.refl _ _) (.cells #[.int .i64 (k : Int)] 3)) hgrow (v' := _) (xs := pvOf (edgJ (bsOf xss xss.length) nx k j) t ++ [(k : Int)]) (by rw [icells_snoc, List.length_append]; exact hown') hloc
            have c9 := hput.1.cell ht
            have f9 := hput.1.frozen t
            have hgb2 : w.heap.size + 2 < wr.heap.size := (Array.getElem?_eq_some_iff.1 HGj.out).1
            have hgp2 : w.heap.size + 1 < wr.heap.size := by omega
            have hG9 : w9.heap[w.heap.size + 2]? = some (.cells #[.slice (some ⟨g', 0, none⟩) (k + 1) cap', .slice (some ⟨w.heap.size + 1, 0, none⟩) xss.length xss.length] 25 (0, 0)) := (hgrow.block (w.heap.size + 2) (by rw [World.size_alloc]; show w.heap.size + 2 < wr.heap.size + 1; omega) (own_ne_cells hown HGj.out (by decide))).trans ((Below.heap_alloc _ _ _ hgb2).trans HGj.out)
            have y1 : w9.cell? ⟨w.heap.size + 2, 1, none⟩ = some (.slice (some ⟨w.heap.size + 1, 0, none⟩) xss.length xss.length) := by simp [World.cell?, hG9]
            obtain ⟨cs9, hrow9, hcs9⟩ := HOj.out
            have hrow9' : w9.ownsRow (w.heap.size + 1) 63 3 (.slice (some ⟨g', 0, none⟩) (k + 1) cap') (bsOf xss (k + 1)).length cs9 := by
              have q0 : wr.drew.ownsRow (w.heap.size + 1) 63 3 (.slice (some ⟨g', 0, none⟩) (k + 1) cap') (bsOf xss (k + 1)).length cs9 := hrow9
              exact (q0.alloc _).kept hgrow (own_kinds q0 hown (by decide))
            obtain ⟨w10, hw10⟩ : ∃ w10, w9.setCell ⟨w.heap.size + 1, t, none⟩ (.slice (some ⟨g9, 0, none⟩) ((pvOf (edgJ (bsOf xss xss.length) nx k j) t).length + 1) cap9) = w10 := ⟨_, rfl⟩
            have hP9 : ∃ cur, w9.heap[w.heap.size + 1]? = some (.cells cur 28 (0, 0)) := by obtain ⟨cur, hc, _⟩ := hput.1; exact ⟨cur, hc⟩
            obtain ⟨cur9, hP9⟩ := hP9
            have HG10 := Lib.hid (show w10.heap[w.heap.size + 2]? = some (.cells #[.slice (some ⟨g', 0, none⟩) (k + 1) cap', .slice (some ⟨w.heap.size + 1, 0, none⟩) xss.length xss.length] 25 (0, 0)) by rw [← hw10]; exact (Below.heap_setCell w9 ⟨w.heap.size + 1, t, none⟩ _ (w.heap.size + 2) (by simp)).trans hG9)
            have HO10 := Lib.hid (show BO w w10 (w.heap.size + 1) (.slice (some ⟨g', 0, none⟩) (k + 1) cap') (bsOf xss (k + 1)) from ⟨cs9, by rw [← hw10]; exact own_setCell hrow9' (q := ⟨w.heap.size + 1, t, none⟩) hP9 (by decide) _, hcs9⟩)
            have HM10 := Lib.hid (show Mat w10 (w.heap.size + 1) (w.heap.size + 1) xss.length (fun s => if s = t then pvOf (edgJ (bsOf xss xss.length) nx k j) t ++ [(k : Int)] else pvOf (edgJ (bsOf xss xss.length) nx k j) s) by rw [← hw10]; exact hput.2)
            have HB10 := Lib.hid (show Below (w.heap.size + 1) W0 w10 by
              have q1 : Below (w.heap.size + 1) W0 wr.drew := ⟨HBj.out.os, HBj.out.tape, HBj.out.output, HBj.out.size, HBj.out.block⟩
              have q2 := q1.alloc (by show w.heap.size + 1 ≤ wr.heap.size; omega) (.cells #[.int .i64 (k : Int)] 3)
              rw [← hw10]
              exact (q2.grown hgrow (by rw [World.size_alloc]; show w.heap.size + 1 ≤ wr.heap.size + 1; omega) (fun q e => (hown.lt q e).1)).setCell (p := ⟨w.heap.size + 1, t, none⟩) (Nat.le_refl _) _)
            obtain ⟨u, hu⟩ : ∃ u, v t = u := ⟨_, rfl⟩
            obtain ⟨ps, hps⟩ : ∃ ps, pvOf (edgJ (bsOf xss xss.length) nx k j) t = ps := ⟨_, rfl⟩
            rw [hu] at cu hrun c9
            rw [hps] at hrun hw10 HM10
            have HRUN9 := Lib.hid (show (Builtin.append_ #[28, 28] 28 #[u, .slice (some ⟨wr.heap.size, 0, none⟩) 1 1]).run Try.prog (wr.alloc (.cells #[.int .i64 (k : Int)] 3)).drew = .ok _ w9 from hrun)
            have HW10 := Lib.hid hw10
            have HPS := Lib.hid hps
            clear h1 h3 h4 hown hrun hown' hgrow hnil' hloc hput hG9 hrow9 hcs9 hrow9' hw10 hP9 hu hps
            go_wp2_with fail
            go_region_law (refine step_append_eq rfl (.tmp 61) (.tmp 63) 28 28 rfl rfl u (.slice (some ⟨wr.heap.size, 0, none⟩) 1 1) _ (by simp [Act.eval, Act.put]) (by simp [Act.eval, Act.put]) HRUN9.out ?_)
            all_goals
              rw [HW10.out]
              go_wp2_with fail
              go_roundw
              case rel =>
                refine ⟨j + 1, by omega, by go_num, HG10.out, HO10.out, HM10.out.congr (fun s hs => ?_), HB10.out⟩
                show (if s = t then ps ++ [(k : Int)] else pvOf (edgJ (bsOf xss xss.length) nx k j) s) = pvOf (edgJ (bsOf xss xss.length) nx k (j + 1)) s
                rw [HSU.out, pvOf_snoc]
                by_cases e : s = t
                · subst e; rw [if_pos rfl, if_pos rfl, HPS.out]
                · rw [if_neg e, if_neg (by omega)]
              case measure => simp [intOf]; omega
          · obtain rfl : j = nx.length := by omega
            go_wp2_with fail
            go_roundw
            case rel => exact ⟨k + 1, _, by omega, by go_num, HGj.out, HOj.out, by rw [HEDG.out]; have := HMj.out; simp only [edgJ_all] at this; exact this, HBj.out⟩
            case measure => simp [intOf]; omega
    · obtain rfl : k = xss.length := by omega
      have hbl := bsOf_length xss xss.length
      obtain ⟨Bv, cv, hbv, hBV⟩ := HO.out.bv HBw.out
      rw [hbl] at hbv
      subst hbv
      have hR := (HB.out.block w.heap.size (by omega)).trans HR0.out
      have x0 : wr.cell? ⟨w.heap.size, 0, none⟩ = some (.slice none 0 0) := by simp [World.cell?, hR]
      have x1 : wr.cell? ⟨w.heap.size, 1, none⟩ = some (.slice none 0 0) := by simp [World.cell?, hR]
      have y0 : wr.frozen? ⟨w.heap.size, 0, none⟩ = false := by simp [World.frozen?, hR]
      have y1 : wr.frozen? ⟨w.heap.size, 1, none⟩ = false := by simp [World.frozen?, hR]
      have HR := Lib.hid hR
      clear hBV hR hbl
      go_wp2_with fail
      have hw1 : ((wr.setCell ⟨w.heap.size, 0, none⟩ (.slice Bv xss.length cv)).setCell ⟨w.heap.size, 1, none⟩ (.slice (some ⟨w.heap.size + 1, 0, none⟩) xss.length xss.length)).heap[w.heap.size]? = some (.cells #[.slice Bv xss.length cv, .slice (some ⟨w.heap.size + 1, 0, none⟩) xss.length xss.length] 25 (0, 0)) := by
        have e1 := heap_setCell_same wr w.heap.size 0 _ 25 (.slice Bv xss.length cv) HR.out
        have e2 := heap_setCell_same (wr.setCell ⟨w.heap.size, 0, none⟩ (.slice Bv xss.length cv)) w.heap.size 1 _ 25 (.slice (some ⟨w.heap.size + 1, 0, none⟩) xss.length xss.length) e1
        rw [e2]; rfl
      have e1 := heap_setCell_same wr w.heap.size 0 _ 25 (.slice Bv xss.length cv) HR.out
      refine bodyPost_ret (results_cell_row rfl _ _ w.heap.size 25 _ (0, 0) _ rfl hw1 Try.underlying25 rfl (by kernel_rfl)) rfl ?_
      have hBf : Below w.heap.size w ((wr.setCell ⟨w.heap.size, 0, none⟩ (.slice Bv xss.length cv)).setCell ⟨w.heap.size, 1, none⟩ (.slice (some ⟨w.heap.size + 1, 0, none⟩) xss.length xss.length)) :=
        (HBw.out.setCell (p := ⟨w.heap.size, 0, none⟩) (Nat.le_refl _) _).setCell (p := ⟨w.heap.size, 1, none⟩) (Nat.le_refl _) _
      have hbl := bsOf_length xss xss.length
      have hOf : BO w ((wr.setCell ⟨w.heap.size, 0, none⟩ (.slice Bv xss.length cv)).setCell ⟨w.heap.size, 1, none⟩ (.slice (some ⟨w.heap.size + 1, 0, none⟩) xss.length xss.length)) (w.heap.size + 1) (.slice Bv xss.length cv) (bsOf xss xss.length) := by
        obtain ⟨cs, hr, hc⟩ := HO.out
        exact ⟨cs, own_setCell (own_setCell hr (q := ⟨w.heap.size, 0, none⟩) HR.out (by decide) _) (q := ⟨w.heap.size, 1, none⟩) e1 (by decide) _, hc⟩
      obtain ⟨B', c', hbv', hBV'⟩ := hOf.bv hBf
      rw [hbl] at hbv'
      cases hbv'
      have hMf := ((HMk.out.other (q := ⟨w.heap.size, 0, none⟩) HR.out (by decide) (by decide) (.slice Bv xss.length cv)).other (q := ⟨w.heap.size, 1, none⟩) e1 (by decide) (by decide) (.slice (some ⟨w.heap.size + 1, 0, none⟩) xss.length xss.length)).rv
      refine ⟨⟨Bv, cv, ⟨w.heap.size + 1, 0, none⟩, rfl, hBV', ?_⟩, hBf⟩
      have hpl : prevL (bsOf xss xss.length) = (List.range xss.length).map fun t : Nat => pvOf (edgK (bsOf xss xss.length) xss.length) (t : Int) := by
        unfold prevL; rw [hbl]
      rw [hpl]
      exact hMf
end Go.Proofs.Ytcbofikjcgdjmaa
