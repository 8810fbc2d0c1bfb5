/- A map's entry struck out, its length; the list of successors with one edge more, in memory. -/
import Derived.Test.YtcbofikjcgdjmaaC1
import Derived.Test.YtcbofikjcgdjmaaG8
namespace Go.Proofs.Ytcbofikjcgdjmaa
set_option linter.unusedVariables false
set_option linter.unusedSimpArgs false
open Go.RowKit Go.Maps

/-- delete(m, k) -/
theorem HMap.del {W : World} {b n : Nat} {f : Int → Option Value} (h : HMap W b n f) {t e : TypeId} (ht : Try.prog.underlying t = some (.map 3 e)) {x : Int} (hx : wf x) (ty : TypeId) :
    ∃ W', (Builtin.delete_ #[t, 3] ty #[.map (some b), .int .i64 x]).run Try.prog W = .ok (.tuple #[]) W' ∧ HMap W' b n (fun y => if y = x then none else f y) ∧ W.grownBy W' (some b) := by
  obtain ⟨D, h1, hm, h2⟩ := h
  obtain ⟨W', hrun, h3, h4⟩ := h1.drop key3 ht (kl := .int .i64 x) (keyOf_int_mk Try.underlying3 hx) ty
  refine ⟨W', hrun, ⟨_, h3, hm.del _, fun y => ?_⟩, h4.grown⟩
  by_cases e : y = x
  · subst e
    dsimp only
    rw [if_pos rfl]
    exact ⟨fun zd => by rw [atKey_del_same]; rfl, by rw [has_del_same]; rfl⟩
  · dsimp only
    rw [if_neg e]
    have hne : Lit.int .i64 y ≠ Lit.int .i64 x := by simpa using e
    exact ⟨fun zd => by rw [atKey_del_other hne]; exact (h2 y).1 zd, by rw [has_del_other hne]; exact (h2 y).2⟩
/-- len(m) of a map without entries -/
theorem HMap.len0 {W : World} {b n : Nat} {f : Int → Option Value} (h : HMap W b n f) (h0 : ∀ x, f x = none) {t e : TypeId} (ht : Try.prog.underlying t = some (.map 3 e)) (ty : TypeId) :
    (Builtin.len_ #[t] ty #[.map (some b)]).run Try.prog W = .ok (.int .i64 0) W := by
  obtain ⟨D, h1, hi, h2⟩ := h
  have hp := perm_keys h1 (L := []) List.Pairwise.nil (fun x => by rw [(h2 x).2, h0 x]; simp)
  have := h1.len ht ty
  rw [← size_keys D hi, ← hp.length_eq] at this
  exact this
section
variable {P : Program} {H : Type}
/-- an append whose run is known, as one step of the walk -/
theorem wpList_append_eq {w w' : World} {ops : Array Oper} {rest : List Oper} {o : Oper} {a : Act} {Q : Exit → Act → World → Prop} (hgd : o.guard = none) (s x : Operand) (t ty : TypeId)
    (ho : o.op = .call { callee := .builtin .append, args := #[s, x], argTypes := #[t, t] }) (hty : o.type = ty) (v u v' : Value) (hs : a.eval s = v) (hx : a.eval x = u)
    (hrun : (Builtin.append_ #[t, t] ty #[v, u]).run P w = .ok v' w') (h : wpList P ops Q rest (a.put o.dst v') w') : wpList P ops Q (o :: rest) a w := by
  subst hty
  refine wpList_plain hgd fun K hK => ?_
  unfold Oper.wp
  simp [execOp, ho, resolve, invoke, builtin, hs, hx, hrun, Result.andThen]
  exact hK _ _ h
/-- delete, len: the same -/
theorem wpList_delete_eq {w w' : World} {ops : Array Oper} {rest : List Oper} {o : Oper} {a : Act} {Q : Exit → Act → World → Prop} (hgd : o.guard = none) (m x : Operand) (t k ty : TypeId)
    (ho : o.op = .call { callee := .builtin .delete, args := #[m, x], argTypes := #[t, k] }) (hty : o.type = ty) (v u v' : Value) (hs : a.eval m = v) (hx : a.eval x = u)
    (hrun : (Builtin.delete_ #[t, k] ty #[v, u]).run P w = .ok v' w') (h : wpList P ops Q rest (a.put o.dst v') w') : wpList P ops Q (o :: rest) a w := by
  subst hty
  refine wpList_plain hgd fun K hK => ?_
  unfold Oper.wp
  simp [execOp, ho, resolve, invoke, builtin, hs, hx, hrun, Result.andThen]
  exact hK _ _ h
theorem wpList_len_eq {w w' : World} {ops : Array Oper} {rest : List Oper} {o : Oper} {a : Act} {Q : Exit → Act → World → Prop} (hgd : o.guard = none) (m : Operand) (t ty : TypeId)
    (ho : o.op = .call { callee := .builtin .len, args := #[m], argTypes := #[t] }) (hty : o.type = ty) (v v' : Value) (hs : a.eval m = v)
    (hrun : (Builtin.len_ #[t] ty #[v]).run P w = .ok v' w') (h : wpList P ops Q rest (a.put o.dst v') w') : wpList P ops Q (o :: rest) a w := by
  subst hty
  refine wpList_plain hgd fun K hK => ?_
  unfold Oper.wp
  simp [execOp, ho, resolve, invoke, builtin, hs, hrun, Result.andThen]
  exact hK _ _ h
/-- append of nothing -/
theorem run_append_zero {w : World} (base : Nat) (t ty e : TypeId) (i : TypeInfo) (size : Nat) (ht : P.underlying t = some (.slice e)) (hi : P.info? e = some i)
    (v : Value) (n : Nat) (xs : List Value) (hown : w.ownsRow base e size v n xs) (A : Option Addr) (c : Nat) :
    (Builtin.append_ #[t, t] ty #[v, .slice A 0 c]).run P w = .ok v w := by
  rcases hown.2 with ⟨rfl, rfl⟩ | ⟨g, cap, cur, rfl, _, _, hnc, _⟩
  · cases A <;> simp [Builtin.append_, run_underlying ht, sizeOf, typeInfo, hi, Builtin.lenOf, Builtin.firstCells, loadCells, loadCellsFrom]
  · cases A <;> simp [Builtin.append_, run_underlying ht, sizeOf, typeInfo, hi, Builtin.lenOf, Builtin.firstCells, hnc, storeCells, loadCells, loadCellsFrom]
end
theorem add_plain' (b off n : Nat) : Addr.add ⟨b, off, none⟩ n = ⟨b, off + n, none⟩ := by
  unfold Addr.add; split
  · next h => subst h; rfl
  · rfl
/-- the cells of a row of slices -/
theorem RV.row {w : World} {b off : Nat} {xss : List (List Int)} (h : RV w (some ⟨b, off, none⟩) xss) (h0 : 0 < xss.length) :
    b < w.heap.size ∧ ∃ cs : List Value, cs.length = xss.length ∧ (∀ j u, cs[j]? = some u → w.cell? ((⟨b, off, none⟩ : Addr).add j) = some u) ∧ (∀ u ∈ cs, u.oneCell' = true) ∧ ∀ j, j < xss.length → ∃ A c, cs[j]? = some (.slice A (nthR xss j).length c) ∧ IV w A (nthR xss j) := by
  obtain ⟨b', off', he, hlt, hc⟩ := h h0
  cases he
  refine ⟨hlt, (List.range xss.length).map fun j => (w.cell? ⟨b, off + j, none⟩).getD undef, by simp, fun j u hu => ?_, fun u hu => ?_, fun j hj => ?_⟩
  · rw [List.getElem?_map] at hu
    obtain ⟨k, hk, rfl⟩ := Option.map_eq_some_iff.1 hu
    obtain ⟨hj, hk2⟩ := List.getElem?_eq_some_iff.1 hk
    simp at hj hk2
    subst hk2
    obtain ⟨A, c, h1, _⟩ := hc j hj
    rw [add_plain', h1]; rfl
  · rw [List.mem_map] at hu
    obtain ⟨j, hj, rfl⟩ := hu
    obtain ⟨A, c, h1, _⟩ := hc j (List.mem_range.1 hj)
    rw [h1]; rfl
  · obtain ⟨A, c, h1, h2⟩ := hc j hj
    refine ⟨A, c, ?_, h2⟩
    rw [List.getElem?_map, List.getElem?_range hj, Option.map_some, h1]; rfl
set_option maxRecDepth 100000 in
theorem more_made (W : World) (bs : List Bk) (a b n cap rb ro : Nat) (hn : bs.length = n) (h14 : n ≤ 14) (ha : a < n) (hR : RV W (some ⟨rb, ro, none⟩) (nxs bs n)) (hone : (nthB bs a).nx.length ≤ 1) :
    ∃ (g1 c1 : Nat) (X1 : World) (v2 : Value) (X3 : World) (g3 c3 : Nat) (X5 : World) (A1 : Option Addr) (k1 : Nat) (u : Value),
      (Builtin.append_ #[23, 23] 23 #[.slice (some ⟨W.heap.size, 0, none⟩) 0 0, .slice (some ⟨rb, ro, none⟩) n cap]).run Try.prog (W.alloc (.cells #[] 28)) = .ok (.slice (some ⟨g1, 0, none⟩) n c1) X1 ∧
      X1.cell? ⟨rb, ro + a, none⟩ = some (.slice A1 (nthB bs a).nx.length k1) ∧ rb < X1.heap.size ∧
      (Builtin.append_ #[28, 28] 28 #[.slice (some ⟨X1.heap.size, 0, none⟩) 0 0, .slice A1 (nthB bs a).nx.length k1]).run Try.prog (X1.alloc (.cells #[] 3)) = .ok v2 X3 ∧
      (Builtin.append_ #[28, 28] 28 #[v2, .slice (some ⟨X3.heap.size, 0, none⟩) 1 1]).run Try.prog (X3.alloc (.cells #[.int .i64 (b : Int)] 3)) = .ok (.slice (some ⟨g3, 0, none⟩) ((nthB bs a).nx.length + 1) c3) X5 ∧
      X5.cell? ⟨g1, a, none⟩ = some u ∧ X5.frozen? ⟨g1, a, none⟩ = false ∧
      RV (X5.setCell ⟨g1, a, none⟩ (.slice (some ⟨g3, 0, none⟩) ((nthB bs a).nx.length + 1) c3)) (some ⟨g1, 0, none⟩) (moreL bs a b) ∧ Below W.heap.size W (X5.setCell ⟨g1, a, none⟩ (.slice (some ⟨g3, 0, none⟩) ((nthB bs a).nx.length + 1) c3)) := by
  obtain ⟨i28, hi28, hz0, hz1, hz2⟩ := info_parts info28
  obtain ⟨i3, hi3, hy0, hy1, hy2⟩ := info_parts info3r
  obtain ⟨hrb, cs, hcl, hcc, hc1, hcs⟩ := hR.row (by rw [nxs_length]; omega)
  rw [nxs_length] at hcl hcs
  have hmx : maxLen = 9223372036854775807 := rfl
  -- the outer row
  have own0 : (W.alloc (.cells #[] 28)).ownsRow W.heap.size 28 1 (.slice (some ⟨W.heap.size, 0, none⟩) 0 0) 0 [] := World.ownsRow_lit W #[] 0 (Nat.le_refl _) (by unfold maxLen; omega) rfl
  obtain ⟨v1, X1, run1, own1, gr1, nil1⟩ := run_append_own (P := Try.prog) (W.alloc (.cells #[] 28)) W.heap.size 23 23 28 i28 (.slice none 0 0) 1 24 Try.underlying23 hi28 hz0 hz1 hz2 rfl (by decide) _ _ _ own0 ⟨rb, ro, none⟩ n cap cs (by omega) (fun j u hu => (World.cell?_of_block (Below.heap_alloc _ _ _ (by rw [add_plain']; exact hrb))).trans (hcc j u hu)) hc1 (by omega) (by omega) (by simp)
  rw [Nat.zero_add, List.nil_append] at own1
  obtain ⟨m, hm⟩ : ∃ m, n = m + 1 := ⟨n - 1, by omega⟩
  obtain ⟨g1, c1, rfl⟩ : ∃ g cap, v1 = .slice (some ⟨g, 0, none⟩) n cap := by
    have o := own1
    rw [hm] at o ⊢
    exact own_succ o
  have bel1 : Below W.heap.size W X1 := (below_new (Below.refl _ W) _).grown gr1 (by simp) (fun q e => by cases e; exact Nat.le_refl _)
  obtain ⟨A1, k1, ca, hI⟩ := hcs a ha
  rw [nxs_at bs ha] at ca hI
  have hcell : X1.cell? ⟨rb, ro + a, none⟩ = some (.slice A1 (nthB bs a).nx.length k1) := by
    have := hcc a _ ca
    rw [add_plain'] at this
    exact (bel1.cell (p := ⟨rb, ro + a, none⟩) hrb).trans this
  -- the inner row
  have own2 : (X1.alloc (.cells #[] 3)).ownsRow X1.heap.size 3 1 (.slice (some ⟨X1.heap.size, 0, none⟩) 0 0) 0 [] := World.ownsRow_lit X1 #[] 0 (Nat.le_refl _) (by unfold maxLen; omega) rfl
  obtain ⟨v2, X3, run2, own3, gr3⟩ : ∃ v2 X3, (Builtin.append_ #[28, 28] 28 #[.slice (some ⟨X1.heap.size, 0, none⟩) 0 0, .slice A1 (nthB bs a).nx.length k1]).run Try.prog (X1.alloc (.cells #[] 3)) = .ok v2 X3 ∧
      X3.ownsRow X1.heap.size 3 1 v2 (nthB bs a).nx.length (icells (nthB bs a).nx) ∧ (X1.alloc (.cells #[] 3)).grownBy X3 (some X1.heap.size) := by
    generalize (nthB bs a).nx = l at hI hone ⊢
    match l, hone with
    | [], _ => exact ⟨_, _, run_append_zero X1.heap.size 28 28 3 i3 1 Try.underlying28 hi3 _ _ _ own2 A1 k1, own2, World.grownBy.refl _ _⟩
    | [y], _ =>
      obtain ⟨b1, o1, rfl, hb1, hcy⟩ := hI (by simp)
      have hcy0 := hcy 0 (by simp)
      obtain ⟨v2, X3, r, o, g, _⟩ := run_append_own (P := Try.prog) (X1.alloc (.cells #[] 3)) X1.heap.size 28 28 3 i3 (.int .i64 0) 1 8 Try.underlying28 hi3 hy0 hy1 hy2 rfl (by decide) _ _ _ own2 ⟨b1, o1, none⟩ 1 k1 [.int .i64 y] rfl (fun j u hu => by
        match j, hu with
        | 0, hu =>
          simp at hu
          subst hu
          rw [add_plain']
          refine (World.cell?_of_block (Below.heap_alloc _ _ _ (Nat.lt_of_lt_of_le hb1 bel1.size))).trans ((bel1.cell (p := ⟨b1, o1 + 0, none⟩) hb1).trans ?_)
          simpa using hcy0) (by simp [Value.oneCell']) (by omega) (by omega) (by simp)
      exact ⟨v2, X3, r, by simpa [icells] using o, g⟩
  have bel2 : Below X1.heap.size X1 X3 := (below_new (Below.refl _ X1) _).grown gr3 (by simp) (fun q e => by cases e; exact Nat.le_refl _)
  obtain ⟨v3, X5, run3, own5, gr5, _⟩ := run_append_own (P := Try.prog) (X3.alloc (.cells #[.int .i64 (b : Int)] 3)) X1.heap.size 28 28 3 i3 (.int .i64 0) 1 8 Try.underlying28 hi3 hy0 hy1 hy2 rfl (by decide) _ _ _ (own3.alloc _) ⟨X3.heap.size, 0, none⟩ 1 1 [.int .i64 (b : Int)] rfl (cell_one_new _ _ _) (by simp [Value.oneCell']) (by omega) (by omega) (by have := bel2.size; simp; omega)
  rw [← icells_snoc] at own5
  obtain ⟨g3, c3, rfl⟩ := own_succ own5
  have bel3 : Below X1.heap.size X1 X5 := (bel2.alloc bel2.size _).grown gr5 (by have := bel2.size; simp; omega) (fun q e => (own3.lt q e).1)
  -- the outer row is still as it was
  have o1 : X5.ownsRow W.heap.size 28 1 (.slice (some ⟨g1, 0, none⟩) n c1) n cs := own_below own1 bel3
  have hg1 : g1 < X1.heap.size := (own1.lt g1 rfl).2
  have hsome : ∃ u, X5.cell? ⟨g1, a, none⟩ = some u := by
    have := o1.cellAt a (by omega)
    rw [ca] at this
    exact ⟨_, this⟩
  obtain ⟨u, hu⟩ := hsome
  have hfz : X5.frozen? ⟨g1, a, none⟩ = false := by
    have := o1.frozenAt a
    exact this
  have blk1 : ∃ cur, X5.heap[g1]? = some (.cells cur 28 (0, 0)) := own_cell o1 rfl
  obtain ⟨cur1, blk1⟩ := blk1
  refine ⟨g1, c1, X1, v2, X3, g3, c3, X5, A1, k1, u, run1, hcell, Nat.lt_of_lt_of_le hrb bel1.size, run2, run3, hu, hfz, ?_, ?_⟩
  · obtain ⟨st, gst⟩ := o1.stored a (.slice (some ⟨g3, 0, none⟩) ((nthB bs a).nx.length + 1) c3)
    have o5 := own_setCell own5 (q := ⟨g1, a, none⟩) blk1 (by decide) (.slice (some ⟨g3, 0, none⟩) ((nthB bs a).nx.length + 1) c3)
    have belF : Below W.heap.size W (X5.setCell ⟨g1, a, none⟩ (.slice (some ⟨g3, 0, none⟩) ((nthB bs a).nx.length + 1) c3)) := (bel1.trans (bel3.mono bel1.size)).setCell (p := ⟨g1, a, none⟩) ((own1.lt g1 rfl).1) _
    intro _
    refine ⟨g1, 0, rfl, by have := bel3.size; simp; omega, fun j hj => ?_⟩
    rw [moreL_length, hn] at hj
    have hat := st.cellAt j (by omega)
    rw [moreL_at (by omega) (by omega), Nat.zero_add, hat]
    by_cases e : j = a
    · subst e
      rw [if_pos rfl, List.getElem?_set_self (by omega)]
      have hl5 : ((nthB bs j).nx ++ [(b : Int)]).length = (nthB bs j).nx.length + 1 := by simp
      refine ⟨some ⟨g3, 0, none⟩, c3, by rw [hl5], ?_⟩
      rw [← hl5] at o5
      obtain ⟨A', c', e', hI'⟩ := IV.of_own o5
      rw [hl5] at e'
      cases e'
      rw [hl5] at hI'
      exact hI'
    · rw [if_neg e, List.getElem?_set_ne (fun h => e h.symm)]
      obtain ⟨A', c', e', hI'⟩ := hcs j hj
      rw [nxs_at bs hj] at e' hI'
      exact ⟨A', c', e', hI'.step belF⟩
  · exact (bel1.trans (bel3.mono bel1.size)).setCell (p := ⟨g1, a, none⟩) ((own1.lt g1 rfl).1) _
end Go.Proofs.Ytcbofikjcgdjmaa
