/- The state of the reference's Find. -/
import Derived.Test.YtcbofikjcgdjmaaF5
namespace Go.Proofs.Ytcbofikjcgdjmaa
set_option linter.unusedVariables false
set_option linter.unusedSimpArgs false
open Go.RowKit Go.Maps

/-- a list of loops in a row of the call's own; each slice in a row of its own -/
def OQ (W : World) (base base' : Nat) (v : Value) (ls : List Lp) : Prop :=
  ∃ cs : List Value, W.ownsRow base 50 4 v ls.length cs ∧ ∀ j, j < ls.length → ∃ A1 c1 A2 c2, cs[j * 4]? = some (.int .i64 (nthL ls j).hd) ∧ cs[j * 4 + 1]? = some (.slice A1 (nthL ls j).bl.length c1) ∧ cs[j * 4 + 2]? = some (.slice A2 (nthL ls j).la.length c2) ∧ cs[j * 4 + 3]? = some (.int .i64 (nthL ls j).pa) ∧
    W.ownsRow base' 3 1 (.slice A1 (nthL ls j).bl.length c1) (nthL ls j).bl.length (icells (nthL ls j).bl) ∧ W.ownsRow base' 3 1 (.slice A2 (nthL ls j).la.length c2) (nthL ls j).la.length (icells (nthL ls j).la)
theorem OQ.lv {W : World} {base base' : Nat} {v : Value} {ls : List Lp} (h : OQ W base base' v ls) : ∃ A c, v = .slice A ls.length c ∧ LV W A ls := by
  obtain ⟨cs, hr, hc⟩ := h
  have hl := hr
  rcases hr.2 with ⟨rfl, h0⟩ | ⟨g, cap, cur, rfl, hbg, hg, hnc, hcm, hcs, ht⟩
  · exact ⟨none, 0, by rw [h0], fun h => by omega⟩
  · refine ⟨_, _, rfl, fun _ => ⟨g, 0, rfl, (Array.getElem?_eq_some_iff.1 hg).1, fun j hj => ?_⟩⟩
    obtain ⟨A1, c1, A2, c2, h0, h1, h2, h3, r1, r2⟩ := hc j hj
    refine ⟨A1, c1, A2, c2, ?_, ?_, ?_, ?_, IV.of_slice r1, IV.of_slice r2⟩
    · rw [Nat.zero_add, hl.cellAt (j * 4) (by omega), h0]
    · rw [Nat.zero_add, hl.cellAt (j * 4 + 1) (by omega), h1]
    · rw [Nat.zero_add, hl.cellAt (j * 4 + 2) (by omega), h2]
    · rw [Nat.zero_add, hl.cellAt (j * 4 + 3) (by omega), h3]
theorem OQ.below {W W' : World} {base base' : Nat} {v : Value} {ls : List Lp} (h : OQ W base base' v ls) (hb : Below W.heap.size W W') : OQ W' base base' v ls := by
  obtain ⟨cs, hr, hc⟩ := h
  refine ⟨cs, own_below hr hb, fun j hj => ?_⟩
  obtain ⟨A1, c1, A2, c2, h0, h1, h2, h3, r1, r2⟩ := hc j hj
  exact ⟨A1, c1, A2, c2, h0, h1, h2, h3, own_below r1 hb, own_below r2 hb⟩
theorem OQ.nil (W : World) (base base' : Nat) : OQ W base base' (.slice none 0 0) [] := ⟨[], World.ownsRow_nil _ _ _ _, fun j hj => absurd hj (by simp)⟩
/-- one loop more -/
theorem OQ.snoc {W W1 : World} {base base' : Nat} {v v' : Value} {ls : List Lp} (cs : List Value) (hr : W.ownsRow base 50 4 v ls.length cs)
    (hc : ∀ j, j < ls.length → ∃ A1 c1 A2 c2, cs[j * 4]? = some (.int .i64 (nthL ls j).hd) ∧ cs[j * 4 + 1]? = some (.slice A1 (nthL ls j).bl.length c1) ∧ cs[j * 4 + 2]? = some (.slice A2 (nthL ls j).la.length c2) ∧ cs[j * 4 + 3]? = some (.int .i64 (nthL ls j).pa) ∧
      W.ownsRow base' 3 1 (.slice A1 (nthL ls j).bl.length c1) (nthL ls j).bl.length (icells (nthL ls j).bl) ∧ W.ownsRow base' 3 1 (.slice A2 (nthL ls j).la.length c2) (nthL ls j).la.length (icells (nthL ls j).la))
    {o : Obj} (hg : (W.alloc o).grownBy W1 v.ownBlock) (x : Lp) (A1 : Option Addr) (c1 : Nat) (A2 : Option Addr) (c2 : Nat)
    (hown : W1.ownsRow base 50 4 v' (ls.length + 1) (cs ++ [.int .i64 x.hd, .slice A1 x.bl.length c1, .slice A2 x.la.length c2, .int .i64 x.pa]))
    (h1 : W.ownsRow base' 3 1 (.slice A1 x.bl.length c1) x.bl.length (icells x.bl)) (h2 : W.ownsRow base' 3 1 (.slice A2 x.la.length c2) x.la.length (icells x.la)) : OQ W1 base base' v' (ls ++ [x]) := by
  have hlen : cs.length = ls.length * 4 := hr.1
  have keep : ∀ {u : Value} {k : Nat} {ys : List Value}, W.ownsRow base' 3 1 u k ys → W1.ownsRow base' 3 1 u k ys := fun {u k ys} hu => (hu.alloc o).kept hg (own_kinds (hu.alloc o) (hr.alloc o) (by decide))
  refine ⟨_, by rw [List.length_append]; exact hown, fun j hj => ?_⟩
  rw [List.length_append, List.length_singleton] at hj
  by_cases e : j < ls.length
  · rw [nthL_append_left e]
    obtain ⟨B1, d1, B2, d2, k0, k1, k2, k3, r1, r2⟩ := hc j e
    refine ⟨B1, d1, B2, d2, ?_, ?_, ?_, ?_, keep r1, keep r2⟩
    · rw [List.getElem?_append_left (by omega), k0]
    · rw [List.getElem?_append_left (by omega), k1]
    · rw [List.getElem?_append_left (by omega), k2]
    · rw [List.getElem?_append_left (by omega), k3]
  · obtain rfl : j = ls.length := by omega
    rw [nthL_append_right]
    refine ⟨A1, c1, A2, c2, ?_, ?_, ?_, ?_, keep h1, keep h2⟩
    · have := getElem?_append_at cs [.int .i64 x.hd, .slice A1 x.bl.length c1, .slice A2 x.la.length c2, .int .i64 x.pa] _ 0 hlen; exact this
    · exact getElem?_append_at cs [.int .i64 x.hd, .slice A1 x.bl.length c1, .slice A2 x.la.length c2, .int .i64 x.pa] _ 1 hlen
    · exact getElem?_append_at cs [.int .i64 x.hd, .slice A1 x.bl.length c1, .slice A2 x.la.length c2, .int .i64 x.pa] _ 2 hlen
    · exact getElem?_append_at cs [.int .i64 x.hd, .slice A1 x.bl.length c1, .slice A2 x.la.length c2, .int .i64 x.pa] _ 3 hlen
/-- the parent of one loop is set -/
theorem OQ.setPa {W : World} {base base' : Nat} {g cap : Nat} {ls ls' : List Lp} (h : OQ W base base' (.slice (some ⟨g, 0, none⟩) ls.length cap) ls) (hb : base' ≤ base) {i : Nat} (hi : i < ls.length) (x : Int)
    (hl : ls'.length = ls.length) (he : ∀ j, j < ls.length → nthL ls' j = if j = i then { nthL ls j with pa := x } else nthL ls j) :
    OQ (W.setCell ⟨g, i * 4 + 3, none⟩ (.int .i64 x)) base base' (.slice (some ⟨g, 0, none⟩) ls.length cap) ls' ∧ W.grownBy (W.setCell ⟨g, i * 4 + 3, none⟩ (.int .i64 x)) (some g) := by
  obtain ⟨cs, hr, hc⟩ := h
  have hlen : cs.length = ls.length * 4 := hr.1
  obtain ⟨hr', hg⟩ := hr.stored (i * 4 + 3) (.int .i64 x)
  refine ⟨⟨cs.set (i * 4 + 3) (.int .i64 x), by rw [hl]; exact hr', fun j hj => ?_⟩, hg⟩
  rw [hl] at hj
  obtain ⟨A1, c1, A2, c2, h0, h1, h2, h3, r1, r2⟩ := hc j hj
  have keep : ∀ {u : Value} {k : Nat} {ys : List Value}, W.ownsRow base' 3 1 u k ys → (W.setCell ⟨g, i * 4 + 3, none⟩ (.int .i64 x)).ownsRow base' 3 1 u k ys := fun {u k ys} hu => hu.kept hg (own_kinds hu hr (by decide))
  have hn := he j hj
  have e1 : (nthL ls' j).hd = (nthL ls j).hd := by rw [hn]; split <;> rfl
  have e2 : (nthL ls' j).bl = (nthL ls j).bl := by rw [hn]; split <;> rfl
  have e3 : (nthL ls' j).la = (nthL ls j).la := by rw [hn]; split <;> rfl
  rw [e1, e2, e3]
  refine ⟨A1, c1, A2, c2, ?_, ?_, ?_, ?_, keep r1, keep r2⟩
  · rw [List.getElem?_set_ne (by omega), h0]
  · rw [List.getElem?_set_ne (by omega), h1]
  · rw [List.getElem?_set_ne (by omega), h2]
  · by_cases e : j = i
    · subst e
      rw [List.getElem?_set_self (by omega), hn, if_pos rfl]
    · rw [List.getElem?_set_ne (by omega), h3, hn, if_neg e]
theorem info50 : (Try.prog.info? 50).map (fun i => (i.zero, i.size, i.bytes)) = some (some (.agg #[.int .i64 0, .slice none 0 0, .slice none 0 0, .int .i64 0]), 4, 64) := by kernel_rfl

/-- the loop of header h while its latches are found: block G -/
structure LS (V : World) (G : Nat) (h : Int) (la : List Int) (v : Value) (W : World) : Prop where
  bx : W.heap[G]? = some (.cells #[.int .i64 h, .slice none 0 0, v, .int .i64 (-1)] 50 (0, 0))
  own : W.ownsRow (G + 1) 3 1 v la.length (icells la)
  bel : Below G V W
theorem LS.size {V : World} {G : Nat} {h : Int} {la : List Int} {v : Value} {W : World} (H : LS V G h la v W) : G < W.heap.size := (Array.getElem?_eq_some_iff.1 H.bx).1
theorem LS.made (V : World) (h : Int) : LS V V.heap.size h [] (.slice none 0 0) (V.alloc (.cells #[.int .i64 h, .slice none 0 0, .slice none 0 0, .int .i64 (-1)] 50)) :=
  ⟨by show (V.heap.push _)[V.heap.size]? = _; simp, World.ownsRow_nil _ _ _ _, below_new (Below.refl _ _) _⟩
theorem LS.step {V W W' : World} {G : Nat} {h : Int} {la : List Int} {v : Value} (H : LS V G h la v W) (hb : Below W.heap.size W W') : LS V G h la v W' :=
  ⟨(hb.block G H.size).trans H.bx, own_below H.own hb, H.bel.trans (hb.mono (by have := H.size; omega))⟩
theorem LS.put {V W W2 : World} {G : Nat} {h : Int} {la : List Int} {v v' : Value} (H : LS V G h la v W) (ob : Obj) (hg : (W.alloc ob).grownBy W2 v.ownBlock) (a : Int)
    (hown : W2.ownsRow (G + 1) 3 1 v' (la.length + 1) (icells la ++ [.int .i64 a])) :
    W2.heap[G]? = some (.cells #[.int .i64 h, .slice none 0 0, v, .int .i64 (-1)] 50 (0, 0)) ∧ LS V G h (la ++ [a]) v' (W2.setCell ⟨G, 2, none⟩ v') := by
  have hs := H.size
  have hbx : W2.heap[G]? = some (.cells #[.int .i64 h, .slice none 0 0, v, .int .i64 (-1)] 50 (0, 0)) := (hg.block G (by simp; omega) (own_ne H.own (by omega))).trans ((Below.heap_alloc _ _ _ hs).trans H.bx)
  refine ⟨hbx, ?_, ?_, ?_⟩
  · rw [heap_setCell_same W2 G 2 _ 50 _ hbx]; rfl
  · have := own_other hown (q := ⟨G, 2, none⟩) (by show G < G + 1; omega) v'
    rw [List.length_append]
    simpa [icells] using this
  · exact ((H.bel.alloc (by omega) ob).grown hg (by simp; omega) (fun k e => by have := (H.own.lt k e).1; omega)).setCell (p := ⟨G, 2, none⟩) (Nat.le_refl _) _
/-- the loop of header h while its blocks are found -/
structure BS (V : World) (G S : Nat) (h : Int) (la bl : List Int) (vl vb : Value) (W : World) : Prop where
  bx : W.heap[G]? = some (.cells #[.int .i64 h, vb, vl, .int .i64 (-1)] 50 (0, 0))
  la : W.ownsRow (G + 1) 3 1 vl la.length (icells la)
  bl : W.ownsRow S 3 1 vb bl.length (icells bl)
  lt : ∀ q, vl.ownBlock = some q → q < S
  bel : Below G V W
  gs : G < S
  size : S ≤ W.heap.size
theorem BS.start {V W : World} {G : Nat} {h : Int} {la : List Int} {v : Value} (H : LS V G h la v W) : BS V G W.heap.size h la [] v (.slice none 0 0) W :=
  ⟨H.bx, H.own, World.ownsRow_nil _ _ _ _, fun q e => (H.own.lt q e).2, H.bel, H.size, Nat.le_refl _⟩
theorem BS.put {V W W2 : World} {G S : Nat} {h : Int} {la bl : List Int} {vl vb v' : Value} (H : BS V G S h la bl vl vb W) (ob : Obj) (hg : (W.alloc ob).grownBy W2 vb.ownBlock) (a : Int)
    (hown : W2.ownsRow S 3 1 v' (bl.length + 1) (icells bl ++ [.int .i64 a])) :
    W2.heap[G]? = some (.cells #[.int .i64 h, vb, vl, .int .i64 (-1)] 50 (0, 0)) ∧ BS V G S h la (bl ++ [a]) vl v' (W2.setCell ⟨G, 1, none⟩ v') := by
  have hs := H.size
  have hgs := H.gs
  have hbx : W2.heap[G]? = some (.cells #[.int .i64 h, vb, vl, .int .i64 (-1)] 50 (0, 0)) := (hg.block G (by simp; omega) (own_ne H.bl hgs)).trans ((Below.heap_alloc _ _ _ (by omega)).trans H.bx)
  refine ⟨hbx, ?_, ?_, ?_, H.lt, ?_, hgs, ?_⟩
  · rw [heap_setCell_same W2 G 1 _ 50 _ hbx]; rfl
  · refine own_other ((H.la.alloc ob).kept hg ?_) (by show G < G + 1; omega) v'
    by_cases e : vl.ownBlock = none
    · exact .inl e
    · refine .inr fun e2 => ?_
      obtain ⟨q, hq⟩ := Option.ne_none_iff_exists'.1 e
      have h1 := H.lt q hq
      rw [e2] at hq
      have h2 := (H.bl.lt q hq).1
      omega
  · have := own_other hown (q := ⟨G, 1, none⟩) hgs v'
    rw [List.length_append]
    simpa [icells] using this
  · exact ((H.bel.alloc (by omega) ob).grown hg (by simp; omega) (fun k e => by have := (H.bl.lt k e).1; omega)).setCell (p := ⟨G, 1, none⟩) (Nat.le_refl _) _
  · have := hg.size
    simp at this
    show S ≤ (W2.setCell _ _).heap.size
    simp
    omega
/-- the parents of the first i loops are set, that of loop i from the first k loops -/
def lsP (l : List Lp) (i k : Nat) : List Lp := (List.range l.length).map fun j => if j < i then { nthL l j with pa := arK l j l.length } else if j = i then { nthL l j with pa := arK l j k } else nthL l j
theorem lsP_length (l : List Lp) (i k : Nat) : (lsP l i k).length = l.length := by simp [lsP]
theorem lsP_at (l : List Lp) (i k : Nat) {j : Nat} (h : j < l.length) : nthL (lsP l i k) j = if j < i then { nthL l j with pa := arK l j l.length } else if j = i then { nthL l j with pa := arK l j k } else nthL l j := by
  rw [nthL, lsP, List.getD_eq_getElem?_getD, List.getElem?_map, List.getElem?_range h]; rfl
theorem lsP_hd (l : List Lp) (i k : Nat) {j : Nat} (h : j < l.length) : (nthL (lsP l i k) j).hd = (nthL l j).hd ∧ (nthL (lsP l i k) j).bl = (nthL l j).bl ∧ (nthL (lsP l i k) j).la = (nthL l j).la := by
  rw [lsP_at l i k h]; split
  · exact ⟨rfl, rfl, rfl⟩
  · split <;> exact ⟨rfl, rfl, rfl⟩
theorem lsP_pa (l : List Lp) (i k : Nat) (h : i < l.length) : (nthL (lsP l i k) i).pa = arK l i k := by
  rw [lsP_at l i k h, if_neg (by omega), if_pos rfl]
theorem lsP_start {l : List Lp} (hp : ∀ j, j < l.length → (nthL l j).pa = -1) (i : Nat) : lsP l i 0 = lsM l i := by
  unfold lsP lsM
  apply List.map_congr_left
  intro j hj
  have hj := List.mem_range.1 hj
  by_cases e : j < i
  · rw [if_pos e, if_pos e]
  · rw [if_neg e, if_neg e]
    by_cases e2 : j = i
    · rw [if_pos e2]
      have := hp j hj
      show { nthL l j with pa := (-1 : Int) } = nthL l j
      rw [← this]
    · rw [if_neg e2]
theorem lsP_end (l : List Lp) (i : Nat) : lsP l i l.length = lsM l (i + 1) := by
  unfold lsP lsM
  apply List.map_congr_left
  intro j hj
  by_cases e : j < i
  · rw [if_pos e, if_pos (by omega)]
  · rw [if_neg e]
    by_cases e2 : j = i
    · rw [if_pos e2, if_pos (by omega)]
    · rw [if_neg e2, if_neg (by omega)]
theorem lsP_succ (l : List Lp) (i k : Nat) {j : Nat} (h : j < l.length) : nthL (lsP l i (k + 1)) j = if j = i then { nthL (lsP l i k) j with pa := arK l i (k + 1) } else nthL (lsP l i k) j := by
  rw [lsP_at l i (k + 1) h, lsP_at l i k h]
  by_cases e : j = i
  · subst e; rw [if_neg (by omega), if_pos rfl, if_pos rfl, if_neg (by omega), if_pos rfl]
  · rw [if_neg e, if_neg e, if_neg e]
theorem lsP_same {l : List Lp} {i k : Nat} (h : arK l i (k + 1) = arK l i k) : lsP l i (k + 1) = lsP l i k := by
  unfold lsP
  apply List.map_congr_left
  intro j _
  by_cases e : j = i
  · subst e; rw [h]
  · rw [if_neg e, if_neg e]
end Go.Proofs.Ytcbofikjcgdjmaa
