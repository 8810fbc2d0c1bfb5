/- What loops.Find reckons, and how its list of loops grows in memory. -/
import Derived.Test.YtcbofikjcgdjmaaB19
namespace Go.Proofs.Ytcbofikjcgdjmaa
set_option linter.unusedVariables false
set_option linter.unusedSimpArgs false
open Go.RowKit Go.Maps

/-- all that lay below n lies as it lay, but for block b -/
structure Bex (n b : Nat) (W W' : World) : Prop where
  os : W'.os = W.os
  tape : W'.tape = W.tape
  output : W'.output = W.output
  size : W.heap.size ≤ W'.heap.size
  block : ∀ k, k < n → k ≠ b → W'.heap[k]? = W.heap[k]?
theorem Bex.refl (n b : Nat) (W : World) : Bex n b W W := ⟨rfl, rfl, rfl, Nat.le_refl _, fun _ _ _ => rfl⟩
theorem Bex.then {n b m : Nat} {W W' W'' : World} (h : Bex n b W W') (hb : Below m W' W'') (hm : n ≤ m) : Bex n b W W'' :=
  ⟨hb.os.trans h.os, hb.tape.trans h.tape, hb.output.trans h.output, Nat.le_trans h.size hb.size, fun k hk hne => (hb.block k (by omega)).trans (h.block k hk hne)⟩
theorem Bex.row {n b : Nat} {W W' W'' : World} {row : Option Nat} (h : Bex n b W W') (hg : W'.grownBy W'' row) (hn : n ≤ W'.heap.size) (hr : ∀ k, row = some k → n ≤ k ∨ k = b) : Bex n b W W'' :=
  ⟨hg.1.trans h.os, hg.2.trans h.tape, hg.3.trans h.output, Nat.le_trans h.size hg.size, fun k hk hne => (hg.block k (by omega) (fun e => by
    rcases hr k e.symm with h1 | h1
    · omega
    · exact hne h1)).trans (h.block k hk hne)⟩
theorem Bex.below {n b m : Nat} {W W' : World} (h : Bex n b W W') (hm : m ≤ n) (hb : m ≤ b) : Below m W W' := ⟨h.os, h.tape, h.output, h.size, fun k hk => h.block k (by omega) (by omega)⟩
theorem Bex.cell {n b : Nat} {W W' : World} (h : Bex n b W W') {q : Nat} {f : Int → Option Value} (hm : HMap W b q f) {p : Addr} {v : Value} (hp : p.block < n) (hc : W.cell? p = some v) : W'.cell? p = some v := by
  have hne : p.block ≠ b := fun e => by
    obtain ⟨D, ⟨es, clock, hb, _⟩, _⟩ := hm
    unfold World.cell? at hc
    rw [e, hb] at hc
    simp at hc
  exact (World.cell?_of_block (h.block p.block hp hne)).trans hc

theorem IV.bex {W W' : World} {A : Option Addr} {xs : List Int} (h : IV W A xs) {n b q : Nat} {f : Int → Option Value} (hX : Bex n b W W') (hn : W.heap.size ≤ n) (hm : HMap W b q f) : IV W' A xs := fun hp => by
  obtain ⟨g, off, hA, hlt, hc⟩ := h hp
  exact ⟨g, off, hA, Nat.lt_of_lt_of_le hlt hX.size, fun j hj => hX.cell hm (p := ⟨g, off + j, none⟩) (by show g < n; omega) (hc j hj)⟩
theorem EV.bex {W W' : World} {A : Option Addr} {es : List (Int × Int)} (h : EV W A es) {n b q : Nat} {f : Int → Option Value} (hX : Bex n b W W') (hn : W.heap.size ≤ n) (hm : HMap W b q f) : EV W' A es := fun hp => by
  obtain ⟨g, off, hA, hlt, hc⟩ := h hp
  exact ⟨g, off, hA, Nat.lt_of_lt_of_le hlt hX.size, fun j hj => ⟨hX.cell hm (p := ⟨g, off + j * 2, none⟩) (by show g < n; omega) (hc j hj).1, hX.cell hm (p := ⟨g, off + j * 2 + 1, none⟩) (by show g < n; omega) (hc j hj).2⟩⟩
theorem HMap.bex {W W' : World} {p k : Nat} {f : Int → Option Value} (h : HMap W p k f) {n b : Nat} (hX : Bex n b W W') (hn : p < n) (hne : p ≠ b) : HMap W' p k f := h.block (hX.block p hn hne)
def backB (ord : List Nat) (e : Int × Int) : Bool :=
  match plO ord ord.length e.1 with
  | none => false
  | some r => !decide (r < (plO ord ord.length e.2).getD 0)
def badB (ord : List Nat) (idl : List Int) (e : Int × Int) : Bool := backB ord e && !domB idl e.2 e.1
/-- the sources of the back edges to t among the first k edges -/
def latK (ord : List Nat) (es : List (Int × Int)) (k : Nat) (t : Nat) : List Int := ((es.take k).filter fun e => backB ord e && decide (e.2 = (t : Int))).map (·.1)
theorem latK_succ {ord : List Nat} {es : List (Int × Int)} {k : Nat} (h : k < es.length) (t : Nat) :
    latK ord es (k + 1) t = if backB ord (nthE es k) = true ∧ (nthE es k).2 = (t : Int) then latK ord es k t ++ [(nthE es k).1] else latK ord es k t := by
  unfold latK
  rw [take_succ_nthE h, List.filter_append, List.map_append, List.filter_cons]
  by_cases hc : backB ord (nthE es k) = true ∧ (nthE es k).2 = (t : Int)
  · rw [if_pos hc, if_pos (by rw [hc.1, decide_eq_true hc.2]; rfl)]; rfl
  · rw [if_neg hc, if_neg (by
      intro h
      simp only [Bool.and_eq_true, decide_eq_true_eq] at h
      exact hc h)]
    simp
theorem latK_length (ord : List Nat) (es : List (Int × Int)) (k t : Nat) : (latK ord es k t).length ≤ es.length := by
  unfold latK
  rw [List.length_map]
  exact Nat.le_trans (List.length_filter_le _ _) (by simp; omega)

theorem find_first {p : Int × Int → Bool} {es : List (Int × Int)} {k : Nat} (hk : k < es.length) (h : p (nthE es k) = true) (hb : ∀ j, j < k → p (nthE es j) = false) : es.find? p = some (nthE es k) := by
  have hsplit : es = es.take k ++ nthE es k :: es.drop (k + 1) := by
    rw [nthE, List.getD_eq_getElem?_getD, List.getElem?_eq_getElem hk]
    simp
  have hn : (es.take k).find? p = none := by
    rw [List.find?_eq_none]
    intro x hx
    obtain ⟨j, hj, rfl⟩ := List.mem_iff_getElem.1 hx
    have hj' : j < k := by have := hj; rw [List.length_take] at this; omega
    have := hb j hj'
    rw [nthE, List.getD_eq_getElem?_getD, List.getElem?_eq_getElem (by omega)] at this
    rw [List.getElem_take]
    simpa using this
  rw [hsplit, List.find?_append, hn]
  rw [← hsplit]
  simp [h]
theorem find_none {p : Int × Int → Bool} {es : List (Int × Int)} (hb : ∀ j, j < es.length → p (nthE es j) = false) : es.find? p = none := by
  rw [List.find?_eq_none]
  intro x hx
  obtain ⟨j, hj, rfl⟩ := List.mem_iff_getElem.1 hx
  have := hb j hj
  rw [nthE, List.getD_eq_getElem?_getD, List.getElem?_eq_getElem hj] at this
  simpa using this
def srt (l : List Int) : List Int := l.mergeSort fun x y => decide (x ≤ y)
/-- the back edges to t, by their sources -/
def latF (bs : List Bk) (t : Nat) : List Int := latK (ordN bs) (edgK bs bs.length) (edgK bs bs.length).length t
def headF (bs : List Bk) : List Nat := (List.range bs.length).filter fun t => decide (latF bs t ≠ [])
def plF (bs : List Bk) (t : Nat) : Bool := (plO (ordN bs) (ordN bs).length (t : Int)).isSome
theorem latF_lt {bs : List Bk} {pv : List (List Int)} (h : validB bs pv = true) {t : Nat} (ht : latF bs t ≠ []) : t < bs.length := by
  unfold latF latK at ht
  rw [ne_eq, List.map_eq_nil_iff] at ht
  obtain ⟨e, he⟩ := List.exists_mem_of_ne_nil _ ht
  rw [List.mem_filter, List.take_length] at he
  have h2 := he.2
  simp only [Bool.and_eq_true, decide_eq_true_eq] at h2
  obtain ⟨j, hj, h3, h4⟩ := edgK_lt _ e he.1
  obtain ⟨q, hq, h5⟩ := List.mem_iff_getElem.1 h4
  have := valid_in h j hj q hq
  rw [List.getD_eq_getElem?_getD, List.getElem?_eq_getElem hq] at this
  simp at this
  rw [h5] at this
  omega
theorem headF_mem {bs : List Bk} {pv : List (List Int)} (h : validB bs pv = true) (x : Int) : x ∈ (headF bs).map Int.ofNat ↔ 0 ≤ x ∧ latF bs x.toNat ≠ [] := by
  rw [List.mem_map]
  constructor
  · rintro ⟨t, ht, rfl⟩
    have := (List.mem_filter.1 ht).2
    exact ⟨Int.natCast_nonneg t, by simpa using this⟩
  · rintro ⟨h0, h1⟩
    exact ⟨x.toNat, List.mem_filter.2 ⟨List.mem_range.2 (latF_lt h h1), by simpa using h1⟩, by show (x.toNat : Int) = x; omega⟩
theorem headF_sorted (bs : List Bk) : ((headF bs).map Int.ofNat).Pairwise (· < ·) := by
  rw [List.pairwise_map]
  exact (List.Pairwise.filter _ List.pairwise_lt_range).imp fun h => by simpa using h
theorem headF_len (bs : List Bk) : (headF bs).length ≤ bs.length := Nat.le_trans (List.length_filter_le _ _) (by simp)
theorem headF_lt {bs : List Bk} {t : Nat} (h : t ∈ headF bs) : t < bs.length := List.mem_range.1 (List.mem_filter.1 h).1
theorem srt_length (l : List Int) : (srt l).length = l.length := List.length_mergeSort l
theorem mem_srt {l : List Int} {x : Int} : x ∈ srt l ↔ x ∈ l := List.mem_mergeSort
theorem latF_src {bs : List Bk} {t : Nat} {x : Int} (h : x ∈ latF bs t) : ∃ j : Nat, j < bs.length ∧ x = (j : Int) := by
  unfold latF latK at h
  rw [List.mem_map] at h
  obtain ⟨e, he, rfl⟩ := h
  rw [List.mem_filter, List.take_length] at he
  obtain ⟨j, hj, h3, _⟩ := edgK_lt _ e he.1
  exact ⟨j, hj, h3⟩
/-- the loop of a header, its parent not yet known -/
def lp0 (bs : List Bk) (pv : List (List Int)) (h : Nat) : Lp := ⟨h, (colN (plF bs) (pvN pv) bs.length h ((srt (latF bs h)).map Int.toNat)).map Int.ofNat, srt (latF bs h), -1⟩
def ls0 (bs : List Bk) (pv : List (List Int)) : List Lp := (headF bs).map (lp0 bs pv)
/-- the loops that Find returns -/
def lsF (bs : List Bk) (pv : List (List Int)) : List Lp := (List.range (ls0 bs pv).length).map fun i => { nthL (ls0 bs pv) i with pa := arK (ls0 bs pv) i (ls0 bs pv).length }
/-- the edge at which Find gives up, if there is one -/
def findE (bs : List Bk) (R : Nat → Int) : Option (Int × Int) := (edgK bs bs.length).find? (badB (ordN bs) ((List.range bs.length).map R))
/-- a list of loops in a row of the call's own; each slice in a row of its own -/
def OL (W : World) (base base' : Nat) (v : Value) (ls : List Lp) : Prop :=
  ∃ cs : List Value, W.ownsRow base 30 4 v ls.length cs ∧ ∀ j, j < ls.length → ∃ A1 c1 A2 c2, cs[j * 4]? = some (.int .i64 (nthL ls j).hd) ∧ cs[j * 4 + 1]? = some (.slice A1 (nthL ls j).bl.length c1) ∧ cs[j * 4 + 2]? = some (.slice A2 (nthL ls j).la.length c2) ∧ cs[j * 4 + 3]? = some (.int .i64 (nthL ls j).pa) ∧
    W.ownsRow base' 3 1 (.slice A1 (nthL ls j).bl.length c1) (nthL ls j).bl.length (icells (nthL ls j).bl) ∧ W.ownsRow base' 3 1 (.slice A2 (nthL ls j).la.length c2) (nthL ls j).la.length (icells (nthL ls j).la)
theorem IV.of_slice {w : World} {base : Nat} {A : Option Addr} {c : Nat} {xs : List Int} (h : w.ownsRow base 3 1 (.slice A xs.length c) xs.length (icells xs)) : IV w A xs := by
  obtain ⟨A', c', he, hI⟩ := IV.of_own h
  cases he
  exact hI
theorem OL.lv {W : World} {base base' : Nat} {v : Value} {ls : List Lp} (h : OL W base base' v ls) : ∃ A c, v = .slice A ls.length c ∧ LV W A ls := by
  obtain ⟨cs, hr, hc⟩ := h
  have hl := hr
  rcases hr.2 with ⟨rfl, h0⟩ | ⟨g, cap, cur, rfl, hbg, hg, hnc, hcm, hcs, ht⟩
  · exact ⟨none, 0, by rw [h0], fun h => by omega⟩
  · refine ⟨_, _, rfl, fun _ => ⟨g, 0, rfl, (Array.getElem?_eq_some_iff.1 hg).1, fun j hj => ?_⟩⟩
    obtain ⟨A1, c1, A2, c2, h0, h1, h2, h3, r1, r2⟩ := hc j hj
    refine ⟨A1, c1, A2, c2, ?_, ?_, ?_, ?_, IV.of_slice r1, IV.of_slice r2⟩
    · rw [Nat.zero_add, hl.cellAt (j * 4) (by omega), h0]
    · rw [Nat.zero_add, hl.cellAt (j * 4 + 1) (by omega), h1]
    · rw [Nat.zero_add, hl.cellAt (j * 4 + 2) (by omega), h2]
    · rw [Nat.zero_add, hl.cellAt (j * 4 + 3) (by omega), h3]
theorem OL.below {W W' : World} {base base' : Nat} {v : Value} {ls : List Lp} (h : OL W base base' v ls) (hb : Below W.heap.size W W') : OL W' base base' v ls := by
  obtain ⟨cs, hr, hc⟩ := h
  refine ⟨cs, own_below hr hb, fun j hj => ?_⟩
  obtain ⟨A1, c1, A2, c2, h0, h1, h2, h3, r1, r2⟩ := hc j hj
  exact ⟨A1, c1, A2, c2, h0, h1, h2, h3, own_below r1 hb, own_below r2 hb⟩
theorem OL.nil (W : World) (base base' : Nat) : OL W base base' (.slice none 0 0) [] := ⟨[], World.ownsRow_nil _ _ _ _, fun j hj => absurd hj (by simp)⟩
/-- a row of numbers is no row of loops -/
theorem own_kinds {W : World} {b1 b2 e1 e2 s1 s2 n1 n2 : Nat} {v1 v2 : Value} {x1 x2 : List Value} (h1 : W.ownsRow b1 e1 s1 v1 n1 x1) (h2 : W.ownsRow b2 e2 s2 v2 n2 x2) (hne : e1 ≠ e2) : v1.ownBlock = none ∨ v1.ownBlock ≠ v2.ownBlock := by
  by_cases h : v1.ownBlock = none
  · exact .inl h
  · refine .inr fun e => ?_
    obtain ⟨q, hq⟩ := Option.ne_none_iff_exists'.1 h
    obtain ⟨c1, hc1⟩ := own_cell h1 hq
    obtain ⟨c2, hc2⟩ := own_cell h2 (e ▸ hq)
    rw [hc1] at hc2
    have := (Obj.cells.inj (Option.some.inj hc2)).2.1
    exact hne this
theorem getElem?_append_at {α : Type} (l r : List α) (n j : Nat) (hn : l.length = n) : (l ++ r)[n + j]? = r[j]? := by
  rw [List.getElem?_append_right (by omega), hn]; congr 1; omega
theorem nthL_append_left {ls : List Lp} {x : Lp} {j : Nat} (h : j < ls.length) : nthL (ls ++ [x]) j = nthL ls j := by
  rw [nthL, nthL, List.getD_eq_getElem?_getD, List.getElem?_append_left h, List.getD_eq_getElem?_getD]
theorem nthL_append_right {ls : List Lp} {x : Lp} : nthL (ls ++ [x]) ls.length = x := by
  rw [nthL, List.getD_eq_getElem?_getD, List.getElem?_append_right (Nat.le_refl _), Nat.sub_self]; rfl
/-- one loop more -/
theorem OL.snoc {W W1 : World} {base base' : Nat} {v v' : Value} {ls : List Lp} (cs : List Value) (hr : W.ownsRow base 30 4 v ls.length cs)
    (hc : ∀ j, j < ls.length → ∃ A1 c1 A2 c2, cs[j * 4]? = some (.int .i64 (nthL ls j).hd) ∧ cs[j * 4 + 1]? = some (.slice A1 (nthL ls j).bl.length c1) ∧ cs[j * 4 + 2]? = some (.slice A2 (nthL ls j).la.length c2) ∧ cs[j * 4 + 3]? = some (.int .i64 (nthL ls j).pa) ∧
      W.ownsRow base' 3 1 (.slice A1 (nthL ls j).bl.length c1) (nthL ls j).bl.length (icells (nthL ls j).bl) ∧ W.ownsRow base' 3 1 (.slice A2 (nthL ls j).la.length c2) (nthL ls j).la.length (icells (nthL ls j).la))
    {o : Obj} (hg : (W.alloc o).grownBy W1 v.ownBlock) (x : Lp) (A1 : Option Addr) (c1 : Nat) (A2 : Option Addr) (c2 : Nat)
    (hown : W1.ownsRow base 30 4 v' (ls.length + 1) (cs ++ [.int .i64 x.hd, .slice A1 x.bl.length c1, .slice A2 x.la.length c2, .int .i64 x.pa]))
    (h1 : W.ownsRow base' 3 1 (.slice A1 x.bl.length c1) x.bl.length (icells x.bl)) (h2 : W.ownsRow base' 3 1 (.slice A2 x.la.length c2) x.la.length (icells x.la)) : OL W1 base base' v' (ls ++ [x]) := by
  have hlen : cs.length = ls.length * 4 := hr.1
  have keep : ∀ {u : Value} {k : Nat} {ys : List Value}, W.ownsRow base' 3 1 u k ys → W1.ownsRow base' 3 1 u k ys := fun {u k ys} hu => (hu.alloc o).kept hg (own_kinds (hu.alloc o) (hr.alloc o) (by decide))
  refine ⟨_, by rw [List.length_append]; exact hown, fun j hj => ?_⟩
  rw [List.length_append, List.length_singleton] at hj
  by_cases e : j < ls.length
  · rw [nthL_append_left e]
    obtain ⟨B1, d1, B2, d2, k0, k1, k2, k3, r1, r2⟩ := hc j e
    refine ⟨B1, d1, B2, d2, ?_, ?_, ?_, ?_, keep r1, keep r2⟩
    · rw [List.getElem?_append_left (by omega), k0]
    · rw [List.getElem?_append_left (by omega), k1]
    · rw [List.getElem?_append_left (by omega), k2]
    · rw [List.getElem?_append_left (by omega), k3]
  · obtain rfl : j = ls.length := by omega
    rw [nthL_append_right]
    refine ⟨A1, c1, A2, c2, ?_, ?_, ?_, ?_, keep h1, keep h2⟩
    · have := getElem?_append_at cs [.int .i64 x.hd, .slice A1 x.bl.length c1, .slice A2 x.la.length c2, .int .i64 x.pa] _ 0 hlen; exact this
    · exact getElem?_append_at cs [.int .i64 x.hd, .slice A1 x.bl.length c1, .slice A2 x.la.length c2, .int .i64 x.pa] _ 1 hlen
    · exact getElem?_append_at cs [.int .i64 x.hd, .slice A1 x.bl.length c1, .slice A2 x.la.length c2, .int .i64 x.pa] _ 2 hlen
    · exact getElem?_append_at cs [.int .i64 x.hd, .slice A1 x.bl.length c1, .slice A2 x.la.length c2, .int .i64 x.pa] _ 3 hlen
/-- the parent of one loop is set -/
theorem OL.setPa {W : World} {base base' : Nat} {g cap : Nat} {ls ls' : List Lp} (h : OL W base base' (.slice (some ⟨g, 0, none⟩) ls.length cap) ls) (hb : base' ≤ base) {i : Nat} (hi : i < ls.length) (x : Int)
    (hl : ls'.length = ls.length) (he : ∀ j, j < ls.length → nthL ls' j = if j = i then { nthL ls j with pa := x } else nthL ls j) :
    OL (W.setCell ⟨g, i * 4 + 3, none⟩ (.int .i64 x)) base base' (.slice (some ⟨g, 0, none⟩) ls.length cap) ls' ∧ W.grownBy (W.setCell ⟨g, i * 4 + 3, none⟩ (.int .i64 x)) (some g) := by
  obtain ⟨cs, hr, hc⟩ := h
  have hlen : cs.length = ls.length * 4 := hr.1
  obtain ⟨hr', hg⟩ := hr.stored (i * 4 + 3) (.int .i64 x)
  refine ⟨⟨cs.set (i * 4 + 3) (.int .i64 x), by rw [hl]; exact hr', fun j hj => ?_⟩, hg⟩
  rw [hl] at hj
  obtain ⟨A1, c1, A2, c2, h0, h1, h2, h3, r1, r2⟩ := hc j hj
  have keep : ∀ {u : Value} {k : Nat} {ys : List Value}, W.ownsRow base' 3 1 u k ys → (W.setCell ⟨g, i * 4 + 3, none⟩ (.int .i64 x)).ownsRow base' 3 1 u k ys := fun {u k ys} hu => hu.kept hg (own_kinds hu hr (by decide))
  have hn := he j hj
  have e1 : (nthL ls' j).hd = (nthL ls j).hd := by rw [hn]; split <;> rfl
  have e2 : (nthL ls' j).bl = (nthL ls j).bl := by rw [hn]; split <;> rfl
  have e3 : (nthL ls' j).la = (nthL ls j).la := by rw [hn]; split <;> rfl
  rw [e1, e2, e3]
  refine ⟨A1, c1, A2, c2, ?_, ?_, ?_, ?_, keep r1, keep r2⟩
  · rw [List.getElem?_set_ne (by omega), h0]
  · rw [List.getElem?_set_ne (by omega), h1]
  · rw [List.getElem?_set_ne (by omega), h2]
  · by_cases e : j = i
    · subst e
      rw [List.getElem?_set_self (by omega), hn, if_pos rfl]
    · rw [List.getElem?_set_ne (by omega), h3, hn, if_neg e]
theorem ls0_succ (bs : List Bk) (pv : List (List Int)) {k : Nat} (h : k < (headF bs).length) : (ls0 bs pv).take (k + 1) = (ls0 bs pv).take k ++ [lp0 bs pv ((headF bs).getD k 0)] := by
  have hk : k < (ls0 bs pv).length := by simpa [ls0] using h
  rw [List.take_add_one, List.getElem?_eq_getElem hk]
  simp [ls0, List.getD_eq_getElem?_getD, List.getElem?_eq_getElem h]
theorem info30 : (Try.prog.info? 30).map (fun i => (i.zero, i.size, i.bytes)) = some (some (.agg #[.int .i64 0, .slice none 0 0, .slice none 0 0, .int .i64 0]), 4, 64) := by kernel_rfl
theorem cell_four_new (w : World) (x y z u : Value) (t : TypeId) : ∀ j v, [x, y, z, u][j]? = some v → (w.alloc (.cells #[x, y, z, u] t)).cell? ((⟨w.heap.size, 0, none⟩ : Addr).add j) = some v := by
  intro j v hj
  match j, hj with
  | 0, hj => simp at hj; subst hj; simp [Addr.add]
  | 1, hj => simp at hj; subst hj; simp [Addr.add]
  | 2, hj => simp at hj; subst hj; simp [Addr.add]
  | 3, hj => simp at hj; subst hj; simp [Addr.add]
theorem colN_len (pl : Nat → Bool) (pv : Nat → List Nat) (n h : Nat) (la : List Nat) : (colN pl pv n h la).length ≤ n := Nat.le_trans (List.length_filter_le _ _) (by simp)
theorem ls0_LZ (bs : List Bk) (pv : List (List Int)) (hn : bs.length ≤ 1048576) (hm : (edgK bs bs.length).length ≤ 1099511627776) : LZ (ls0 bs pv) := fun j hj => by
  have hj' : j < (headF bs).length := by simpa [ls0] using hj
  have e : nthL (ls0 bs pv) j = lp0 bs pv ((headF bs).getD j 0) := by
    rw [nthL, List.getD_eq_getElem?_getD, ls0, List.getElem?_map, List.getD_eq_getElem?_getD, List.getElem?_eq_getElem hj']; rfl
  rw [e]
  refine ⟨?_, ?_⟩
  · show ((colN (plF bs) (pvN pv) bs.length _ _).map Int.ofNat).length ≤ _
    rw [List.length_map]
    exact Nat.le_trans (colN_len _ _ _ _ _) (by omega)
  · show (srt _).length ≤ _
    rw [srt_length]
    exact Nat.le_trans (latK_length _ _ _ _) hm
/-- the parents of the first k loops are set -/
def lsM (l : List Lp) (k : Nat) : List Lp := (List.range l.length).map fun i => if i < k then { nthL l i with pa := arK l i l.length } else nthL l i
theorem lsM_length (l : List Lp) (k : Nat) : (lsM l k).length = l.length := by simp [lsM]
theorem lsM_at (l : List Lp) (k : Nat) {j : Nat} (h : j < l.length) : nthL (lsM l k) j = if j < k then { nthL l j with pa := arK l j l.length } else nthL l j := by
  rw [nthL, lsM, List.getD_eq_getElem?_getD, List.getElem?_map, List.getElem?_range h]; rfl
theorem lsM_zero (l : List Lp) : lsM l 0 = l := by
  apply List.ext_getElem
  · simp [lsM]
  · intro i h1 h2
    simp [lsM, nthL, h2]
theorem lsM_LZ {l : List Lp} (h : LZ l) (k : Nat) : LZ (lsM l k) := fun j hj => by
  rw [lsM_length] at hj
  have := h j hj
  rw [lsM_at l k hj]
  split <;> exact this
theorem lsM_succ (l : List Lp) {k : Nat} (hk : k < l.length) {j : Nat} (h : j < l.length) : nthL (lsM l (k + 1)) j = if j = k then { nthL (lsM l k) j with pa := arK l k l.length } else nthL (lsM l k) j := by
  rw [lsM_at l (k + 1) h, lsM_at l k h]
  by_cases e : j = k
  · subst e; rw [if_pos (by omega), if_pos rfl, if_neg (by omega)]
  · rw [if_neg e]
    by_cases e2 : j < k
    · rw [if_pos (by omega), if_pos e2]
    · rw [if_neg (by omega), if_neg e2]
theorem lsM_all (bs : List Bk) (pv : List (List Int)) : lsM (ls0 bs pv) (ls0 bs pv).length = lsF bs pv := by
  unfold lsM lsF
  apply List.map_congr_left
  intro i hi
  rw [if_pos (List.mem_range.1 hi)]
theorem lsM_hd (l : List Lp) (k : Nat) {j : Nat} (h : j < l.length) : (nthL (lsM l k) j).hd = (nthL l j).hd ∧ (nthL (lsM l k) j).bl = (nthL l j).bl ∧ (nthL (lsM l k) j).la = (nthL l j).la := by
  rw [lsM_at l k h]; split <;> exact ⟨rfl, rfl, rfl⟩
theorem arK_congr {l l' : List Lp} (h : ∀ j, j < l.length → (nthL l' j).hd = (nthL l j).hd ∧ (nthL l' j).bl = (nthL l j).bl) {i : Nat} (hi : i < l.length) : ∀ k, k ≤ l.length → arK l' i k = arK l i k
  | 0, _ => rfl
  | k + 1, hk => by
    have ih := arK_congr h hi k (by omega)
    have hin := arK_in l i k
    have hc : arC l' i k = arC l i k := by
      unfold arC
      rw [(h k (by omega)).1, (h i hi).1, (h i hi).2, (h k (by omega)).2]
    rw [arK, arK, ih, hc, (h k (by omega)).2]
    by_cases hm : arK l i k < 0
    · rw [decide_eq_true hm]; simp
    · rw [(h (arK l i k).toNat (by omega)).2]
end Go.Proofs.Ytcbofikjcgdjmaa
