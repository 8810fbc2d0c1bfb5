/- Arguments opened: slices of numbers, graphs, loops; how big they are. -/
import Derived.Test.YtcbofikjcgdjmaaBulk
import Derived.Test.YtcbofikjcgdjmaaB4
import Derived.ProofKit
import Derived.OpenShut
import Derived.ShutString
import Derived.ChangeOld
import Derived.Below
import Derived.Lib.SmallJoins
import Derived.Deep.Slices
import Derived.Deep.Fields
import Derived.ChangeSame
namespace Go.Proofs.Ytcbofikjcgdjmaa
set_option linter.unusedVariables false
open Go.Joins Go.ChangeShapes Go.WideShapes Go.RowKit Go.Deep

theorem own : ownKnob Try.prog.godebug = none := by kernel_rfl
theorem laidOut : laidOutB Try.prog = true := by kernel_rfl
theorem list_of {α : Type} [Inhabited α] {n : Nat} {p : Nat → α → Prop} (h : ∀ i, i < n → ∃ x, p i x) : ∃ l : List α, l.length = n ∧ ∀ i, i < n → p i (l.getD i default) := by
  refine ⟨(List.range n).map fun i => if h' : i < n then (h i h').choose else default, by simp, fun i hi => ?_⟩
  rw [List.getD_eq_getElem?_getD, List.getElem?_eq_getElem (by simpa using hi)]
  simp only [List.getElem_map, List.getElem_range, Option.getD_some]
  rw [dif_pos hi]
  exact (h i hi).choose_spec
theorem add_plain (b off n : Nat) : Addr.add ⟨b, off, none⟩ n = ⟨b, off + n, none⟩ := by
  unfold Addr.add; split
  · next h => subst h; rfl
  · rfl
theorem read_spot {W : World} {a : Addr} {x : Value} (h : W.cell? a = some x) : a.spot = none := by
  unfold World.cell? at h
  split at h
  · split at h
    · cases h
    · next hs => simpa using hs
  · cases h

section
variable {H : Type} {enc : TypeId × Value → H} {P : Program} {w : World} {base : Nat} {spare : Nat → Bool} {held : Bool}
theorem open_slice_fields {t e : TypeId} {fs : Array Field} {fuel : Nat} {cs : List Value} {x : DataW H × List MemPlace} (ht : P.underlying t = some (.slice e)) (he : P.underlying e = some (.struct fs))
    (hone : oneCellFields P fs = true) (hC : P.cellsOf e = fs.size) (h : DataW.trod enc P w base spare held fuel t cs = some x) :
    (cs = [.slice none 0 0] ∧ x = (.nil, [])) ∨
    ∃ (a : Addr) (len cap m : Nat) (D : Nat → DataW H) (S : List (DataW H)), cs = [.slice (some a) len cap] ∧ len ≤ cap ∧ m = (if spare a.block then cap else len) ∧
      x.1 = .slice ((List.range len).map D) S ∧
      ∀ i, i < m → ∃ (ys : List (DataW H × List MemPlace)) (n : Nat), D i = .agg (ys.map (·.1)) ∧ ys.length = fs.size ∧
        ∀ (j : Nat) (f : Field), fs[j]? = some f → ∃ (v : Value) (y : DataW H × List MemPlace), w.cell? (a.add (i * fs.size + j)) = some v ∧ ys[j]? = some y ∧ DataW.trod enc P w base spare held n f.type [v] = some y := by
  rcases open_slice ht h with h0 | ⟨a, len, cap, m, n, D, Pl, hcs, hb, hl, hm, hmm, hx, hi⟩
  · exact .inl h0
  · refine .inr ⟨a, len, cap, m, D, _, hcs, hl, hmm, by rw [hx], fun i him => ?_⟩
    obtain ⟨cs', hc, ht'⟩ := hi i him
    rw [hC] at hc
    obtain ⟨ys, n', hn', hy, hlen, hyl, hf⟩ := DataW.trod_struct he ht'
    obtain ⟨_, hcl, hat⟩ := World.cells?_some hc
    simp only [Prod.mk.injEq] at hy
    refine ⟨ys, n', hy.1, hyl, fun j f hj => ?_⟩
    obtain ⟨ho, hk⟩ := hone_of hone j f hj
    have hjl : j < fs.size := (Array.getElem?_eq_some_iff.1 hj).1
    have hcell := hat j hjl
    have hv : cs'[j]? = some (cs'[j]'(by omega)) := List.getElem?_eq_getElem (by omega)
    have h1 := hf j f hj
    rw [ho, hk] at h1
    have hone' : (cs'.drop j).take 1 = [cs'[j]'(by omega)] := by
      rw [List.drop_eq_getElem_cons (by omega)]
      rfl
    rw [hone'] at h1
    have hys : ys[j]? = some (ys[j]'(by omega)) := List.getElem?_eq_getElem (by omega)
    refine ⟨_, _, ?_, hys, h1.trans hys⟩
    rw [← Go.Deep.add_add, hcell, hv]

theorem cells3 : Try.prog.cellsOf 3 = 1 := by kernel_rfl
theorem cells28 : Try.prog.cellsOf 28 = 1 := by kernel_rfl
theorem cells63 : Try.prog.cellsOf 63 = 3 := by kernel_rfl
theorem cells30 : Try.prog.cellsOf 30 = 4 := by kernel_rfl
theorem cells22 : Try.prog.cellsOf 22 = 1 := by kernel_rfl
theorem cells23 : Try.prog.cellsOf 23 = 1 := by kernel_rfl
theorem cells25 : Try.prog.cellsOf 25 = 2 := by kernel_rfl
theorem spot_of {f : Nat → Value} {a : Addr} {n : Nat} (h : ∀ i, i < n → w.cell? (a.add i) = some (f i)) (hn : 0 < n) : ∃ b off, a = ⟨b, off, none⟩ ∧ b < w.heap.size := by
  obtain ⟨b, off, sp⟩ := a
  have h0 := h 0 hn
  have hs := read_spot h0
  have e : sp = none := by simpa [Addr.add] using hs
  subst e
  rw [add_plain] at h0
  exact ⟨b, off, rfl, World.block_lt_of_cell? w _ h0⟩
theorem spot_one {v : Value} {a : Addr} (h : w.cell? (a.add 0) = some v) : ∃ b off, a = ⟨b, off, none⟩ ∧ b < w.heap.size :=
  spot_of (n := 1) (f := fun _ => v) (fun i hi => by
    obtain rfl : i = 0 := by omega
    exact h) (by omega)
/-- a slice of numbers -/
theorem open_iv {fuel : Nat} {v : Value} {x : DataW H × List MemPlace} (h : DataW.trod enc Try.prog w base spare held fuel 28 [v] = some x) :
    ∃ A xs c, v = .slice A xs.length c ∧ IV w A xs ∧ xs.length + 1 ≤ Rows.uptoBulk x.1 ∧ (∀ j, j < xs.length → (Lit.int .i64 (xs.getD j 0)).wf = true) := by
  rcases open_slice1 Try.underlying28 cells3 h with ⟨hc, rfl⟩ | ⟨a, len, cap, m, n, V, D, Pl, hc, hb, hl, hm, hmm, rfl, hi⟩
  · cases hc
    exact ⟨none, [], 0, rfl, IV.nil _ _, by simp [Rows.uptoBulk], fun j hj => by simp at hj⟩
  · cases hc
    have hlm : len ≤ m := by rw [hmm]; split <;> omega
    have hall : ∀ i, i < len → ∃ x : Int, w.cell? (a.add i) = some (.int .i64 x) ∧ (Lit.int .i64 x).wf = true := fun i hil => by
      obtain ⟨h1, h2⟩ := hi i (by omega)
      obtain ⟨x0, e0, _, w0⟩ := DataW.trod_int Try.underlying3 h2
      simp only [List.cons.injEq, and_true] at e0
      exact ⟨x0, by rw [h1, e0], w0⟩
    obtain ⟨xs, hxl, hx⟩ := list_of hall
    subst hxl
    refine ⟨some a, xs, cap, rfl, fun hp => ?_, ?_, fun j hj => (hx j hj).2⟩
    · obtain ⟨b, off, rfl, hlt⟩ := spot_of (f := fun i => .int .i64 (xs.getD i default)) (fun i hi => (hx i hi).1) hp
      exact ⟨b, off, rfl, hlt, fun j hj => by have := (hx j hj).1; rw [add_plain] at this; exact this⟩
    · have := bulks.slice_le ((List.range xs.length).map D) ((List.range (m - xs.length)).map fun j => D (xs.length + j))
      simp only [List.length_map, List.length_range] at this
      exact Nat.le_trans (by omega) this
/-- a slice of slices of numbers -/
theorem open_rv {fuel : Nat} {v : Value} {x : DataW H × List MemPlace} (h : DataW.trod enc Try.prog w base spare held fuel 23 [v] = some x) :
    ∃ A xss c, v = .slice A xss.length c ∧ RV w A xss ∧ xss.length + 1 ≤ Rows.uptoBulk x.1 ∧ ∀ j, j < xss.length → (nthR xss j).length ≤ Rows.uptoBulk x.1 := by
  rcases open_slice1 Try.underlying23 cells28 h with ⟨hc, rfl⟩ | ⟨a, len, cap, m, n, V, D, Pl, hc, hb, hl, hm, hmm, rfl, hi⟩
  · cases hc
    exact ⟨none, [], 0, rfl, fun h => absurd h (by simp), by simp [Rows.uptoBulk], fun j hj => by simp at hj⟩
  · cases hc
    have hlm : len ≤ m := by rw [hmm]; split <;> omega
    have hall : ∀ i, i < len → ∃ xs : List Int, (∃ A c, w.cell? (a.add i) = some (.slice A xs.length c) ∧ IV w A xs) ∧ xs.length + 1 ≤ Rows.uptoBulk (D i) := fun i hil => by
      obtain ⟨h1, h2⟩ := hi i (by omega)
      obtain ⟨A, xs, c, e0, hI, hbk, _⟩ := open_iv h2
      exact ⟨xs, ⟨A, c, by rw [h1, e0], hI⟩, hbk⟩
    obtain ⟨xss, hxl, hx⟩ := list_of hall
    subst hxl
    have hbulk := bulks.slice_elems ((List.range xss.length).map D) ((List.range (m - xss.length)).map fun j => D (xss.length + j))
    refine ⟨some a, xss, cap, rfl, fun hp => ?_, ?_, fun j hj => ?_⟩
    · have h0 := (hx 0 hp).1
      obtain ⟨A0, c0, hc0, _⟩ := h0
      obtain ⟨b, off, rfl, hlt⟩ := spot_one (by simpa using hc0)
      exact ⟨b, off, rfl, hlt, fun j hj => by
        obtain ⟨A, c, h1, h2⟩ := (hx j hj).1
        rw [add_plain] at h1
        exact ⟨A, c, h1, h2⟩⟩
    · have := bulks.slice_le ((List.range xss.length).map D) ((List.range (m - xss.length)).map fun j => D (xss.length + j))
      simp only [List.length_map, List.length_range] at this
      exact Nat.le_trans (by omega) this
    · have h1 := (hx j hj).2
      have h2 := bulks.part_le (d := D j) (l := (List.range xss.length).map D) (List.mem_map.2 ⟨j, List.mem_range.2 hj, rfl⟩)
      exact Nat.le_trans (by show (xss.getD j default).length ≤ _; omega) (Nat.le_trans h2 (Nat.le_trans (Nat.le_succ _) hbulk))
theorem bulk_agg (l : List (DataW H)) (d : DataW H) (h : d ∈ l) : Rows.uptoBulk d + 1 ≤ Rows.uptoBulk (.agg l) := by
  have := bulks.part_le h
  simp only [Rows.uptoBulk]
  omega
theorem mem_fst {ys : List (DataW H × List MemPlace)} {j : Nat} {y : DataW H × List MemPlace} (h : ys[j]? = some y) : y.1 ∈ ys.map (·.1) := List.mem_map.2 ⟨y, List.mem_of_getElem? h, rfl⟩
set_option maxRecDepth 100000 in
/-- a slice of blocks -/
theorem open_bv {fuel : Nat} {v : Value} {x : DataW H × List MemPlace} (h : DataW.trod enc Try.prog w base spare held fuel 22 [v] = some x) :
    ∃ A bs c, v = .slice A bs.length c ∧ BV w A bs ∧ bs.length + (edgK bs bs.length).length + 1 ≤ Rows.uptoBulk x.1 := by
  rcases open_slice_fields Try.underlying22 Try.underlying63 (by kernel_rfl) cells63 h with ⟨hc, rfl⟩ | ⟨a, len, cap, m, D, S, hc, hl, hmm, hxx, hi⟩
  · cases hc
    exact ⟨none, [], 0, rfl, fun h => absurd h (by simp), by simp [Rows.uptoBulk, edgK]⟩
  · cases hc
    have hlm : len ≤ m := by rw [hmm]; split <;> omega
    have hall : ∀ i, i < len → ∃ x : Bk, (∃ A c, w.cell? (a.add (i * 3)) = some (.int .i64 x.fr) ∧ w.cell? (a.add (i * 3 + 1)) = some (.int .i64 x.to) ∧ w.cell? (a.add (i * 3 + 2)) = some (.slice A x.nx.length c) ∧ IV w A x.nx) ∧ x.nx.length + 1 ≤ Rows.uptoBulk (D i) := fun i hil => by
      obtain ⟨ys, n, hD, _, hfl⟩ := hi i (by omega)
      obtain ⟨v0, y0, hc0, hy0, t0⟩ := hfl 0 _ rfl
      obtain ⟨v1, y1, hc1, hy1, t1⟩ := hfl 1 _ rfl
      obtain ⟨v2, y2, hc2, hy2, t2⟩ := hfl 2 _ rfl
      obtain ⟨x0, e0, _, w0⟩ := DataW.trod_int Try.underlying3 t0
      obtain ⟨x1, e1, _, w1⟩ := DataW.trod_int Try.underlying3 t1
      obtain ⟨A, xs, c, e2, hI, hbk, _⟩ := open_iv t2
      simp only [List.cons.injEq, and_true] at e0 e1
      subst e0 e1 e2
      have hb := bulk_agg _ _ (mem_fst hy2)
      rw [← hD] at hb
      exact ⟨⟨x0, x1, xs⟩, ⟨A, c, hc0, hc1, hc2, hI⟩, by show xs.length + 1 ≤ _; omega⟩
    obtain ⟨bs, hxl, hx⟩ := list_of hall
    subst hxl
    refine ⟨some a, bs, cap, rfl, fun hp => ?_, ?_⟩
    · have h0 := (hx 0 hp).1
      obtain ⟨A0, c0, hc0, _⟩ := h0
      obtain ⟨b, off, rfl, hlt⟩ := spot_one (by simpa using hc0)
      exact ⟨b, off, rfl, hlt, fun j hj => by
        obtain ⟨A, c, h0, h1, h2, h3⟩ := (hx j hj).1
        rw [add_plain] at h0 h1 h2
        exact ⟨A, c, h0, h1, h2, h3⟩⟩
    · have hn : ∀ n, n ≤ bs.length → n + (edgK bs n).length ≤ Rows.uptoBulkAll ((List.range n).map D) := by
        intro n
        induction n with
        | zero => intro _; simp [edgK]
        | succ n ih =>
          intro hn
          have := ih (by omega)
          have h2 := (hx n (by omega)).2
          rw [List.range_succ, List.map_append, bulks.append]
          simp only [List.map_cons, List.map_nil, Rows.uptoBulkAll]
          have h3 : (edgK bs (n + 1)).length = (edgK bs n).length + (bs.getD n default).nx.length := by
            rw [edgK, List.length_append, List.length_map]; rfl
          omega
      have h1 := hn bs.length (Nat.le_refl _)
      have hbulk := bulks.slice_elems ((List.range bs.length).map D) S
      rw [hxx]
      omega
set_option maxRecDepth 100000 in
/-- a slice of loops -/
theorem open_lv {fuel : Nat} {v : Value} {x : DataW H × List MemPlace} (h : DataW.trod enc Try.prog w base spare held fuel 26 [v] = some x) :
    ∃ A ls c, v = .slice A ls.length c ∧ LV w A ls ∧ ls.length + 1 ≤ Rows.uptoBulk x.1 ∧ ∀ j, j < ls.length → (nthL ls j).bl.length ≤ Rows.uptoBulk x.1 ∧ (nthL ls j).la.length ≤ Rows.uptoBulk x.1 := by
  rcases open_slice_fields Try.underlying26 Try.underlying30 (by kernel_rfl) cells30 h with ⟨hc, rfl⟩ | ⟨a, len, cap, m, D, S, hc, hl, hmm, hxx, hi⟩
  · cases hc
    exact ⟨none, [], 0, rfl, fun h => absurd h (by simp), by simp [Rows.uptoBulk], fun j hj => by simp at hj⟩
  · cases hc
    have hlm : len ≤ m := by rw [hmm]; split <;> omega
    have hall : ∀ i, i < len → ∃ x : Lp, (∃ A c B d, w.cell? (a.add (i * 4)) = some (.int .i64 x.hd) ∧ w.cell? (a.add (i * 4 + 1)) = some (.slice A x.bl.length c) ∧ w.cell? (a.add (i * 4 + 2)) = some (.slice B x.la.length d) ∧ w.cell? (a.add (i * 4 + 3)) = some (.int .i64 x.pa) ∧ IV w A x.bl ∧ IV w B x.la) ∧ x.bl.length + 1 ≤ Rows.uptoBulk (D i) ∧ x.la.length + 1 ≤ Rows.uptoBulk (D i) := fun i hil => by
      obtain ⟨ys, n, hD, _, hfl⟩ := hi i (by omega)
      obtain ⟨v0, y0, hc0, hy0, t0⟩ := hfl 0 _ rfl
      obtain ⟨v1, y1, hc1, hy1, t1⟩ := hfl 1 _ rfl
      obtain ⟨v2, y2, hc2, hy2, t2⟩ := hfl 2 _ rfl
      obtain ⟨v3, y3, hc3, hy3, t3⟩ := hfl 3 _ rfl
      obtain ⟨x0, e0, _, w0⟩ := DataW.trod_int Try.underlying3 t0
      obtain ⟨x3, e3, _, w3⟩ := DataW.trod_int Try.underlying3 t3
      obtain ⟨A, xs, c, e1, hI, hbk, _⟩ := open_iv t1
      obtain ⟨B, ys', d, e2, hI', hbk', _⟩ := open_iv t2
      simp only [List.cons.injEq, and_true] at e0 e3
      subst e0 e1 e2 e3
      have hb1 := bulk_agg _ _ (mem_fst hy1)
      have hb2 := bulk_agg _ _ (mem_fst hy2)
      rw [← hD] at hb1 hb2
      exact ⟨⟨x0, xs, ys', x3⟩, ⟨A, c, B, d, hc0, hc1, hc2, hc3, hI, hI'⟩, by show xs.length + 1 ≤ _; omega, by show ys'.length + 1 ≤ _; omega⟩
    obtain ⟨ls, hxl, hx⟩ := list_of hall
    subst hxl
    have hbulk := bulks.slice_elems ((List.range ls.length).map D) S
    refine ⟨some a, ls, cap, rfl, fun hp => ?_, ?_, fun j hj => ?_⟩
    · have h0 := (hx 0 hp).1
      obtain ⟨A0, c0, B0, d0, hc0, _⟩ := h0
      obtain ⟨b, off, rfl, hlt⟩ := spot_one (by simpa using hc0)
      exact ⟨b, off, rfl, hlt, fun j hj => by
        obtain ⟨A, c, B, d, h0, h1, h2, h3, h4, h5⟩ := (hx j hj).1
        rw [add_plain] at h0 h1 h2 h3
        exact ⟨A, c, B, d, h0, h1, h2, h3, h4, h5⟩⟩
    · have := bulks.slice_le ((List.range ls.length).map D) S
      simp only [List.length_map, List.length_range] at this
      rw [hxx]
      omega
    · have h1 := (hx j hj).2
      have h2 := bulks.part_le (d := D j) (l := (List.range ls.length).map D) (List.mem_map.2 ⟨j, List.mem_range.2 hj, rfl⟩)
      rw [hxx]
      show (ls.getD j default).bl.length ≤ _ ∧ (ls.getD j default).la.length ≤ _
      omega
set_option maxRecDepth 100000 in
/-- a graph that came in by value -/
theorem open_graph {r : Reach} {b0 : Nat} {v : Value} {d : DataW H} {p : List MemPlace} (hv : Value.okWide Try.prog w r b0 25 v) (h : DataW.Trod enc Try.prog w base spare held 25 v d p) :
    ∃ A bs c B pv e, v = .agg #[.slice A bs.length c, .slice B pv.length e] ∧ BV w A bs ∧ RV w B pv ∧ bs.length + (edgK bs bs.length).length ≤ Rows.uptoBulk d ∧ pv.length ≤ Rows.uptoBulk d ∧ ∀ j, j < pv.length → (nthR pv j).length ≤ Rows.uptoBulk d := by
  obtain ⟨cs, rfl, hsz⟩ := okWide_struct Try.underlying25 hv
  obtain ⟨l⟩ := cs
  match l, hsz.trans cells25 with
  | [c0, c1], _ =>
    obtain ⟨fuel, hf⟩ := h
    obtain ⟨y0, y1, n, hx, _, h0, h1⟩ := trod_struct2 Try.underlying25 hf
    simp only [Prod.mk.injEq] at hx
    obtain ⟨rfl, _⟩ := hx
    obtain ⟨A, bs, c, rfl, hB, hb⟩ := open_bv (by simpa [Value.cells, cells22] using h0)
    obtain ⟨B, pv, e, rfl, hR, hr, hr2⟩ := open_rv (by simpa [Value.cells, cells23] using h1)
    have b0 := bulk_agg [y0.1, y1.1] y0.1 (by simp)
    have b1 := bulk_agg [y0.1, y1.1] y1.1 (by simp)
    exact ⟨A, bs, c, B, pv, e, rfl, hB, hR, by omega, by omega, fun j hj => by have := hr2 j hj; omega⟩
set_option maxRecDepth 100000 in
/-- a slice of loops that came in -/
theorem open_loops {r : Reach} {b0 : Nat} {v : Value} {d : DataW H} {p : List MemPlace} (hv : Value.okWide Try.prog w r b0 26 v) (h : DataW.Trod enc Try.prog w base spare held 26 v d p) :
    ∃ A ls c, v = .slice A ls.length c ∧ LV w A ls ∧ ls.length + 1 ≤ Rows.uptoBulk d ∧ ∀ j, j < ls.length → (nthL ls j).bl.length ≤ Rows.uptoBulk d ∧ (nthL ls j).la.length ≤ Rows.uptoBulk d := by
  obtain ⟨a0, len0, cap0, rfl⟩ := okWide_slice Try.underlying26 hv
  obtain ⟨fuel, hf⟩ := h
  exact open_lv (x := (d, p)) (by simpa [Value.cells] using hf)
end
end Go.Proofs.Ytcbofikjcgdjmaa
