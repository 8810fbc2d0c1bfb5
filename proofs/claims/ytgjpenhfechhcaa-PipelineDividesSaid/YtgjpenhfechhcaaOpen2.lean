/- A slice of instructions that came in. -/
import Derived.Test.YtgjpenhfechhcaaA21
import Derived.Test.YtgjpenhfechhcaaOpen
import Derived.Deep.Slices
import Derived.Deep.Fields
import Derived.ChangeSame
namespace Go.Proofs.Ytgjpenhfechhcaa
set_option linter.unusedVariables false
open Go.Joins Go.ChangeShapes Go.WideShapes Go.RowKit Go.Deep

section
variable {H : Type} {enc : TypeId × Value → H} {P : Program} {w : World} {base : Nat} {spare : Nat → Bool} {held : Bool}
theorem open_slice_fields {t e : TypeId} {fs : Array Field} {fuel : Nat} {cs : List Value} {x : DataW H × List MemPlace} (ht : P.underlying t = some (.slice e)) (he : P.underlying e = some (.struct fs))
    (hone : oneCellFields P fs = true) (hC : P.cellsOf e = fs.size) (h : DataW.trod enc P w base spare held fuel t cs = some x) :
    (cs = [.slice none 0 0] ∧ x = (.nil, [])) ∨
    ∃ (a : Addr) (len cap m : Nat) (D : Nat → DataW H) (Pl : Nat → List MemPlace), cs = [.slice (some a) len cap] ∧ base ≤ a.block ∧ len ≤ cap ∧ cap ≤ maxLen ∧ m = (if spare a.block then cap else len) ∧
      x = (.slice ((List.range len).map D) ((List.range (m - len)).map fun j => D (len + j)), MemPlace.row a (m * fs.size) ++ (List.range m).flatMap Pl) ∧
      ∀ i, i < m → ∃ (ys : List (DataW H × List MemPlace)) (n : Nat), D i = .agg (ys.map (·.1)) ∧ Pl i = ys.flatMap (·.2) ∧ ys.length = fs.size ∧
        ∀ (j : Nat) (f : Field), fs[j]? = some f → ∃ (v : Value) (y : DataW H × List MemPlace), w.cell? (a.add (i * fs.size + j)) = some v ∧ ys[j]? = some y ∧ DataW.trod enc P w base spare held n f.type [v] = some y := by
  rcases open_slice ht h with h0 | ⟨a, len, cap, m, n, D, Pl, hcs, hb, hl, hm, hmm, hx, hi⟩
  · exact .inl h0
  · refine .inr ⟨a, len, cap, m, D, Pl, hcs, hb, hl, hm, hmm, by rw [hC] at hx; exact hx, fun i him => ?_⟩
    obtain ⟨cs', hc, ht'⟩ := hi i him
    rw [hC] at hc
    obtain ⟨ys, n', hn', hy, hlen, hyl, hf⟩ := DataW.trod_struct he ht'
    obtain ⟨_, hcl, hat⟩ := World.cells?_some hc
    simp only [Prod.mk.injEq] at hy
    refine ⟨ys, n', hy.1, hy.2, hyl, fun j f hj => ?_⟩
    obtain ⟨ho, hk⟩ := hone_of hone j f hj
    have hjl : j < fs.size := (Array.getElem?_eq_some_iff.1 hj).1
    have hcell := hat j hjl
    have hv : cs'[j]? = some (cs'[j]'(by omega)) := List.getElem?_eq_getElem (by omega)
    have h1 := hf j f hj
    rw [ho, hk] at h1
    have hone' : (cs'.drop j).take 1 = [cs'[j]'(by omega)] := by
      rw [List.drop_eq_getElem_cons (by omega)]
      rfl
    rw [hone'] at h1
    have hys : ys[j]? = some (ys[j]'(by omega)) := List.getElem?_eq_getElem (by omega)
    refine ⟨_, _, ?_, hys, h1.trans hys⟩
    rw [← Go.Deep.add_add, hcell, hv]
theorem add_plain (b off n : Nat) : Addr.add ⟨b, off, none⟩ n = ⟨b, off + n, none⟩ := by
  unfold Addr.add; split
  · next h => subst h; rfl
  · rfl
theorem read_spot {W : World} {a : Addr} {x : Value} (h : W.cell? a = some x) : a.spot = none := by
  unfold World.cell? at h
  split at h
  · split at h
    · cases h
    · next hs => simpa using hs
  · cases h
set_option maxRecDepth 100000 in
set_option maxHeartbeats 1000000 in
theorem open_instrs {r : Reach} {b0 : Nat} {v : Value} {d : DataW H} {p : List MemPlace} (hv : Value.okWide Try.prog w r b0 56 v) (h : DataW.Trod enc Try.prog w base spare held 56 v d p) :
    ∃ l : List Ins, insOK l ∧ SV v l w := by
  obtain ⟨a0, len0, cap0, rfl⟩ := okWide_slice Try.underlying56 hv
  obtain ⟨fuel, hf⟩ := h
  rcases open_slice_fields Try.underlying56 Try.underlying23 (by kernel_rfl) cells23 hf with ⟨hcs, _⟩ | ⟨a, len, cap, m, D, Pl, hcs, _, hlc, hcm, hm, _, hi⟩
  · simp [Value.cells] at hcs
    obtain ⟨rfl, rfl, rfl⟩ := hcs
    exact ⟨[], fun i hi => by simp at hi, .inl ⟨rfl, _, _, rfl⟩⟩
  · simp [Value.cells] at hcs
    obtain ⟨rfl, rfl, rfl⟩ := hcs
    have hlm : len0 ≤ m := by rw [hm]; split <;> omega
    have hall : ∀ i, i < len0 → ∃ x : Ins, 0 ≤ x.op ∧ x.op ≤ 255 ∧ w.cell? (a.add (i * 5)) = some (.int .u8 x.op) ∧ w.cell? (a.add (i * 5 + 1)) = some (.int .i64 x.a) ∧ w.cell? (a.add (i * 5 + 2)) = some (.int .i64 x.b) ∧ w.cell? (a.add (i * 5 + 3)) = some (.int .i64 x.c) ∧ w.cell? (a.add (i * 5 + 4)) = some (.int .i64 x.m) := by
      intro i hil
      obtain ⟨ys, n, _, _, _, hfl⟩ := hi i (by omega)
      obtain ⟨v0, y0, hc0, _, t0⟩ := hfl 0 _ rfl
      obtain ⟨v1, y1, hc1, _, t1⟩ := hfl 1 _ rfl
      obtain ⟨v2, y2, hc2, _, t2⟩ := hfl 2 _ rfl
      obtain ⟨v3, y3, hc3, _, t3⟩ := hfl 3 _ rfl
      obtain ⟨v4, y4, hc4, _, t4⟩ := hfl 4 _ rfl
      obtain ⟨x0, e0, _, w0⟩ := DataW.trod_int Try.underlying5 t0
      obtain ⟨x1, e1, _, w1⟩ := DataW.trod_int Try.underlying3 t1
      obtain ⟨x2, e2, _, w2⟩ := DataW.trod_int Try.underlying3 t2
      obtain ⟨x3, e3, _, w3⟩ := DataW.trod_int Try.underlying3 t3
      obtain ⟨x4, e4, _, w4⟩ := DataW.trod_int Try.underlying3 t4
      simp only [List.cons.injEq, and_true] at e0 e1 e2 e3 e4
      subst e0 e1 e2 e3 e4
      have hb := u8_bounds w0
      exact ⟨⟨x0, x1, x2, x3, x4⟩, hb.1, hb.2, hc0, hc1, hc2, hc3, hc4⟩
    by_cases hl0 : len0 = 0
    · subst hl0
      exact ⟨[], fun i hi => by simp at hi, .inl ⟨rfl, _, _, rfl⟩⟩
    · have hsp : a.spot = none := by
        obtain ⟨x, _, _, hc, _⟩ := hall 0 (by omega)
        have := read_spot hc
        simpa [Addr.add] using this
      obtain ⟨b, off, sp⟩ := a
      dsimp only at hsp
      subst hsp
      simp only [add_plain, ← Nat.add_assoc] at hall
      let f : Nat → Ins := fun i => if h : i < len0 then (hall i h).choose else default
      have hf : ∀ i, i < len0 → f i = nth ((List.range len0).map f) i := by
        intro i hil
        unfold nth
        rw [List.getD_eq_getElem?_getD, List.getElem?_eq_getElem (by simpa using hil)]
        simp
      have hsp : ∀ i (h : i < len0), f i = (hall i h).choose := fun i h => by show (if h : i < len0 then _ else _) = _; rw [dif_pos h]
      have hlt : b < w.heap.size := by
        obtain ⟨x, _, _, hc, _⟩ := hall 0 (by omega)
        exact World.block_lt_of_cell? w _ hc
      refine ⟨(List.range len0).map f, fun i hi => ?_, .inr ⟨b, off, cap0, by simp, hlt, fun i hi => ?_, fun i hi => ?_, fun i hi => ?_, fun i hi => ?_, fun i hi => ?_⟩⟩
      all_goals
        have hi' : i < len0 := by simpa using hi
        rw [← hf i hi', hsp i hi']
        have hx := (hall i hi').choose_spec
      · exact ⟨hx.1, hx.2.1⟩
      · exact hx.2.2.1
      · exact hx.2.2.2.1
      · exact hx.2.2.2.2.1
      · exact hx.2.2.2.2.2.1
      · exact hx.2.2.2.2.2.2
end
end Go.Proofs.Ytgjpenhfechhcaa
