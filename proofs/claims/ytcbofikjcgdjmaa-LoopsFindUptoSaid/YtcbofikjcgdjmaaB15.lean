/- Maps keyed by numbers whose elements are known to the value. -/
import Derived.Test.YtcbofikjcgdjmaaB14
import Derived.Maps.OwnSet
import Derived.Maps.OwnOps
namespace Go.Proofs.Ytcbofikjcgdjmaa
set_option linter.unusedVariables false
set_option linter.unusedSimpArgs false
open Go.RowKit Go.Maps

/-- an element is read as itself -/
def HR (v : Value) : Option (DataW Value × List MemPlace) := some (.held v, [])
def wf (x : Int) : Prop := (Lit.int .i64 x).wf = true
theorem wf_of {x : Int} (h0 : -9223372036854775808 ≤ x) (h1 : x ≤ 9223372036854775807) : wf x := WalkArith.wf_i64 (by omega)
def datumOf (o : Option Value) (zd : DataW Value) : DataW Value := match o with | some v => .held v | none => zd
/-- block b is a map of at most n entries: f tells its elements -/
def HMap (W : World) (b n : Nat) (f : Int → Option Value) : Prop :=
  ∃ D : DataW Value, W.ownsMap Try.prog 3 HR b n D ∧ IsMap D ∧ ∀ x, (∀ zd, D.atKey (.int .i64 x) zd = datumOf (f x) zd) ∧ Maps.has D (.int .i64 x) = (f x).isSome
theorem key3 : Keyed Try.prog 3 := int_keyed Try.underlying3
theorem HMap.lt {W : World} {b n : Nat} {f : Int → Option Value} (h : HMap W b n f) : b < W.heap.size := by obtain ⟨D, h, _⟩ := h; exact h.lt
theorem HMap.block {W W' : World} {b n : Nat} {f : Int → Option Value} (h : HMap W b n f) (e : W'.heap[b]? = W.heap[b]?) : HMap W' b n f := by
  obtain ⟨D, ⟨es, clock, hb, F, hs, hD⟩, h2⟩ := h
  exact ⟨D, ⟨es, clock, e.trans hb, F, hs, hD⟩, h2⟩
theorem HMap.below {W W' : World} {b n : Nat} {f : Int → Option Value} (h : HMap W b n f) {m : Nat} (hb : Below m W W') (hm : b < m) : HMap W' b n f := h.block (hb.block b hm)
theorem HMap.alloc {W : World} {b n : Nat} {f : Int → Option Value} (h : HMap W b n f) (o : Obj) : HMap (W.alloc o) b n f := h.below (below_new (Below.refl _ _) o) h.lt
theorem HMap.drewN {W : World} {b n : Nat} {f : Int → Option Value} (h : HMap W b n f) (q : Nat) : HMap (W.drewN q) b n f := h.block rfl
theorem HMap.grown {W W' : World} {row : Option Nat} {b n : Nat} {f : Int → Option Value} (h : HMap W b n f) (hg : W.grownBy W' row) (hne : some b ≠ row) : HMap W' b n f := h.block (hg.block b h.lt hne)
theorem HMap.setCell {W : World} {b n : Nat} {f : Int → Option Value} (h : HMap W b n f) {q : Addr} (hne : b ≠ q.block) (u : Value) : HMap (W.setCell q u) b n f := h.block (Below.heap_setCell W q u b hne)
theorem HMap.mono {W : World} {b n m : Nat} {f : Int → Option Value} (h : HMap W b n f) (hm : n ≤ m) : HMap W b m f := by
  obtain ⟨D, h1, h2⟩ := h
  exact ⟨D, h1.mono hm, h2⟩
theorem HMap.made (W : World) : HMap (W.alloc (.map #[] 0)) W.heap.size 0 (fun _ => none) :=
  ⟨.map [], World.ownsMap_made W Try.prog 3 HR, isMap_empty, fun x => ⟨fun zd => rfl, rfl⟩⟩
/-- m[k] -/
theorem HMap.look {W : World} {b n : Nat} {f : Int → Option Value} (h : HMap W b n f) {t e : TypeId} (ht : Try.prog.underlying t = some (.map 3 e)) {z : Value} (hz : (zeroValue e).run Try.prog W = .ok z W) {x : Int} (hx : wf x) :
    (Instr.lookup t (.map (some b)) (.int .i64 x) false).run Try.prog W = .ok ((f x).getD z) W := by
  obtain ⟨D, h1, _, h2⟩ := h
  obtain ⟨v, ps, hrun, hv⟩ := h1.lookup key3 ht hz (zd := .held z) (zp := []) rfl (keyOf_int_mk Try.underlying3 hx)
  rw [(h2 x).1] at hv
  unfold HR at hv
  rw [hrun]
  cases hf : f x with
  | none => rw [hf] at hv; simp [datumOf] at hv; rw [hv.1]; rfl
  | some u => rw [hf] at hv; simp [datumOf] at hv; rw [hv.1]; rfl
/-- v, ok := m[k] -/
theorem HMap.look_ok {W : World} {b n : Nat} {f : Int → Option Value} (h : HMap W b n f) {t e : TypeId} (ht : Try.prog.underlying t = some (.map 3 e)) {z : Value} (hz : (zeroValue e).run Try.prog W = .ok z W) {x : Int} (hx : wf x) :
    (Instr.lookup t (.map (some b)) (.int .i64 x) true).run Try.prog W = .ok (.tuple #[(f x).getD z, .bool (f x).isSome]) W := by
  obtain ⟨D, h1, _, h2⟩ := h
  obtain ⟨v, ps, hrun, hv⟩ := h1.look_ok key3 ht hz (zd := .held z) (zp := []) rfl (keyOf_int_mk Try.underlying3 hx)
  rw [(h2 x).1] at hv
  rw [hrun, (h2 x).2]
  unfold HR at hv
  cases hf : f x with
  | none => rw [hf] at hv; simp [datumOf] at hv; rw [hv.1]; rfl
  | some u => rw [hf] at hv; simp [datumOf] at hv; rw [hv.1]; rfl
/-- m[k] = v -/
theorem HMap.put {W : World} {b n : Nat} {f : Int → Option Value} (h : HMap W b n f) {t e : TypeId} (ht : Try.prog.underlying t = some (.map 3 e)) (hn : n < maxLen) {x : Int} (hx : wf x) (u : Value) :
    ∃ W', (Instr.mapUpdate t (.map (some b)) (.int .i64 x) u).run Try.prog W = .ok () W' ∧ HMap W' b (n + 1) (fun y => if y = x then some u else f y) ∧ W.grownBy W' (some b) := by
  obtain ⟨D, h1, hm, h2⟩ := h
  obtain ⟨W', hrun, h3, h4⟩ := h1.update key3 ht hn (kl := .int .i64 x) (d := .held u) (ps := []) (keyOf_int_mk Try.underlying3 hx) (val := u) rfl
  have hk : WideAt.IsKeyLit (.int .i64 x) := by
    exact trivial
  refine ⟨W', hrun, ⟨_, h3, hm.put _ _, fun y => ?_⟩, h4⟩
  by_cases e : y = x
  · subst e
    dsimp only
    rw [if_pos rfl]
    exact ⟨fun zd => by rw [atKey_put_same hm hk]; rfl, by rw [has_put_same hm hk]; rfl⟩
  · dsimp only
    rw [if_neg e]
    have hne : Lit.int .i64 y ≠ Lit.int .i64 x := by simpa using e
    exact ⟨fun zd => by rw [atKey_put_other hne]; exact (h2 y).1 zd, by rw [has_put_other hne]; exact (h2 y).2⟩

theorem HMap.put_size {W W' : World} {b n : Nat} {f : Int → Option Value} (h : HMap W b n f) {t e : TypeId} (ht : Try.prog.underlying t = some (.map 3 e)) (hn : n < maxLen) {x : Int} (hx : wf x) {u : Value}
    (hrun : (Instr.mapUpdate t (.map (some b)) (.int .i64 x) u).run Try.prog W = .ok () W') : W'.heap.size = W.heap.size := by
  obtain ⟨D, ⟨es, clock, hb, F, hs, rfl⟩, hm, h2⟩ := h
  obtain ⟨es', clock', hrun2, _⟩ := Maps.fit_store (R' := HR) key3 ht hb F (Nat.lt_of_le_of_lt hs hn) (fun _ _ _ _ hz => hz) (keyOf_int_mk Try.underlying3 hx) (val := u) (yv := (.held u, [])) rfl
  rw [hrun] at hrun2
  cases hrun2
  simp [Go.ChangeMaps.setBlock]
theorem perm_keys {W : World} {b n : Nat} {D : DataW Value} (h1 : W.ownsMap Try.prog 3 HR b n D) {L : List Int} (hL : L.Pairwise (· < ·)) (hm : ∀ x, x ∈ L ↔ Maps.has D (.int .i64 x) = true) : L.Perm (intKeys D) := by
  obtain ⟨es, hD, hpw, _⟩ := h1.entries key3
  obtain ⟨es', hD', hko⟩ := h1.keysOf
  obtain rfl : es = es' := by rw [hD] at hD'; simpa using hD'
  subst hD
  exact perm_intKeys hpw (fun p hp => by obtain ⟨v, hv⟩ := hko p hp; obtain ⟨x, _, hx, _⟩ := Maps.keyOf_i64 Try.underlying3 hv; exact ⟨x, hx⟩) (hL.imp fun h => Int.ne_of_lt h) hm
theorem sort_eq {ss L : List Int} (hp : ss.Perm L) (hL : L.Pairwise (· < ·)) : ss.mergeSort (fun x y => decide (x ≤ y)) = L := by
  have h1 : ss.mergeSort leI = L.mergeSort leI := mergeSort_of_perm_i hp
  have h2 : L.mergeSort leI = L := List.mergeSort_of_pairwise (hL.imp fun h => by simp [leI]; omega)
  show ss.mergeSort leI = L
  rw [h1, h2]
theorem size_keys (D : DataW Value) (h : IsMap D) : (intKeys D).length = Maps.size D := by
  obtain ⟨es, rfl⟩ := h
  simp [intKeys, Maps.size_eq]
/-- slices.Sorted(maps.Keys(m)): the map's keys in order -/
theorem sorted35A (b n : Nat) (f : Int → Option Value) (L : List Int) (w : World) (h : HMap w b n f) (hL : L.Pairwise (· < ·)) (hm : ∀ x, x ∈ L ↔ (f x).isSome = true) (hl : L.length ≤ 1099511627776) :
    Calls Try.prog 35 #[.func (.func 55) #[] #[.pointer (some ⟨w.heap.size, 0, none⟩)]] (w.alloc (.cells #[.map (some b)] 67)) fun e w' => ∃ (v : Value), e = .returned v ∧
      w'.ownsRow (w.heap.size + 1) 3 1 v L.length (icells L) ∧ Below w.heap.size w w' := by
  obtain ⟨D, h1, hi, h2⟩ := h
  have hp := perm_keys h1 hL fun x => (hm x).trans (by rw [(h2 x).2])
  refine (sorted35_keysA b n D HR w h1 (by rw [← size_keys D hi, ← hp.length_eq]; exact hl)).mono ?_
  rintro e w' ⟨v, ss, he, hs, hrow, hb⟩
  have hpL := hs.trans hp.symm
  rw [sort_eq hpL hL, hpL.length_eq] at hrow
  exact ⟨v, he, hrow, hb⟩
theorem sorted35B (b n : Nat) (f : Int → Option Value) (L : List Int) (w : World) (h : HMap w b n f) (hL : L.Pairwise (· < ·)) (hm : ∀ x, x ∈ L ↔ (f x).isSome = true) (hl : L.length ≤ 1099511627776) :
    Calls Try.prog 35 #[.func (.func 65) #[] #[.pointer (some ⟨w.heap.size, 0, none⟩)]] (w.alloc (.cells #[.map (some b)] 58)) fun e w' => ∃ (v : Value), e = .returned v ∧
      w'.ownsRow (w.heap.size + 1) 3 1 v L.length (icells L) ∧ Below w.heap.size w w' := by
  obtain ⟨D, h1, hi, h2⟩ := h
  have hp := perm_keys h1 hL fun x => (hm x).trans (by rw [(h2 x).2])
  refine (sorted35_keysB b n D HR w h1 (by rw [← size_keys D hi, ← hp.length_eq]; exact hl)).mono ?_
  rintro e w' ⟨v, ss, he, hs, hrow, hb⟩
  have hpL := hs.trans hp.symm
  rw [sort_eq hpL hL, hpL.length_eq] at hrow
  exact ⟨v, he, hrow, hb⟩
end Go.Proofs.Ytcbofikjcgdjmaa
