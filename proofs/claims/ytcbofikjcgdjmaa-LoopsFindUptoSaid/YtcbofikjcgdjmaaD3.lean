/- Maps keyed by edges. -/
import Derived.Test.YtcbofikjcgdjmaaC8
import Derived.WideKeyArr
import Derived.Maps.RangeWalk
namespace Go.Proofs.Ytcbofikjcgdjmaa
set_option linter.unusedVariables false
set_option linter.unusedSimpArgs false
open Go.RowKit Go.Maps

def pairV (x y : Int) : Value := .agg #[.int .i64 x, .int .i64 y]
theorem ccells35 : Try.prog.cellsOf 35 = 2 := by kernel_rfl
theorem ccells3 : Try.prog.cellsOf 3 = 1 := by kernel_rfl
theorem arr35 : WideMaps.ArrKey Try.prog 35 3 2 := ⟨Try.underlying35, by kernel_rfl, ccells3, ccells35⟩
theorem key35 : Keyed Try.prog 35 := Keyed.of_law arr35.law
theorem ktype35 : Try.prog.keyType 35 = true := by kernel_rfl
theorem tsize_pos : 2 ≤ Try.prog.types.size := of_decide_eq_true (by kernel_rfl)
theorem tsize : ∃ m, Try.prog.types.size = m + 2 := ⟨Try.prog.types.size - 2, by have := tsize_pos; omega⟩
theorem wide35 : (match Try.prog.underlying 35 with | some (.array _ _) | some (.struct _) => true | _ => false) = true := by rw [Try.underlying35]
set_option maxRecDepth 100000 in
theorem lits3 {m : Nat} {cs : List Value} {L : List Lit} (h : Try.prog.keyLits (m + 1) 3 cs = some L) : ∃ x, cs = [.int .i64 x] ∧ wf x := by
  unfold Program.keyLits at h
  rw [Try.underlying3] at h
  match cs, h with
  | [], h => simp at h
  | [v], h =>
    cases v <;> simp at h
    rename_i q n
    obtain ⟨⟨rfl, hw⟩, _⟩ := h
    exact ⟨n, rfl, hw⟩
  | a :: b :: r, h => simp at h
set_option maxRecDepth 100000 in
theorem lits3_mk {m : Nat} {x : Int} (h : wf x) : Try.prog.keyLits (m + 1) 3 [.int .i64 x] = some [.int .i64 x] := by
  unfold Program.keyLits
  rw [Try.underlying3]
  have : (Lit.int .i64 x).wf = true := h
  simp [this]
set_option maxRecDepth 100000 in
theorem kpair {x y : Int} (hx : wf x) (hy : wf y) : ∃ kl, keyOf Try.prog 35 (pairV x y) = some kl := by
  obtain ⟨m, hm⟩ := tsize
  unfold keyOf
  rw [Try.underlying35]
  have hf : (pairV x y).formed Try.prog 35 = true := by simp [pairV, Value.formed, Try.underlying35, ccells35]
  rw [ktype35, hf, hm]
  simp only [Bool.and_self, if_true]
  have e : (pairV x y).cells.toList = [.int .i64 x, .int .i64 y] := rfl
  rw [e]
  unfold Program.keyLits
  rw [Try.underlying35]
  simp [ccells35, ccells3, List.range, List.range.loop, lits3_mk hx, lits3_mk hy]
set_option maxRecDepth 100000 in
theorem kinv {v : Value} {kl : Lit} (h : keyOf Try.prog 35 v = some kl) : ∃ x y, v = pairV x y ∧ wf x ∧ wf y := by
  obtain ⟨m, hm⟩ := tsize
  obtain ⟨xs, L, rfl, hl, rfl⟩ := Go.keyOf_top wide35 h
  rw [hm] at hl
  unfold Program.keyLits at hl
  rw [Try.underlying35] at hl
  simp only [ccells35, ccells3] at hl
  split at hl
  · next hlen =>
    match hxs : xs.toList, hlen with
    | [a, b], _ =>
      rw [hxs] at hl
      simp [List.range, List.range.loop] at hl
      have hn : ∀ c, Try.prog.keyLits (m + 2) 3 [c] = none ∨ ∃ x, [c] = [Value.int .i64 x] ∧ wf x := fun c => by
        cases h1 : Try.prog.keyLits (m + 2) 3 [c] with
        | none => exact .inl rfl
        | some l1 => exact .inr (lits3 h1)
      have h1 : ∃ x, [a] = [Value.int .i64 x] ∧ wf x := by
        rcases hn a with h | h
        · rw [h] at hl; simp at hl
        · exact h
      have h2 : ∃ x, [b] = [Value.int .i64 x] ∧ wf x := by
        rcases hn b with h | h
        · rw [h] at hl
          cases h1 : Try.prog.keyLits (m + 2) 3 [a] with
          | none => rw [h1] at hl; simp at hl
          | some l1 => rw [h1] at hl; simp at hl
        · exact h
      obtain ⟨x, ex, wx⟩ := h1
      obtain ⟨y, ey, wy⟩ := h2
      simp at ex ey
      subst ex ey
      exact ⟨x, y, by unfold pairV; congr 1; exact Array.toList_inj.1 hxs, wx, wy⟩
  · cases hl
theorem pairV_inj {x y u v : Int} (h : pairV x y = pairV u v) : x = u ∧ y = v := by
  unfold pairV at h
  simp at h
  exact h
/-- block b is a map of at most n entries, keyed by pairs of numbers: f tells its elements -/
def AMap (W : World) (b n : Nat) (f : Int → Int → Option Value) : Prop :=
  ∃ D : DataW Value, W.ownsMap Try.prog 35 HR b n D ∧ IsMap D ∧ ∀ x y kl, keyOf Try.prog 35 (pairV x y) = some kl → (∀ zd, D.atKey kl zd = datumOf (f x y) zd) ∧ Maps.has D kl = (f x y).isSome
section
variable {W W' : World} {b n : Nat} {f : Int → Int → Option Value}
theorem AMap.lt (h : AMap W b n f) : b < W.heap.size := by obtain ⟨D, h, _⟩ := h; exact h.lt
theorem AMap.block (h : AMap W b n f) (e : W'.heap[b]? = W.heap[b]?) : AMap W' b n f := by
  obtain ⟨D, ⟨es, clock, hb, F, hs, hD⟩, h2⟩ := h
  exact ⟨D, ⟨es, clock, e.trans hb, F, hs, hD⟩, h2⟩
theorem AMap.below (h : AMap W b n f) {m : Nat} (hb : Below m W W') (hm : b < m) : AMap W' b n f := h.block (hb.block b hm)
theorem AMap.alloc (h : AMap W b n f) (o : Obj) : AMap (W.alloc o) b n f := h.below (below_new (Below.refl _ _) o) h.lt
theorem AMap.setCell (h : AMap W b n f) {q : Addr} (hne : b ≠ q.block) (u : Value) : AMap (W.setCell q u) b n f := h.block (Below.heap_setCell W q u b hne)
theorem AMap.made (W : World) : AMap (W.alloc (.map #[] 0)) W.heap.size 0 (fun _ _ => none) :=
  ⟨.map [], World.ownsMap_made W Try.prog 35 HR, isMap_empty, fun x y kl _ => ⟨fun zd => rfl, rfl⟩⟩
theorem AMap.ne_cells (hm : AMap W b n f) {g : Nat} {c : Array Value} {t : TypeId} {z : Nat × Nat} (hr : W.heap[g]? = some (.cells c t z)) : b ≠ g := fun he => by
  subst he
  obtain ⟨D, ⟨es, clock, hb, _⟩, _⟩ := hm
  rw [hb] at hr; cases hr
/-- m[k] -/
theorem AMap.look (h : AMap W b n f) {t e : TypeId} (ht : Try.prog.underlying t = some (.map 35 e)) {z : Value} (hz : (zeroValue e).run Try.prog W = .ok z W) {x y : Int} (hx : wf x) (hy : wf y) :
    (Instr.lookup t (.map (some b)) (pairV x y) false).run Try.prog W = .ok ((f x y).getD z) W := by
  obtain ⟨D, h1, _, h2⟩ := h
  obtain ⟨kl, hk⟩ := kpair hx hy
  obtain ⟨v, ps, hrun, hv⟩ := h1.lookup key35 ht hz (zd := .held z) (zp := []) rfl hk
  rw [(h2 x y kl hk).1] at hv
  unfold HR at hv
  rw [hrun]
  cases hf : f x y with
  | none => rw [hf] at hv; simp [datumOf] at hv; rw [hv.1]; rfl
  | some u => rw [hf] at hv; simp [datumOf] at hv; rw [hv.1]; rfl
/-- m[k] = v -/
theorem AMap.put (h : AMap W b n f) {t e : TypeId} (ht : Try.prog.underlying t = some (.map 35 e)) (hn : n < maxLen) {x y : Int} (hx : wf x) (hy : wf y) (u : Value) :
    ∃ W', (Instr.mapUpdate t (.map (some b)) (pairV x y) u).run Try.prog W = .ok () W' ∧ AMap W' b (n + 1) (fun x' y' => if x' = x ∧ y' = y then some u else f x' y') ∧ W.grownBy W' (some b) := by
  obtain ⟨D, h1, hm, h2⟩ := h
  obtain ⟨kl, hk⟩ := kpair hx hy
  obtain ⟨W', hrun, h3, h4⟩ := h1.update key35 ht hn (kl := kl) (d := .held u) (ps := []) hk (val := u) rfl
  refine ⟨W', hrun, ⟨_, h3, hm.put _ _, fun x' y' kl' hk' => ?_⟩, h4⟩
  by_cases e : x' = x ∧ y' = y
  · obtain ⟨rfl, rfl⟩ := e
    rw [hk] at hk'
    cases hk'
    dsimp only
    rw [if_pos ⟨rfl, rfl⟩]
    exact ⟨fun zd => by rw [atKey_put_same hm (key35.key hk)]; rfl, by rw [has_put_same hm (key35.key hk)]; rfl⟩
  · dsimp only
    rw [if_neg e]
    have hne : kl' ≠ kl := fun h => by subst h; exact e (pairV_inj (key35.inj hk' hk))
    exact ⟨fun zd => by rw [atKey_put_other hne]; exact (h2 x' y' kl' hk').1 zd, by rw [has_put_other hne]; exact (h2 x' y' kl' hk').2⟩
/-- delete(m, k) -/
theorem AMap.del (h : AMap W b n f) {t e : TypeId} (ht : Try.prog.underlying t = some (.map 35 e)) {x y : Int} (hx : wf x) (hy : wf y) (ty : TypeId) :
    ∃ W', (Builtin.delete_ #[t, 35] ty #[.map (some b), pairV x y]).run Try.prog W = .ok (.tuple #[]) W' ∧ AMap W' b n (fun x' y' => if x' = x ∧ y' = y then none else f x' y') ∧ W.grownBy W' (some b) := by
  obtain ⟨D, h1, hm, h2⟩ := h
  obtain ⟨kl, hk⟩ := kpair hx hy
  obtain ⟨W', hrun, h3, h4⟩ := h1.drop key35 ht hk ty
  refine ⟨W', hrun, ⟨_, h3, hm.del _, fun x' y' kl' hk' => ?_⟩, h4.grown⟩
  by_cases e : x' = x ∧ y' = y
  · obtain ⟨rfl, rfl⟩ := e
    rw [hk] at hk'
    cases hk'
    dsimp only
    rw [if_pos ⟨rfl, rfl⟩]
    exact ⟨fun zd => by rw [atKey_del_same]; rfl, by rw [has_del_same]; rfl⟩
  · dsimp only
    rw [if_neg e]
    have hne : kl' ≠ kl := fun h => by subst h; exact e (pairV_inj (key35.inj hk' hk))
    exact ⟨fun zd => by rw [atKey_del_other hne]; exact (h2 x' y' kl' hk').1 zd, by rw [has_del_other hne]; exact (h2 x' y' kl' hk').2⟩
end
/-- a set of pairs as the map has it -/
def aB (s : Int → Int → Bool) : Int → Int → Option Value := fun x y => if s x y = true then some (.bool true) else none
def upP (s : Int → Int → Bool) (x y : Int) : Int → Int → Bool := fun u v => if u = x ∧ v = y then true else s u v
def dnP (s : Int → Int → Bool) (x y : Int) : Int → Int → Bool := fun u v => if u = x ∧ v = y then false else s u v
theorem aB_none : (fun _ _ => none : Int → Int → Option Value) = aB (fun _ _ => false) := by funext x y; simp [aB]
theorem aB_up (s : Int → Int → Bool) (x y : Int) : (fun u v => if u = x ∧ v = y then some (.bool true) else aB s u v) = aB (upP s x y) := by
  funext u v
  unfold aB upP
  by_cases e : u = x ∧ v = y <;> simp [e]
theorem aB_dn (s : Int → Int → Bool) (x y : Int) : (fun u v => if u = x ∧ v = y then none else aB s u v) = aB (dnP s x y) := by
  funext u v
  unfold aB dnP
  by_cases e : u = x ∧ v = y <;> simp [e]
theorem aB_at (s : Int → Int → Bool) (x y : Int) : (aB s x y).getD (.bool false) = .bool (s x y) := by
  unfold aB
  cases h : s x y <;> simp
theorem aB_some (s : Int → Int → Bool) (x y : Int) : (aB s x y).isSome = s x y := by
  unfold aB
  cases h : s x y <;> simp
end Go.Proofs.Ytcbofikjcgdjmaa
