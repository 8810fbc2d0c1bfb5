/- A depth-first search in plain Lean: the order in which it leaves the nodes. -/
import Derived.Test.YtcbofikjcgdjmaaB6
namespace Go.Proofs.Ytcbofikjcgdjmaa
set_option linter.unusedVariables false
set_option linter.unusedSimpArgs false

/-- the successors of block k -/
def nxN (bs : List Bk) (k : Nat) : List Nat := (nthB bs k).nx.map Int.toNat
def upd (s : Nat → Bool) (b : Nat) : Nat → Bool := fun t => if t = b then true else s t
/-- how many of n are not yet seen -/
def cnt (n : Nat) (s : Nat → Bool) : Nat := ((List.range n).filter fun t => !s t).length
abbrev DSt := (Nat → Bool) × List Nat
def dfs (nx : Nat → List Nat) : Nat → Nat → DSt → DSt
  | 0, _, st => st
  | k + 1, b, st =>
    let r := (nx b).foldl (fun st t => if st.1 t then st else dfs nx k t st) (upd st.1 b, st.2)
    (r.1, r.2 ++ [b])
/-- the search behind the first j successors of b -/
def dfsJ (nx : Nat → List Nat) (k b j : Nat) (st : DSt) : DSt := ((nx b).take j).foldl (fun st t => if st.1 t then st else dfs nx k t st) (upd st.1 b, st.2)
theorem dfsJ_zero (nx : Nat → List Nat) (k b : Nat) (st : DSt) : dfsJ nx k b 0 st = (upd st.1 b, st.2) := by simp [dfsJ]
theorem dfs_all (nx : Nat → List Nat) (k b : Nat) (st : DSt) : dfs nx (k + 1) b st = ((dfsJ nx k b (nx b).length st).1, (dfsJ nx k b (nx b).length st).2 ++ [b]) := by simp [dfs, dfsJ]
theorem take_succ_nat {xs : List Nat} {k : Nat} (h : k < xs.length) : xs.take (k + 1) = xs.take k ++ [xs.getD k 0] := by
  rw [List.take_add_one, List.getElem?_eq_getElem h, List.getD_eq_getElem?_getD, List.getElem?_eq_getElem h]; rfl
theorem dfsJ_succ {nx : Nat → List Nat} {k b j : Nat} {st : DSt} (h : j < (nx b).length) : dfsJ nx k b (j + 1) st = if (dfsJ nx k b j st).1 ((nx b).getD j 0) then dfsJ nx k b j st else dfs nx k ((nx b).getD j 0) (dfsJ nx k b j st) := by
  rw [dfsJ, take_succ_nat h, List.foldl_append]; rfl

theorem upd_le (s : Nat → Bool) (b : Nat) : ∀ t, s t = true → upd s b t = true := fun t h => by unfold upd; split <;> simp [h]
/-- what is seen stays seen -/
theorem dfs_le (nx : Nat → List Nat) : ∀ (k b : Nat) (st : DSt) (t : Nat), st.1 t = true → (dfs nx k b st).1 t = true := by
  intro k
  induction k with
  | zero => intro b st t h; exact h
  | succ k ih =>
    intro b st t h
    have : ∀ (l : List Nat) (st : DSt), st.1 t = true → (l.foldl (fun st t => if st.1 t then st else dfs nx k t st) st).1 t = true := by
      intro l
      induction l with
      | nil => intro st h; exact h
      | cons x l ihl =>
        intro st h
        rw [List.foldl_cons]
        refine ihl _ ?_
        split
        · exact h
        · exact ih _ _ _ h
    exact this _ _ (upd_le _ _ _ h)
theorem dfsJ_le (nx : Nat → List Nat) (k b j : Nat) (st : DSt) (t : Nat) (h : st.1 t = true) : (dfsJ nx k b j st).1 t = true := by
  have : ∀ (l : List Nat) (st : DSt), st.1 t = true → (l.foldl (fun st t => if st.1 t then st else dfs nx k t st) st).1 t = true := by
    intro l
    induction l with
    | nil => intro st h; exact h
    | cons x l ihl =>
      intro st h
      rw [List.foldl_cons]
      refine ihl _ ?_
      split
      · exact h
      · exact dfs_le nx k _ _ _ h
  exact this _ _ (upd_le _ _ _ h)
theorem dfsJ_self (nx : Nat → List Nat) (k b j : Nat) (st : DSt) : (dfsJ nx k b j st).1 b = true := by
  have := dfsJ_le nx k b j (upd st.1 b, st.2) b (by simp [upd])
  have e : (upd (upd st.1 b) b) = upd st.1 b := by funext t; unfold upd; split <;> simp
  unfold dfsJ at this ⊢
  simpa [e] using this
theorem cnt_mono (n : Nat) {s s' : Nat → Bool} (h : ∀ t, s t = true → s' t = true) : cnt n s' ≤ cnt n s := by
  unfold cnt
  induction n with
  | zero => simp
  | succ n ih =>
    rw [List.range_succ, List.filter_append, List.filter_append, List.length_append, List.length_append]
    have : ([n].filter fun t => !s' t).length ≤ ([n].filter fun t => !s t).length := by
      cases hs : s n <;> cases hs' : s' n <;> simp [hs, hs']
      have := h n hs; rw [hs'] at this; cases this
    omega
theorem cnt_upd {n b : Nat} {s : Nat → Bool} (hb : b < n) (h : s b = false) : cnt n (upd s b) + 1 = cnt n s := by
  unfold cnt
  induction n with
  | zero => omega
  | succ n ih =>
    rw [List.range_succ, List.filter_append, List.filter_append, List.length_append, List.length_append]
    by_cases e : b = n
    · subst e
      have h1 : ([b].filter fun t => !s t).length = 1 := by simp [h]
      have h2 : ([b].filter fun t => !upd s b t).length = 0 := by simp [upd]
      have h3 : (List.range b).filter (fun t => !upd s b t) = (List.range b).filter fun t => !s t := by
        apply List.filter_congr
        intro x hx
        have : x ≠ b := by have := List.mem_range.1 hx; omega
        simp [upd, this]
      rw [h1, h2, h3]
    · have h1 : ([n].filter fun t => !upd s b t).length = ([n].filter fun t => !s t).length := by
        have e' : (n = b) = False := by simp; exact fun h => e h.symm
        simp only [upd, List.filter_cons, List.filter_nil, e', if_false]
      have := ih (by omega)
      omega
theorem cnt_le (n : Nat) (s : Nat → Bool) : cnt n s ≤ n := by
  unfold cnt
  exact Nat.le_trans (List.length_filter_le _ _) (by simp)
theorem cnt_none (n : Nat) : cnt n (fun _ => false) = n := by
  unfold cnt; rw [List.filter_eq_self.2 (by simp)]; simp
end Go.Proofs.Ytcbofikjcgdjmaa
