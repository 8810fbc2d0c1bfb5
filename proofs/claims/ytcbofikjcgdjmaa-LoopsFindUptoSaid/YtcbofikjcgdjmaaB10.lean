/- The algorithm of Cooper, Harvey and Kennedy in plain Lean, step for step. -/
import Derived.Test.YtcbofikjcgdjmaaB9
namespace Go.Proofs.Ytcbofikjcgdjmaa
set_option linter.unusedVariables false
set_option linter.unusedSimpArgs false

theorem getD_mem_nat' {xs : List Nat} {k : Nat} (h : k < xs.length) : xs.getD k 0 ∈ xs := by
  rw [List.getD_eq_getElem?_getD, List.getElem?_eq_getElem h]; exact List.getElem_mem h
/-- the ranks when k nodes have theirs -/
def rkK (ord : List Nat) : Nat → Nat → Int
  | 0 => fun _ => -1
  | k + 1 => fun t => if t = ord.getD k 0 then (k : Int) else rkK ord k t
def setI (f : Nat → Int) (b : Nat) (x : Int) : Nat → Int := fun t => if t = b then x else f t
/-- the nearest common node on two chains; none where f steps do not do -/
def meetF (rk id : Nat → Int) (n : Nat) : Nat → Nat → Nat → Option Nat
  | 0, a, b => if a = b then some a else none
  | f + 1, a, b => if a = b then some a
      else if rk b < rk a then (if 0 ≤ id a ∧ id a < n then meetF rk id n f (id a).toNat b else none)
      else (if 0 ≤ id b ∧ id b < n then meetF rk id n f a (id b).toNat else none)
/-- one predecessor -/
def stepP (rk id : Nat → Int) (n : Nat) (best : Int) (p : Nat) : Option Int :=
  if rk p < 0 ∨ id p < 0 then some best else if best < 0 then some (p : Int) else (meetF rk id n (2 * n) best.toNat p).map Int.ofNat
/-- the first k predecessors -/
def bestP (rk id : Nat → Int) (n : Nat) (ps : List Nat) : Nat → Option Int
  | 0 => some (-1)
  | k + 1 => (bestP rk id n ps k).bind fun b => stepP rk id n b (ps.getD k 0)
def pvN (pv : List (List Int)) (b : Nat) : List Nat := (nthR pv b).map Int.toNat
theorem meetF_lt {rk id : Nat → Int} {n : Nat} : ∀ {f a b c : Nat}, a < n → b < n → meetF rk id n f a b = some c → c < n := by
  intro f
  induction f with
  | zero =>
    intro a b c ha hb h
    rw [meetF] at h
    split at h
    · cases h; exact ha
    · cases h
  | succ f ih =>
    intro a b c ha hb h
    rw [meetF] at h
    split at h
    · cases h; exact ha
    · split at h
      · split at h
        · exact ih (by omega) hb h
        · cases h
      · split at h
        · exact ih ha (by omega) h
        · cases h
theorem bestP_in {rk id : Nat → Int} {n : Nat} {ps : List Nat} (hps : ∀ p ∈ ps, p < n) : ∀ {k : Nat} {x : Int}, k ≤ ps.length → bestP rk id n ps k = some x → -1 ≤ x ∧ x < n := by
  intro k
  induction k with
  | zero => intro x _ h; rw [bestP] at h; cases h; omega
  | succ k ih =>
    intro x hk h
    rw [bestP] at h
    obtain ⟨y, hy, hs⟩ := Option.bind_eq_some_iff.1 h
    have hy' := ih (by omega) hy
    have hp := hps _ (getD_mem_nat' (show k < ps.length by omega))
    rw [stepP] at hs
    split at hs
    · cases hs; exact hy'
    · split at hs
      · cases hs; omega
      · obtain ⟨c, hc, rfl⟩ := Option.map_eq_some_iff.1 hs
        have := meetF_lt (by omega) hp hc
        show -1 ≤ (c : Int) ∧ (c : Int) < n
        omega
theorem bestP_le {rk id : Nat → Int} {n : Nat} {ps : List Nat} {a b : Nat} (h : a ≤ b) {x : Int} (hx : bestP rk id n ps b = some x) : ∃ y, bestP rk id n ps a = some y := by
  induction h generalizing x with
  | refl => exact ⟨x, hx⟩
  | step _ ih =>
    rw [bestP] at hx
    obtain ⟨y, hy, _⟩ := Option.bind_eq_some_iff.1 hx
    exact ih hy
/-- one node -/
def stepB (rk : Nat → Int) (n : Nat) (pv : Nat → List Nat) (st : (Nat → Int) × Bool) (b : Nat) : Option ((Nat → Int) × Bool) :=
  (bestP rk st.1 n (pv b) (pv b).length).map fun x => if x = st.1 b then st else (setI st.1 b x, true)
/-- the first k nodes of a pass -/
def passK (rk : Nat → Int) (n : Nat) (pv : Nat → List Nat) (bs : List Nat) (id : Nat → Int) : Nat → Option ((Nat → Int) × Bool)
  | 0 => some (id, false)
  | k + 1 => (passK rk n pv bs id k).bind fun st => stepB rk n pv st (bs.getD k 0)
theorem passK_le {rk : Nat → Int} {n : Nat} {pv : Nat → List Nat} {bs : List Nat} {id : Nat → Int} {a b : Nat} (h : a ≤ b) {x : (Nat → Int) × Bool} (hx : passK rk n pv bs id b = some x) : ∃ y, passK rk n pv bs id a = some y := by
  induction h generalizing x with
  | refl => exact ⟨x, hx⟩
  | step _ ih =>
    rw [passK] at hx
    obtain ⟨y, hy, _⟩ := Option.bind_eq_some_iff.1 hx
    exact ih hy
/-- passes until nothing turns -/
def passes (rk : Nat → Int) (n : Nat) (pv : Nat → List Nat) (bs : List Nat) : Nat → (Nat → Int) → Option (Nat → Int)
  | 0, _ => none
  | f + 1, id => (passK rk n pv bs id bs.length).bind fun st => if st.2 then passes rk n pv bs f st.1 else some st.1
/-- the immediate dominators, where f passes do -/
def treeF (f : Nat) (bs : List Bk) (pv : List (List Int)) : Option (Nat → Int) :=
  (passes (rkK (ordN bs) (ordN bs).length) bs.length (pvN pv) (ordN bs).tail f (setI (fun _ => -1) 0 0)).map fun id => setI id 0 (-1)

theorem foldl_out {nx : Nat → List Nat} {n k : Nat} (ih : ∀ (b : Nat) (st : DSt), b < n → (∀ t ∈ st.2, t < n) → ∀ t ∈ (dfs nx k b st).2, t < n) :
    ∀ (l : List Nat) (st : DSt), (∀ x ∈ l, x < n) → (∀ t ∈ st.2, t < n) → ∀ t ∈ (l.foldl (fun st t => if st.1 t then st else dfs nx k t st) st).2, t < n := by
  intro l
  induction l with
  | nil => intro st _ h; exact h
  | cons x l ihl =>
    intro st hl h
    rw [List.foldl_cons]
    refine ihl _ (fun y hy => hl y (List.mem_cons_of_mem _ hy)) ?_
    split
    · exact h
    · exact ih x st (hl x List.mem_cons_self) h
theorem dfs_out {nx : Nat → List Nat} {n : Nat} (hnx : ∀ b, b < n → ∀ t ∈ nx b, t < n) : ∀ (k b : Nat) (st : DSt), b < n → (∀ t ∈ st.2, t < n) → ∀ t ∈ (dfs nx k b st).2, t < n := by
  intro k
  induction k with
  | zero => intro b st _ h; exact h
  | succ k ih =>
    intro b st hb h t ht
    rw [dfs] at ht
    simp only [List.mem_append, List.mem_singleton] at ht
    rcases ht with ht | ht
    · exact foldl_out ih (nx b) (upd st.1 b, st.2) (hnx b hb) h t ht
    · omega
theorem nx_lt {bs : List Bk} {pv : List (List Int)} (h : validB bs pv = true) : ∀ b, b < bs.length → ∀ t ∈ nxN bs b, t < bs.length := by
  intro b hb t ht
  rw [nxN, List.mem_map] at ht
  obtain ⟨x, hx, rfl⟩ := ht
  obtain ⟨q, hq, rfl⟩ := List.mem_iff_getElem.1 hx
  have := valid_in h b hb q hq
  rw [List.getD_eq_getElem?_getD, List.getElem?_eq_getElem hq] at this
  simp at this
  omega
theorem ord_lt {bs : List Bk} {pv : List (List Int)} (h : validB bs pv = true) : ∀ t ∈ ordN bs, t < bs.length := by
  intro t ht
  rw [ordN, List.mem_reverse] at ht
  exact dfs_out (nx_lt h) _ _ _ (by have := (validB_okB h).1; omega) (by simp) t ht
theorem ord_cons {bs : List Bk} (h : bs.length ≠ 0) : ∃ l, ordN bs = 0 :: l := by
  obtain ⟨k, hk⟩ : ∃ k, bs.length = k + 1 := ⟨bs.length - 1, by omega⟩
  rw [ordN, hk, dfs_all]
  simp
theorem cnt_dfs_len {nx : Nat → List Nat} {n : Nat} (hnx : ∀ b, b < n → ∀ t ∈ nx b, t < n) : ∀ (k b m : Nat) (st : DSt), b < n → st.1 b = false → st.2.length + cnt n st.1 ≤ m → (dfs nx k b st).2.length + cnt n (dfs nx k b st).1 ≤ m := by
  intro k
  induction k with
  | zero => intro b m st _ _ h; exact h
  | succ k ih =>
    intro b m st hb hs h
    have hc := cnt_upd hb hs
    have fold : ∀ (l : List Nat) (st : DSt) (m : Nat), (∀ x ∈ l, x < n) → st.2.length + cnt n st.1 ≤ m → (l.foldl (fun st t => if st.1 t then st else dfs nx k t st) st).2.length + cnt n (l.foldl (fun st t => if st.1 t then st else dfs nx k t st) st).1 ≤ m := by
      intro l
      induction l with
      | nil => intro st m _ h; exact h
      | cons x l ihl =>
        intro st m hl h
        rw [List.foldl_cons]
        refine ihl _ m (fun y hy => hl y (List.mem_cons_of_mem _ hy)) ?_
        split
        · exact h
        · rename_i hx
          exact ih x m st (hl x List.mem_cons_self) (by simpa using hx) h
    have := fold (nx b) (upd st.1 b, st.2) (m - 1) (hnx b hb) (by show st.2.length + cnt n (upd st.1 b) ≤ m - 1; omega)
    show (((nx b).foldl (fun st t => if st.1 t then st else dfs nx k t st) (upd st.1 b, st.2)).2 ++ [b]).length + cnt n ((nx b).foldl (fun st t => if st.1 t then st else dfs nx k t st) (upd st.1 b, st.2)).1 ≤ m
    rw [List.length_append, List.length_singleton, Nat.add_right_comm]
    have h2 : m - 1 + 1 ≤ m := by omega
    exact Nat.le_trans (Nat.succ_le_succ this) h2
theorem ord_len {bs : List Bk} {pv : List (List Int)} (h : validB bs pv = true) : (ordN bs).length ≤ bs.length := by
  rw [ordN, List.length_reverse]
  have := cnt_dfs_len (nx_lt h) bs.length 0 bs.length (fun _ => false, []) (by have := (validB_okB h).1; omega) rfl (by simp [cnt_none])
  omega
theorem getD_map_ofNat (l : List Nat) {k : Nat} (h : k < l.length) : (l.map Int.ofNat).getD k 0 = ((l.getD k 0 : Nat) : Int) := by
  rw [List.getD_eq_getElem?_getD, List.getElem?_map, List.getD_eq_getElem?_getD, List.getElem?_eq_getElem h]; rfl
theorem getD_mem_nat {xs : List Nat} {k : Nat} (h : k < xs.length) : xs.getD k 0 ∈ xs := by
  rw [List.getD_eq_getElem?_getD, List.getElem?_eq_getElem h]; exact List.getElem_mem h
/-- the predecessors of a valid graph's nodes are nodes -/
theorem edgK_lt {bs : List Bk} : ∀ (k : Nat) (e : Int × Int), e ∈ edgK bs k → ∃ j : Nat, j < k ∧ e.1 = (j : Int) ∧ e.2 ∈ (nthB bs j).nx
  | k + 1, e, h => by
    rw [edgK, List.mem_append] at h
    rcases h with h | h
    · obtain ⟨j, hj, h1, h2⟩ := edgK_lt k e h
      exact ⟨j, by omega, h1, h2⟩
    · rw [List.mem_map] at h
      obtain ⟨t, ht, rfl⟩ := h
      exact ⟨k, by omega, rfl, ht⟩
theorem pv_at {bs : List Bk} {pv : List (List Int)} (h : validB bs pv = true) {b : Nat} (hb : b < bs.length) : nthR pv b = pvOf (edgK bs bs.length) b := by
  rw [← (validB_okB h).2.2.2, prevL, nthR_map (fun t : Nat => pvOf (edgK bs bs.length) (t : Int)) hb]
theorem pv_in {bs : List Bk} {pv : List (List Int)} (h : validB bs pv = true) {b : Nat} (hb : b < bs.length) {q : Nat} (hq : q < (nthR pv b).length) : 0 ≤ (nthR pv b).getD q 0 ∧ (nthR pv b).getD q 0 < bs.length := by
  have hm := getD_mem hq
  rw [pv_at h hb] at hm ⊢
  rw [pvOf, List.mem_map] at hm
  obtain ⟨e, he, h1⟩ := hm
  obtain ⟨j, hj, h2, h3⟩ := edgK_lt _ e (List.mem_filter.1 he).1
  have h1' : e.1 = (List.map (fun x => x.1) (List.filter (fun e => e.2 == (b : Int)) (edgK bs bs.length))).getD q 0 := h1
  unfold pvOf
  rw [← h1', h2]
  exact ⟨by omega, by omega⟩
theorem pvN_lt {bs : List Bk} {pv : List (List Int)} (h : validB bs pv = true) {b : Nat} (hb : b < bs.length) : ∀ p ∈ pvN pv b, p < bs.length := by
  intro p hp
  rw [pvN, List.mem_map] at hp
  obtain ⟨x, hx, rfl⟩ := hp
  obtain ⟨q, hq, rfl⟩ := List.mem_iff_getElem.1 hx
  have := pv_in h hb hq
  rw [List.getD_eq_getElem?_getD, List.getElem?_eq_getElem hq] at this
  simp at this
  omega
theorem pvN_length (pv : List (List Int)) (b : Nat) : (pvN pv b).length = (nthR pv b).length := by simp [pvN]
theorem pvN_getD (pv : List (List Int)) (b j : Nat) (hj : j < (nthR pv b).length) : (pvN pv b).getD j 0 = ((nthR pv b).getD j 0).toNat := by
  rw [pvN, List.getD_eq_getElem?_getD, List.getElem?_map, List.getD_eq_getElem?_getD, List.getElem?_eq_getElem hj]; rfl
theorem getD_tail (l : List Nat) (k : Nat) : l.tail.getD k 0 = l.getD (k + 1) 0 := by
  cases l <;> simp
end Go.Proofs.Ytcbofikjcgdjmaa
