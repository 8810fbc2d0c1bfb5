/- Reach in plain Lean: what it marks is what paths reach. -/
import Derived.Test.YtcbofikjcgdjmaaG6
namespace Go.Proofs.Ytcbofikjcgdjmaa
set_option linter.unusedVariables false
set_option linter.unusedSimpArgs false

/-- a path from 0 whose nodes are all other than skip -/
inductive AvI (nx : Nat → List Nat) (skip : Int) : Nat → Prop
  | zero : (0 : Int) ≠ skip → AvI nx skip 0
  | step {p b : Nat} : AvI nx skip p → b ∈ nx p → (b : Int) ≠ skip → AvI nx skip b
theorem avI_rch {nx : Nat → List Nat} {skip : Int} (h : skip < 0) {t : Nat} : AvI nx skip t ↔ Rch nx t := by
  constructor
  · intro k
    induction k with
    | zero _ => exact .zero
    | step _ h1 _ ih => exact .step ih h1
  · intro k
    induction k with
    | zero => exact .zero (by omega)
    | step _ h1 ih => exact .step ih h1 (by omega)
theorem avI_av {nx : Nat → List Nat} {a t : Nat} : AvI nx (a : Int) t ↔ Av nx a t := by
  constructor
  · intro k
    induction k with
    | zero h => exact .zero (by omega)
    | step _ h1 h2 ih => exact .step ih h1 (by omega)
  · intro k
    induction k with
    | zero h => exact .zero (by omega)
    | step _ h1 h2 ih => exact .step ih h1 (by omega)
/-- the first k successors of i -/
def reK (xs : List Nat) (skip : Int) (i : Nat) (s : Nat → Bool) : Nat → Nat → Bool
  | 0 => s
  | k + 1 => if reK xs skip i s k i && decide ((xs.getD k 0 : Int) ≠ skip) then upd (reK xs skip i s k) (xs.getD k 0) else reK xs skip i s k
/-- the first i blocks -/
def reI (nx : Nat → List Nat) (skip : Int) (s : Nat → Bool) : Nat → Nat → Bool
  | 0 => s
  | i + 1 => reK (nx i) skip i (reI nx skip s i) (nx i).length
def reR (nx : Nat → List Nat) (skip : Int) (n : Nat) : Nat → Nat → Bool
  | 0 => upd (fun _ => false) 0
  | r + 1 => reI nx skip (reR nx skip n r) n
def reF (nx : Nat → List Nat) (skip : Int) (n : Nat) : Nat → Bool := if n = 0 ∨ skip = 0 then fun _ => false else reR nx skip n n
theorem reK_le {xs : List Nat} {skip : Int} {i : Nat} {s : Nat → Bool} {t : Nat} (h : s t = true) : ∀ k, reK xs skip i s k t = true
  | 0 => h
  | k + 1 => by
    have ih := reK_le (xs := xs) (skip := skip) (i := i) h k
    show (if _ then upd (reK xs skip i s k) (xs.getD k 0) else reK xs skip i s k) t = true
    split
    · exact upd_le _ _ _ ih
    · exact ih
theorem reK_get {xs : List Nat} {skip : Int} {i : Nat} {s : Nat → Bool} (h : s i = true) : ∀ k, k ≤ xs.length → ∀ j, j < k → ((xs.getD j 0 : Nat) : Int) ≠ skip → reK xs skip i s k (xs.getD j 0) = true
  | 0, _, j, hj, _ => by omega
  | k + 1, hk, j, hj, hne => by
    show (if _ then upd (reK xs skip i s k) (xs.getD k 0) else reK xs skip i s k) (xs.getD j 0) = true
    by_cases e : j = k
    · subst e
      rw [if_pos (by rw [reK_le h j, Bool.true_and]; simpa using hne)]
      simp [upd]
    · have ih := reK_get h k (by omega) j (by omega) hne
      split
      · exact upd_le _ _ _ ih
      · exact ih
theorem reK_sound {xs : List Nat} {skip : Int} {i : Nat} {s : Nat → Bool} {Q : Nat → Prop} (hs : ∀ t, s t = true → Q t) (hq : Q i → ∀ t, t ∈ xs → (t : Int) ≠ skip → Q t) : ∀ k, k ≤ xs.length → ∀ t, reK xs skip i s k t = true → Q t
  | 0, _, t, ht => hs t ht
  | k + 1, hk, t, ht => by
    have ih := reK_sound hs hq k (by omega)
    have ht : (if reK xs skip i s k i && decide ((xs.getD k 0 : Int) ≠ skip) then upd (reK xs skip i s k) (xs.getD k 0) else reK xs skip i s k) t = true := ht
    split at ht
    · next hc =>
      rw [Bool.and_eq_true, decide_eq_true_eq] at hc
      unfold upd at ht
      by_cases e : t = xs.getD k 0
      · rw [e]; exact hq (ih i hc.1) _ (getD_mem_nat' (by omega)) hc.2
      · rw [if_neg e] at ht; exact ih t ht
    · exact ih t ht
theorem reI_le {nx : Nat → List Nat} {skip : Int} {s : Nat → Bool} {t : Nat} (h : s t = true) : ∀ i, reI nx skip s i t = true
  | 0 => h
  | i + 1 => reK_le (reI_le h i) _
theorem reI_get {nx : Nat → List Nat} {skip : Int} {s : Nat → Bool} {j : Nat} (h : s j = true) : ∀ i, j < i → ∀ t, t ∈ nx j → (t : Int) ≠ skip → reI nx skip s i t = true
  | 0, hj, _, _, _ => by omega
  | i + 1, hj, t, ht, hne => by
    by_cases e : j = i
    · subst e
      obtain ⟨q, hq, e⟩ := getD_of_mem ht
      have := reK_get (xs := nx j) (skip := skip) (reI_le (nx := nx) (skip := skip) h j) _ (Nat.le_refl _) q hq (by rw [e]; exact hne)
      rw [e] at this
      exact this
    · exact reK_le (reI_get h i (by omega) t ht hne) _
theorem reI_sound {nx : Nat → List Nat} {skip : Int} {s : Nat → Bool} {Q : Nat → Prop} (hs : ∀ t, s t = true → Q t) (hq : ∀ i, Q i → ∀ t, t ∈ nx i → (t : Int) ≠ skip → Q t) : ∀ i t, reI nx skip s i t = true → Q t
  | 0, t, ht => hs t ht
  | i + 1, t, ht => reK_sound (reI_sound hs hq i) (hq i) _ (Nat.le_refl _) t ht
theorem cnt_lt {n : Nat} {s s' : Nat → Bool} (h : ∀ t, s t = true → s' t = true) {b : Nat} (hb : b < n) (h1 : s b = false) (h2 : s' b = true) : cnt n s' < cnt n s := by
  have := cnt_mono n (s := upd s b) (s' := s') (fun t ht => by
    unfold upd at ht
    by_cases e : t = b
    · subst e; exact h2
    · rw [if_neg e] at ht; exact h t ht)
  have := cnt_upd hb h1
  omega
theorem reF_iff {nx : Nat → List Nat} {n : Nat} (h0 : n ≠ 0) (hnx : ∀ i, i < n → ∀ t, t ∈ nx i → t < n) (skip : Int) (t : Nat) : reF nx skip n t = true ↔ AvI nx skip t := by
  by_cases hs : skip = 0
  · subst hs
    unfold reF
    rw [if_pos (.inr rfl)]
    constructor
    · intro h; cases h
    · intro h
      exfalso
      induction h with
      | zero h => exact h rfl
      | step _ _ _ ih => exact ih
  · have hF : reF nx skip n = reR nx skip n n := by unfold reF; rw [if_neg (by omega)]
    rw [hF]
    have snd : ∀ r t, reR nx skip n r t = true → AvI nx skip t ∧ t < n := by
      intro r
      induction r with
      | zero =>
        intro t ht
        have ht : upd (fun _ => false) 0 t = true := ht
        unfold upd at ht
        by_cases e : t = 0
        · subst e; exact ⟨.zero (by omega), by omega⟩
        · rw [if_neg e] at ht; cases ht
      | succ r ih => exact fun t ht => reI_sound (Q := fun t => AvI nx skip t ∧ t < n) ih (fun i hi t ht hne => ⟨.step hi.1 ht hne, hnx i hi.2 t ht⟩) n t ht
    have z : ∀ r, reR nx skip n r 0 = true := by
      intro r
      induction r with
      | zero => simp [reR, upd]
      | succ r ih => exact reI_le ih n
    -- closed, or still growing
    have grow : ∀ r, (∀ i, i < n → reR nx skip n r i = true → ∀ t, t ∈ nx i → (t : Int) ≠ skip → reR nx skip n r t = true) ∨ cnt n (reR nx skip n r) + r < n := by
      intro r
      induction r with
      | zero =>
        refine .inr ?_
        have h1 := cnt_upd (n := n) (b := 0) (s := fun _ => false) (by omega) rfl
        rw [cnt_none] at h1
        show cnt n (upd (fun _ => false) 0) + 0 < n
        omega
      | succ r ih =>
        by_cases hst : ∀ t, reR nx skip n (r + 1) t = true → reR nx skip n r t = true
        · refine .inl fun i hi hs t ht hne => ?_
          exact reI_le (reI_get (hst i hs) n hi t ht hne |> hst t) n
        · rcases ih with h | h
          · exfalso
            apply hst
            intro t ht
            exact (reI_sound (Q := fun t => reR nx skip n r t = true ∧ t < n) (fun t h => ⟨h, (snd r t h).2⟩) (fun i hi t ht hne => ⟨h i hi.2 hi.1 t ht hne, hnx i hi.2 t ht⟩) n t ht).1
          · refine .inr ?_
            obtain ⟨t, ht⟩ := Classical.not_forall.1 hst
            obtain ⟨h1, h2⟩ := Classical.not_imp.1 ht
            have := cnt_lt (n := n) (s := reR nx skip n r) (s' := reR nx skip n (r + 1)) (fun t h => reI_le h n) (snd (r + 1) t h1).2 (by simpa using h2) h1
            omega
    refine ⟨fun h => (snd n t h).1, fun h => ?_⟩
    rcases grow n with hc | hc
    · induction h with
      | zero _ => exact z n
      | step h1 h2 h3 ih => exact hc _ (snd n _ ih).2 ih _ h2 h3
    · omega
end Go.Proofs.Ytcbofikjcgdjmaa
