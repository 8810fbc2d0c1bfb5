/- The tree of dominators of a valid graph is found, and its chains pass exactly the dominators. -/
import Derived.Test.YtcbofikjcgdjmaaG3
import Derived.Test.YtcbofikjcgdjmaaB13
namespace Go.Proofs.Ytcbofikjcgdjmaa
set_option linter.unusedVariables false
set_option linter.unusedSimpArgs false

theorem mem_edgK {bs : List Bk} {k : Nat} {e : Int × Int} : e ∈ edgK bs k ↔ ∃ j : Nat, j < k ∧ e.1 = (j : Int) ∧ e.2 ∈ (nthB bs j).nx := by
  refine ⟨edgK_lt k e, ?_⟩
  rintro ⟨j, hj, h1, h2⟩
  induction k with
  | zero => omega
  | succ k ih =>
    rw [edgK, List.mem_append]
    by_cases e' : j = k
    · subst e'
      exact .inr (List.mem_map.2 ⟨e.2, h2, by rw [← h1]⟩)
    · exact .inl (ih (by omega))
theorem nx_nonneg {bs : List Bk} {pv : List (List Int)} (h : validB bs pv = true) {j : Nat} (hj : j < bs.length) {t : Int} (ht : t ∈ (nthB bs j).nx) : 0 ≤ t ∧ t < bs.length := by
  obtain ⟨q, hq, h3⟩ := List.mem_iff_getElem.1 ht
  have := valid_in h j hj q hq
  rw [List.getD_eq_getElem?_getD, List.getElem?_eq_getElem hq] at this
  simp at this
  rw [h3] at this
  exact this
theorem mem_nxN {bs : List Bk} {pv : List (List Int)} (h : validB bs pv = true) {j t : Nat} (hj : j < bs.length) : t ∈ nxN bs j ↔ (t : Int) ∈ (nthB bs j).nx := by
  rw [nxN, List.mem_map]
  constructor
  · rintro ⟨x, hx, rfl⟩
    have := nx_nonneg h hj hx
    rwa [Int.toNat_of_nonneg this.1]
  · intro hx
    exact ⟨t, hx, by simp⟩
theorem mem_pvN {bs : List Bk} {pv : List (List Int)} (h : validB bs pv = true) {p b : Nat} (hp : p < bs.length) : p ∈ pvN pv b ↔ b ∈ nxN bs p := by
  have hb : b < bs.length → (p ∈ pvN pv b ↔ b ∈ nxN bs p) := fun hb => by
    rw [pvN, List.mem_map, pv_at h hb, mem_nxN h hp]
    unfold pvOf
    constructor
    · rintro ⟨x, hx, rfl⟩
      rw [List.mem_map] at hx
      obtain ⟨e, he, rfl⟩ := hx
      rw [List.mem_filter] at he
      obtain ⟨j, hj, h1, h2⟩ := mem_edgK.1 he.1
      have h3 : e.2 = (b : Int) := by simpa using he.2
      rw [h1, Int.toNat_natCast, ← h3]
      exact h2
    · intro hx
      exact ⟨(p : Int), List.mem_map.2 ⟨((p : Int), (b : Int)), List.mem_filter.2 ⟨mem_edgK.2 ⟨p, hp, rfl, hx⟩, by simp⟩, rfl⟩, by simp⟩
  by_cases hlt : b < bs.length
  · exact hb hlt
  · have hl := (validB_okB h).2.1
    constructor
    · intro hm
      have : pvN pv b = [] := by
        rw [pvN, nthR, List.getD_eq_getElem?_getD, List.getElem?_eq_none (by omega)]; rfl
      rw [this] at hm; simp at hm
    · intro hm
      exact absurd (nx_lt h p hp b hm) hlt
theorem env_of {bs : List Bk} {pv : List (List Int)} (h : validB bs pv = true) : Env bs.length (rkN bs) (pvN pv) (nxN bs) := by
  have O := ord_of h
  refine ⟨O.zero, fun a b h0 e => O.inj h0 e, fun b hb => ?_, fun p b hp => mem_pvN h (O.lt p hp), fun p b hp hb => O.clo p hp b hb, O.top, O.lt⟩
  obtain ⟨q, q1, q2, q3⟩ := O.par hb
  exact ⟨q, (mem_pvN h (O.lt q q2)).2 q1, q2, q3⟩

theorem getD_mapR (R : Nat → Int) {n t : Nat} (h : t < n) : ((List.range n).map R).getD t 0 = R t := by
  rw [List.getD_eq_getElem?_getD, List.getElem?_map, List.getElem?_range h]; rfl
theorem inB_iff {n : Nat} {t : Int} : inB n t = true ↔ 0 ≤ t ∧ t < n := by simp [inB]
/-- a stands on every path to b, or is b -/
def Dm (nx : Nat → List Nat) (a b : Nat) : Prop := a = b ∨ (Rch nx b ∧ ¬ Av nx a b)
theorem Av.self {nx : Nat → List Nat} {a : Nat} : ¬ Av nx a a := fun h => by
  cases h with
  | zero h => exact h rfl
  | step _ _ h => exact h rfl
/-- the tree that the algorithm finds -/
theorem tree_ok {bs : List Bk} {pv : List (List Int)} (h : validB bs pv = true) :
    ∃ f R, treeF f bs pv = some R ∧ ∀ a b : Nat, a < bs.length → b < bs.length → (domB ((List.range bs.length).map R) a b = true ↔ Dm (nxN bs) a b) := by
  have O := ord_of h
  have E := env_of h
  have hne : 0 < (ordN bs).length := by
    obtain ⟨l, hl⟩ := ord_cons (validB_okB h).1
    rw [hl]; simp
  have hbs : ∀ i, i < (ordN bs).tail.length → rkN bs ((ordN bs).tail.getD i 0) = i + 1 := fun i hi => by
    rw [List.length_tail] at hi
    rw [getD_tail]
    have := O.rank.at_ (i + 1) (by omega)
    omega
  have hall : ∀ t, rkN bs t ≤ (ordN bs).tail.length := fun t => by
    rw [List.length_tail]
    by_cases h0 : 0 ≤ rkN bs t
    · obtain ⟨i, hi, _, e⟩ := O.rank.eq h0
      omega
    · omega
  obtain ⟨f, R, hR, F, hneg, hch⟩ := chk E hbs hall
  obtain ⟨R', hR'⟩ : ∃ R', setI R 0 (-1) = R' := ⟨_, rfl⟩
  refine ⟨f, R', ?_, fun a b ha hb => ?_⟩
  · unfold treeF
    have : passes (rkK (ordN bs) (ordN bs).length) bs.length (pvN pv) (ordN bs).tail f (setI (fun _ => -1) 0 0) = some R := hR
    rw [this, ← hR']; rfl
  have hR0 : R' 0 = -1 := by rw [← hR', setI, if_pos rfl]
  have hRb : ∀ t, t ≠ 0 → R' t = R t := fun t ht => by rw [← hR', setI, if_neg ht]
  unfold domB
  rw [List.length_map, List.length_range]
  have ia : inB bs.length (a : Int) = true := inB_iff.2 (by omega)
  have ib : inB bs.length (b : Int) = true := inB_iff.2 (by omega)
  rw [ia, ib, Bool.true_and, Bool.true_and]
  by_cases hr : 0 ≤ rkN bs b
  · have key : ∀ (k b : Nat), 0 ≤ rkN bs b → rkN bs b ≤ k → (chainB ((List.range bs.length).map R') a k b = true ↔ Ch R b a) := by
      intro k
      induction k with
      | zero =>
        intro b h0 hk
        have hb0 : b = 0 := (O.inj (by rw [O.zero]; omega) (by rw [O.zero]; omega)).symm
        subst hb0
        rw [chainB, beq_iff_eq]
        constructor
        · intro e; have : a = 0 := by omega
          subst this; exact .refl _
        · intro hc; rw [hc.zero]
      | succ k ih =>
        intro b h0 hk
        rw [chainB]
        by_cases e : a = b
        · subst e; rw [if_pos rfl]; simp; exact .refl _
        rw [if_neg (by omega), Int.toNat_natCast, getD_mapR R' (O.lt b h0), List.length_map, List.length_range]
        by_cases hb0 : b = 0
        · subst hb0
          rw [hR0, if_neg (by simp [inB])]
          constructor
          · intro hh; cases hh
          · intro hc; exact absurd hc.zero e
        · have d := F.wf.d b hb0 (F.full b h0)
          have f0 := F.full b h0
          have hlt := O.lt _ d.2.1
          rw [hRb b hb0, if_pos (inB_iff.2 (by omega))]
          have := ih (R b).toNat d.2.1 (by omega)
          rw [Int.toNat_of_nonneg f0] at this
          rw [this]
          constructor
          · intro hc; exact .step hb0 f0 hc
          · intro hc; exact (hc.down e).2.2
    have ht := O.top b
    rw [key bs.length b hr (by omega), hch b a hr]
    unfold Dm
    constructor
    · intro hav; exact .inr ⟨O.rch.1 hr, hav⟩
    · rintro (e | e)
      · subst e; exact Av.self
      · exact e.2
  · have hb0 : b ≠ 0 := fun e => by subst e; rw [O.zero] at hr; omega
    have hRneg : R' b = -1 := by rw [hRb b hb0]; exact hneg b (by omega)
    obtain ⟨k, hk⟩ : ∃ k, bs.length = k + 1 := ⟨bs.length - 1, by omega⟩
    have : chainB ((List.range bs.length).map R') a bs.length b = decide (a = b) := by
      rw [show chainB ((List.range bs.length).map R') (a : Int) bs.length (b : Int) = chainB ((List.range bs.length).map R') (a : Int) (k + 1) (b : Int) by rw [← hk], chainB]
      by_cases e : a = b
      · subst e; simp
      · rw [if_neg (by omega), Int.toNat_natCast, getD_mapR R' hb, hRneg, if_neg (by simp [inB])]
        simp [e]
    rw [this, decide_eq_true_eq]
    unfold Dm
    constructor
    · exact .inl
    · rintro (e | e)
      · exact e
      · exact absurd (O.rch.2 e.1) hr
end Go.Proofs.Ytcbofikjcgdjmaa
