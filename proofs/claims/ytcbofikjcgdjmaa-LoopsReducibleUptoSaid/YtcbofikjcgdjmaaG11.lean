/- The steps of LoopsReducible's reckoning, one by one. -/
import Derived.Test.YtcbofikjcgdjmaaG10
import Derived.Test.YtcbofikjcgdjmaaG9
namespace Go.Proofs.Ytcbofikjcgdjmaa
set_option linter.unusedVariables false
set_option linter.unusedSimpArgs false

/-- the edges out of a, by its first j successors, beside es -/
def iJ (es : Int → Int → Bool) (xs : List Int) (a : Int) : Nat → Int → Int → Bool
  | 0 => es
  | j + 1 => if a = xs.getD j 0 then iJ es xs a j else upP (iJ es xs a j) a (xs.getD j 0)
def iR (bs : List Bk) (rea : Nat → Bool) : Nat → Int → Int → Bool
  | 0 => fun _ _ => false
  | k + 1 => if rea k then iJ (iR bs rea k) (nthB bs k).nx k (nthB bs k).nx.length else iR bs rea k
def aR (rea : Nat → Bool) : Nat → Nat
  | 0 => 0
  | k + 1 => aR rea k + if rea k then 1 else 0
theorem aR_eq (rea : Nat → Bool) : ∀ k, aR rea k = cntS k rea
  | 0 => rfl
  | k + 1 => by
    have ih := aR_eq rea k
    unfold aR cntS
    rw [ih, List.range_succ, List.filter_append, List.length_append]
    unfold cntS
    cases hk : rea k <;> simp [hk]
theorem aR_le (rea : Nat → Bool) : ∀ k, aR rea k ≤ k
  | 0 => Nat.le_refl _
  | k + 1 => by have := aR_le rea k; unfold aR; split <;> omega
theorem iJ_iff (es : Int → Int → Bool) (xs : List Int) (a x y : Int) : ∀ j, iJ es xs a j x y = true ↔ es x y = true ∨ (x = a ∧ a ≠ y ∧ ∃ i, i < j ∧ xs.getD i 0 = y)
  | 0 => by simp [iJ]
  | j + 1 => by
    have ih := iJ_iff es xs a x y j
    show (if a = xs.getD j 0 then iJ es xs a j else upP (iJ es xs a j) a (xs.getD j 0)) x y = true ↔ _
    by_cases e : a = xs.getD j 0
    · rw [if_pos e, ih]
      constructor
      · rintro (h | ⟨h1, h2, i, h3, h4⟩)
        · exact .inl h
        · exact .inr ⟨h1, h2, i, by omega, h4⟩
      · rintro (h | ⟨h1, h2, i, h3, h4⟩)
        · exact .inl h
        · refine .inr ⟨h1, h2, i, ?_, h4⟩
          by_cases e' : i = j
          · subst e'; exact absurd (e.trans h4) h2
          · omega
    · rw [if_neg e]
      unfold upP
      by_cases e1 : x = a ∧ y = xs.getD j 0
      · rw [if_pos e1]
        simp only [true_iff]
        exact .inr ⟨e1.1, by rw [e1.2]; exact e, j, by omega, e1.2.symm⟩
      · rw [if_neg e1, ih]
        constructor
        · rintro (h | ⟨h1, h2, i, h3, h4⟩)
          · exact .inl h
          · exact .inr ⟨h1, h2, i, by omega, h4⟩
        · rintro (h | ⟨h1, h2, i, h3, h4⟩)
          · exact .inl h
          · refine .inr ⟨h1, h2, i, ?_, h4⟩
            by_cases e' : i = j
            · subst e'; exact absurd ⟨h1, h4.symm⟩ e1
            · omega
theorem iR_iff (bs : List Bk) (rea : Nat → Bool) (x y : Int) : ∀ k, iR bs rea k x y = true ↔ ∃ a : Nat, a < k ∧ rea a = true ∧ x = (a : Int) ∧ x ≠ y ∧ y ∈ (nthB bs a).nx
  | 0 => by simp [iR]
  | k + 1 => by
    have ih := iR_iff bs rea x y k
    show (if rea k then iJ (iR bs rea k) (nthB bs k).nx k (nthB bs k).nx.length else iR bs rea k) x y = true ↔ _
    by_cases e : rea k = true
    · rw [if_pos e, iJ_iff, ih]
      constructor
      · rintro (⟨a, h1, h2⟩ | ⟨h1, h2, i, h3, h4⟩)
        · exact ⟨a, by omega, h2⟩
        · exact ⟨k, by omega, e, h1, by rw [h1]; exact h2, by rw [← h4]; exact getD_mem h3⟩
      · rintro ⟨a, h1, h2, h3, h4, h5⟩
        by_cases ea : a = k
        · subst ea
          obtain ⟨i, hi, e'⟩ := getD_of_memI h5
          exact .inr ⟨h3, by rw [← h3]; exact h4, i, hi, e'⟩
        · exact .inl ⟨a, by omega, h2, h3, h4, h5⟩
    · rw [if_neg e, ih]
      constructor
      · rintro ⟨a, h1, h2⟩
        exact ⟨a, by omega, h2⟩
      · rintro ⟨a, h1, h2, h3⟩
        by_cases ea : a = k
        · subst ea; exact absurd h2 e
        · exact ⟨a, by omega, h2, h3⟩
def natE (es : Int → Int → Bool) : Nat → Nat → Bool := fun u v => es u v
theorem ri_start {bs : List Bk} {pv : List (List Int)} (hv : validB bs pv = true) : RI bs (fun t => decide (0 ≤ rkN bs t)) (natE (iR bs (fun t => decide (0 ≤ rkN bs t)) bs.length)) (aR (fun t => decide (0 ≤ rkN bs t)) bs.length) := by
  have O := ord_of hv
  have e : (fun u v => natE (iR bs (fun t => decide (0 ≤ rkN bs t)) bs.length) u v = true) = E0 bs := by
    funext u v
    apply propext
    unfold natE
    rw [iR_iff]
    unfold E0
    constructor
    · rintro ⟨a, h1, h2, h3, h4, h5⟩
      obtain rfl : u = a := by omega
      exact ⟨by simpa using h2, (mem_nxN hv h1).2 h5, fun e => h4 (by rw [e])⟩
    · rintro ⟨h1, h2, h3⟩
      exact ⟨u, O.lt u h1, by simpa using h1, rfl, fun e => h3 (by omega), (mem_nxN hv (O.lt u h1)).1 h2⟩
  refine ⟨by rw [e]; exact e0_gph hv, aR_eq _ _, fun R => by rw [e]; exact e0_red2 hv R, fun R => ?_⟩
  rw [e] at R
  exact e0_red1 hv R
/-- how many predecessors b has among the first k blocks, and the last of them -/
def cP (es : Int → Int → Bool) (b : Int) : Nat → Nat
  | 0 => 0
  | a + 1 => cP es b a + if es a b then 1 else 0
def fP (es : Int → Int → Bool) (b : Int) : Nat → Int
  | 0 => -1
  | a + 1 => if es a b then (a : Int) else fP es b a
theorem cP_le (es : Int → Int → Bool) (b : Int) : ∀ k, cP es b k ≤ k
  | 0 => Nat.le_refl _
  | k + 1 => by have := cP_le es b k; unfold cP; split <;> omega
theorem cP_spec (es : Int → Int → Bool) (b : Int) : ∀ k, (cP es b k = 0 ∧ ∀ q : Nat, q < k → es q b = false) ∨ (cP es b k = 1 ∧ ∃ p : Nat, p < k ∧ fP es b k = (p : Int) ∧ es p b = true ∧ ∀ q : Nat, q < k → es q b = true → q = p) ∨
    (2 ≤ cP es b k ∧ ∃ p q : Nat, p ≠ q ∧ p < k ∧ q < k ∧ es p b = true ∧ es q b = true)
  | 0 => .inl ⟨rfl, fun q hq => by omega⟩
  | k + 1 => by
    have ih := cP_spec es b k
    have hc : cP es b (k + 1) = cP es b k + if es k b then 1 else 0 := rfl
    have hf : fP es b (k + 1) = if es k b then (k : Int) else fP es b k := rfl
    cases e : es k b with
    | false =>
      rw [e] at hc hf
      simp only [Bool.false_eq_true, if_false, Nat.add_zero] at hc hf
      rw [hc, hf]
      rcases ih with ⟨h1, h2⟩ | ⟨h1, p, h2, h3, h4, h5⟩ | ⟨h1, p, q, h2, h3, h4, h5⟩
      · refine .inl ⟨h1, fun q hq => ?_⟩
        by_cases eq : q = k
        · subst eq; exact e
        · exact h2 q (by omega)
      · refine .inr (.inl ⟨h1, p, by omega, h3, h4, fun q hq hqb => ?_⟩)
        by_cases eq : q = k
        · subst eq; rw [e] at hqb; cases hqb
        · exact h5 q (by omega) hqb
      · exact .inr (.inr ⟨h1, p, q, h2, by omega, by omega, h5⟩)
    | true =>
      rw [e] at hc hf
      simp only [if_true] at hc hf
      rw [hc, hf]
      rcases ih with ⟨h1, h2⟩ | ⟨h1, p, h2, h3, h4, h5⟩ | ⟨h1, p, q, h2, h3, h4, h5⟩
      · refine .inr (.inl ⟨by omega, k, by omega, rfl, e, fun q hq hqb => ?_⟩)
        apply Classical.byContradiction
        intro hne
        have := h2 q (by omega)
        rw [this] at hqb; cases hqb
      · exact .inr (.inr ⟨by omega, p, k, by omega, by omega, by omega, h4, e⟩)
      · exact .inr (.inr ⟨by omega, p, q, h2, by omega, by omega, h5⟩)
/-- an only predecessor, as counted -/
theorem cP_uni {n : Nat} {s : Nat → Bool} {es : Int → Int → Bool} {b : Nat} (G : Gph n s (fun u v => natE es u v = true)) (hb : b ≠ 0) : cP es b n = 1 → ∃ p : Nat, p < n ∧ fP es b n = (p : Int) ∧ Uni (fun u v => natE es u v = true) p b := fun hc => by
  rcases cP_spec es b n with ⟨h1, _⟩ | ⟨_, p, h2, h3, h4, h5⟩ | ⟨h1, _⟩
  · omega
  · exact ⟨p, h2, h3, hb, h4, fun q hq => h5 q (G.lt q (G.ed q b hq).1) hq⟩
  · omega
theorem uni_cP {n : Nat} {s : Nat → Bool} {es : Int → Int → Bool} {p b : Nat} (G : Gph n s (fun u v => natE es u v = true)) (U : Uni (fun u v => natE es u v = true) p b) : cP es b n = 1 := by
  have hp : p < n := G.lt p (G.ed p b U.e).1
  rcases cP_spec es b n with ⟨_, h2⟩ | ⟨h1, _⟩ | ⟨_, x, y, h2, h3, h4, h5, h6⟩
  · have := h2 p hp
    have h3 : es p b = true := U.e
    rw [h3] at this; cases this
  · exact h1
  · exact absurd ((U.one x h5).trans (U.one y h6).symm) h2
/-- the edges behind the merging of b into p, by the first k blocks -/
def mgC (es : Int → Int → Bool) (b p : Int) : Nat → Int → Int → Bool
  | 0 => dnP es p b
  | c + 1 => if mgC es b p c b c then (if (c : Int) = p then dnP (mgC es b p c) b c else upP (dnP (mgC es b p c) b c) p c) else mgC es b p c
theorem mgC_spec (es : Int → Int → Bool) {b p : Int} (hpb : p ≠ b) (hbb : es b b = false) : ∀ k (x y : Int), 0 ≤ y → mgC es b p k x y = if x = b then (es b y && decide ((k : Int) ≤ y)) else if x = p then ((es p y && decide (y ≠ b)) || (es b y && decide (y < k) && decide (y ≠ p))) else es x y
  | 0, x, y, hy => by
    show dnP es p b x y = _
    unfold dnP
    by_cases e1 : x = b
    · subst e1
      rw [if_neg (fun h => hpb h.1.symm), if_pos rfl]
      have : ((0 : Nat) : Int) ≤ y := by omega
      rw [decide_eq_true this, Bool.and_true]
    · rw [if_neg e1]
      by_cases e2 : x = p
      · subst e2
        rw [if_pos rfl]
        have : ¬ (y < ((0 : Nat) : Int)) := by omega
        by_cases e3 : y = b
        · rw [if_pos ⟨rfl, e3⟩]; simp [e3, this, hbb]
        · rw [if_neg (fun h => e3 h.2), decide_eq_false this, decide_eq_true (show y ≠ b from e3)]; simp
      · rw [if_neg (fun h => e2 h.1), if_neg e2]
  | c + 1, x, y, hy => by
    have ih := fun x y hy => mgC_spec es hpb hbb c x y hy
    have hcur : mgC es b p c b c = es b c := by rw [ih b c (by omega), if_pos rfl]; simp
    show (if mgC es b p c b c then (if (c : Int) = p then dnP (mgC es b p c) b c else upP (dnP (mgC es b p c) b c) p c) else mgC es b p c) x y = _
    rw [hcur]
    cases hbc : es b c with
    | false =>
      simp only [Bool.false_eq_true, if_false]
      rw [ih x y hy]
      by_cases e1 : x = b
      · rw [if_pos e1, if_pos e1]
        by_cases e : y = (c : Int)
        · rw [e, hbc]; rfl
        · have : ((c : Int) ≤ y) ↔ (((c + 1 : Nat) : Int) ≤ y) := by omega
          rw [decide_eq_decide.2 this]
      · rw [if_neg e1, if_neg e1]
        by_cases e2 : x = p
        · rw [if_pos e2, if_pos e2]
          by_cases e : y = (c : Int)
          · rw [e, hbc]; simp
          · have : (y < (c : Int)) ↔ (y < ((c + 1 : Nat) : Int)) := by omega
            rw [decide_eq_decide.2 this]
        · rw [if_neg e2, if_neg e2]
    | true =>
      simp only [if_true]
      have hdn : ∀ x y, 0 ≤ y → dnP (mgC es b p c) b c x y = if x = b then (es b y && decide (((c + 1 : Nat) : Int) ≤ y)) else mgC es b p c x y := fun x y hy => by
        unfold dnP
        by_cases e1 : x = b
        · subst e1
          by_cases e : y = (c : Int)
          · rw [if_pos ⟨rfl, e⟩, if_pos rfl, e]
            have : ¬ (((c + 1 : Nat) : Int) ≤ (c : Int)) := by omega
            rw [decide_eq_false this, Bool.and_false]
          · rw [if_neg (fun h => e h.2), if_pos rfl, ih x y hy, if_pos rfl]
            have : ((c : Int) ≤ y) ↔ (((c + 1 : Nat) : Int) ≤ y) := by omega
            rw [decide_eq_decide.2 this]
        · rw [if_neg (fun h => e1 h.1), if_neg e1]
      by_cases hcp : (c : Int) = p
      · rw [if_pos hcp, hdn x y hy]
        by_cases e1 : x = b
        · rw [if_pos e1, if_pos e1]
        · rw [if_neg e1, if_neg e1, ih x y hy, if_neg e1]
          by_cases e2 : x = p
          · rw [if_pos e2, if_pos e2]
            by_cases e : y = (c : Int)
            · have : y = p := e.trans hcp
              simp [this]
            · have : (y < (c : Int)) ↔ (y < ((c + 1 : Nat) : Int)) := by omega
              rw [decide_eq_decide.2 this]
          · rw [if_neg e2, if_neg e2]
      · rw [if_neg hcp]
        unfold upP
        by_cases e : x = p ∧ y = (c : Int)
        · obtain ⟨e2, e3⟩ := e
          rw [if_pos ⟨e2, e3⟩, if_neg (by rw [e2]; exact hpb), if_pos e2, e3, hbc]
          have : ((c : Int) < ((c + 1 : Nat) : Int)) := by omega
          rw [decide_eq_true this, decide_eq_true (show (c : Int) ≠ p from hcp)]; simp
        · rw [if_neg e, hdn x y hy]
          by_cases e1 : x = b
          · rw [if_pos e1, if_pos e1]
          · rw [if_neg e1, if_neg e1, ih x y hy, if_neg e1]
            by_cases e2 : x = p
            · rw [if_pos e2, if_pos e2]
              have e3 : y ≠ (c : Int) := fun h => e ⟨e2, h⟩
              have : (y < (c : Int)) ↔ (y < ((c + 1 : Nat) : Int)) := by omega
              rw [decide_eq_decide.2 this]
            · rw [if_neg e2, if_neg e2]
theorem mgC_all {n : Nat} {s : Nat → Bool} {es : Int → Int → Bool} {p b : Nat} (G : Gph n s (fun u v => natE es u v = true)) (U : Uni (fun u v => natE es u v = true) p b) (u v : Nat) : natE (mgC es b p n) u v = true ↔ mgE (fun u v => natE es u v = true) p b u v := by
  have ep := G.ed _ _ U.e
  have hbb : es b b = false := by
    rw [← Bool.not_eq_true]
    exact fun h => (G.ed b b h).2.2 rfl
  have hlt : ∀ x y : Nat, es x y = true → y < n := fun x y h => G.lt y (G.ed x y h).2.1
  unfold natE mgE
  rw [mgC_spec es (by have := ep.2.2; omega) hbb n u v (by omega)]
  by_cases e1 : u = b
  · subst e1
    rw [if_pos rfl]
    constructor
    · intro h
      simp only [Bool.and_eq_true, decide_eq_true_eq] at h
      have := hlt u v h.1
      omega
    · rintro (⟨_, h, _⟩ | ⟨h, _⟩)
      · exact absurd rfl h
      · exact absurd h.symm ep.2.2
  · rw [if_neg (by omega)]
    by_cases e2 : u = p
    · subst e2
      rw [if_pos rfl]
      simp only [Bool.or_eq_true, Bool.and_eq_true, decide_eq_true_eq]
      constructor
      · rintro (⟨h1, h2⟩ | ⟨⟨h1, _⟩, h2⟩)
        · exact .inl ⟨h1, e1, fun e => h2 (by rw [e])⟩
        · exact .inr ⟨trivial, h1, fun e => h2 (by rw [e])⟩
      · rintro (⟨h1, _, h2⟩ | ⟨_, h1, h2⟩)
        · exact .inl ⟨h1, fun e => h2 (by omega)⟩
        · have := hlt b v h1
          exact .inr ⟨⟨h1, by omega⟩, fun e => h2 (by omega)⟩
    · rw [if_neg (by omega)]
      constructor
      · intro h
        exact .inl ⟨h, e1, fun e => by subst e; exact e2 (U.one u h)⟩
      · rintro (⟨h, _⟩ | ⟨h, _⟩)
        · exact h
        · exact absurd h e2
end Go.Proofs.Ytcbofikjcgdjmaa
