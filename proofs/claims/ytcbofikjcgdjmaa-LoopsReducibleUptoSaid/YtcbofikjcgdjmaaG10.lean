/- Merging blocks with their only predecessors: it ends in one block just where the graph is reducible. -/
import Derived.Test.YtcbofikjcgdjmaaG6
namespace Go.Proofs.Ytcbofikjcgdjmaa
set_option linter.unusedVariables false
set_option linter.unusedSimpArgs false

inductive AvE (E : Nat → Nat → Prop) (a : Nat) : Nat → Prop
  | zero : a ≠ 0 → AvE E a 0
  | step {p b : Nat} : AvE E a p → E p b → b ≠ a → AvE E a b
inductive RcE (E : Nat → Nat → Prop) : Nat → Prop
  | zero : RcE E 0
  | step {p b : Nat} : RcE E p → E p b → RcE E b
theorem AvE.self {E : Nat → Nat → Prop} {a : Nat} : ¬ AvE E a a := fun h => by
  cases h with
  | zero h => exact h rfl
  | step _ _ h => exact h rfl
theorem AvE.zero_no {E : Nat → Nat → Prop} {t : Nat} : ¬ AvE E 0 t := fun h => by
  induction h with
  | zero h => exact h rfl
  | step _ _ _ ih => exact ih
structure Gph (n : Nat) (s : Nat → Bool) (E : Nat → Nat → Prop) : Prop where
  zero : s 0 = true
  lt : ∀ t, s t = true → t < n
  ed : ∀ u v, E u v → s u = true ∧ s v = true ∧ u ≠ v
  rc : ∀ t, s t = true → RcE E t
/-- every edge is a back edge or leads up -/
def Red1 (E : Nat → Nat → Prop) : Prop := ∃ f : Nat → Int, ∀ u v, E u v → ¬ AvE E v u ∨ f u < f v
def Red2 (s : Nat → Bool) (E : Nat → Nat → Prop) : Prop := ∃ f : Nat → Int, (∀ u v, E u v → ¬ AvE E v u ∨ f u < f v) ∧ ∀ a b, s a = true → s b = true → a ≠ b → ¬ AvE E a b → f a < f b
/-- p is b's only predecessor -/
structure Uni (E : Nat → Nat → Prop) (p b : Nat) : Prop where
  b0 : b ≠ 0
  e : E p b
  one : ∀ q, E q b → q = p
def mgE (E : Nat → Nat → Prop) (p b : Nat) : Nat → Nat → Prop := fun u v => (E u v ∧ u ≠ b ∧ v ≠ b) ∨ (u = p ∧ E b v ∧ v ≠ p)
section
variable {n p b : Nat} {s : Nat → Bool} {E : Nat → Nat → Prop}
theorem mg_av (G : Gph n s E) (U : Uni E p b) {a x : Nat} (ha : a ≠ b) (hx : x ≠ b) : AvE (mgE E p b) a x ↔ AvE E a x := by
  have hpb := (G.ed _ _ U.e).2.2
  constructor
  · intro h
    clear hx
    induction h with
    | zero h => exact .zero h
    | @step u v h1 h2 h3 ih =>
      rcases h2 with h2 | ⟨rfl, h2, h4⟩
      · exact .step ih h2.1 h3
      · exact .step (.step ih U.e (Ne.symm ha)) h2 h3
  · intro h
    have key : ∀ x, AvE E a x → (x ≠ b → AvE (mgE E p b) a x) ∧ (x = b → AvE (mgE E p b) a p) := by
      intro x h
      induction h with
      | zero h => exact ⟨fun _ => .zero h, fun e => absurd e.symm U.b0⟩
      | @step u v h1 h2 h3 ih =>
        refine ⟨fun hv => ?_, fun hv => ?_⟩
        · by_cases hu : u = b
          · subst hu
            by_cases hvp : v = p
            · rw [hvp]; exact ih.2 rfl
            · exact .step (ih.2 rfl) (.inr ⟨rfl, h2, hvp⟩) h3
          · exact .step (ih.1 hu) (.inl ⟨h2, hu, hv⟩) h3
        · subst hv
          have := U.one u h2
          subst this
          exact ih.1 hpb
    exact (key x h).1 hx
theorem uni_dom (U : Uni E p b) : ¬ AvE E p b := fun h => by
  cases h with
  | zero _ => exact U.b0 rfl
  | step h1 h2 _ =>
    have := U.one _ h2
    subst this
    exact AvE.self h1
theorem mg_gph (G : Gph n s E) (U : Uni E p b) : Gph n (fun t => s t && decide (t ≠ b)) (mgE E p b) := by
  have hpb := (G.ed _ _ U.e).2.2
  have key : ∀ x, RcE E x → (x ≠ b → RcE (mgE E p b) x) ∧ (x = b → RcE (mgE E p b) p) := by
    intro x h
    induction h with
    | zero => exact ⟨fun _ => .zero, fun e => absurd e.symm U.b0⟩
    | @step u v h1 h2 ih =>
      refine ⟨fun hv => ?_, fun hv => ?_⟩
      · by_cases hu : u = b
        · subst hu
          by_cases hvp : v = p
          · rw [hvp]; exact ih.2 rfl
          · exact .step (ih.2 rfl) (.inr ⟨rfl, h2, hvp⟩)
        · exact .step (ih.1 hu) (.inl ⟨h2, hu, hv⟩)
      · subst hv
        have := U.one u h2
        subst this
        exact ih.1 hpb
  refine ⟨by rw [G.zero]; simpa using Ne.symm U.b0, fun t ht => ?_, fun u v h => ?_, fun t ht => ?_⟩
  · simp only [Bool.and_eq_true] at ht; exact G.lt t ht.1
  · rcases h with ⟨h1, h2, h3⟩ | ⟨rfl, h1, h2⟩
    · have := G.ed u v h1
      simp [this.1, this.2.1, h2, h3, this.2.2]
    · have e1 := G.ed _ _ U.e
      have e2 := G.ed _ _ h1
      simp [e1.1, hpb, e2.2.1, Ne.symm e2.2.2, Ne.symm h2]
  · simp only [Bool.and_eq_true, decide_eq_true_eq] at ht
    exact (key t (G.rc t ht.1)).1 ht.2
theorem mg_red2 (G : Gph n s E) (U : Uni E p b) (R : Red2 s E) : Red2 (fun t => s t && decide (t ≠ b)) (mgE E p b) := by
  have ep := G.ed _ _ U.e
  obtain ⟨f, h1, h2⟩ := R
  refine ⟨f, fun u v h => ?_, fun a x ha hx hne hd => ?_⟩
  · rcases h with ⟨h3, h4, h5⟩ | ⟨rfl, h3, h4⟩
    · rcases h1 u v h3 with h | h
      · exact .inl fun hav => h ((mg_av G U h5 h4).1 hav)
      · exact .inr h
    · have ev := G.ed _ _ h3
      rcases h1 b v h3 with h | h
      · refine .inl fun hav => h ?_
        exact .step ((mg_av G U (Ne.symm ev.2.2) ep.2.2).1 hav) U.e ev.2.2
      · have := h2 u b ep.1 ep.2.1 ep.2.2 (uni_dom U)
        exact .inr (by omega)
  · simp only [Bool.and_eq_true, decide_eq_true_eq] at ha hx
    exact h2 a x ha.1 hx.1 hne fun h => hd ((mg_av G U ha.2 hx.2).2 h)
theorem mg_red1 (G : Gph n s E) (U : Uni E p b) (R : Red1 (mgE E p b)) : Red1 E := by
  have ep := G.ed _ _ U.e
  obtain ⟨f, h1⟩ := R
  refine ⟨fun x => if x = b then 2 * f p + 1 else 2 * f x, fun u v h => ?_⟩
  have e := G.ed _ _ h
  by_cases hv : v = b
  · subst hv
    have := U.one u h
    subst this
    refine .inr ?_
    simp only [if_neg e.2.2, if_true]
    omega
  · by_cases hu : u = b
    · subst hu
      by_cases hvp : v = p
      · subst hvp
        exact .inl (uni_dom U)
      · rcases h1 p v (.inr ⟨rfl, h, hvp⟩) with h2 | h2
        · refine .inl fun hav => h2 ((mg_av G U hv ep.2.2).2 ?_)
          cases hav with
          | zero _ => exact absurd rfl U.b0
          | step k1 k2 _ =>
            have := U.one _ k2
            subst this
            exact k1
        · refine .inr ?_
          simp only [if_true, if_neg hv]
          omega
    · rcases h1 u v (.inl ⟨h, hu, hv⟩) with h2 | h2
      · exact .inl fun hav => h2 ((mg_av G U hv hu).2 hav)
      · refine .inr ?_
        simp only [if_neg hu, if_neg hv]
        omega
theorem exists_min {P : Nat → Prop} (f : Nat → Int) : ∀ n, (∃ t, t < n ∧ P t) → ∃ t, t < n ∧ P t ∧ ∀ u, u < n → P u → f t ≤ f u
  | 0, h => by obtain ⟨t, ht, _⟩ := h; omega
  | n + 1, h => by
    by_cases h' : ∃ t, t < n ∧ P t
    · obtain ⟨t, h1, h2, h3⟩ := exists_min f n h'
      by_cases hn : P n ∧ f n < f t
      · refine ⟨n, by omega, hn.1, fun u hu hp => ?_⟩
        by_cases e : u = n
        · subst e; exact Int.le_refl _
        · have := h3 u (by omega) hp; omega
      · refine ⟨t, by omega, h2, fun u hu hp => ?_⟩
        by_cases e : u = n
        · subst e
          apply Classical.byContradiction
          intro h; exact hn ⟨hp, by omega⟩
        · exact h3 u (by omega) hp
    · obtain ⟨t, h1, h2⟩ := h
      have : t = n := by
        apply Classical.byContradiction
        intro e; exact h' ⟨t, by omega, h2⟩
      subst this
      refine ⟨t, by omega, h2, fun u hu hp => ?_⟩
      by_cases e : u = t
      · subst e; exact Int.le_refl _
      · exact absurd ⟨u, by omega, hp⟩ h'
/-- where more than one block is left of a reducible graph, one has an only predecessor -/
theorem red_uni (G : Gph n s E) (R : Red2 s E) {t : Nat} (ht : s t = true) (ht0 : t ≠ 0) : ∃ p b, s b = true ∧ Uni E p b := by
  obtain ⟨f, h1, h2⟩ := R
  -- the outermost header by f
  obtain ⟨h, hn, hc, hmax⟩ := exists_min (P := fun h => s h = true ∧ (h = 0 ∨ ∃ p, E p h ∧ ¬ AvE E h p)) (fun t => - f t) n ⟨0, G.lt 0 G.zero, G.zero, .inl rfl⟩
  have hD : ∃ x, x < n ∧ (s x = true ∧ x ≠ h ∧ ¬ AvE E h x) := by
    rcases hc.2 with e | ⟨q, e, d⟩
    · subst e; exact ⟨t, G.lt t ht, ht, ht0, AvE.zero_no⟩
    · have := G.ed _ _ e
      exact ⟨q, G.lt q this.1, this.1, this.2.2, d⟩
  obtain ⟨b, hb, ⟨b1, b2, b3⟩, hmin⟩ := exists_min (P := fun x => s x = true ∧ x ≠ h ∧ ¬ AvE E h x) f n hD
  have hfb := h2 h b hc.1 b1 (Ne.symm b2) b3
  have hb0 : b ≠ 0 := fun e => by
    subst e
    by_cases e' : h = 0
    · exact b2 e'.symm
    · exact b3 (.zero e')
  have hall : ∀ q, E q b → q = h := fun q hq => by
    have e := G.ed _ _ hq
    have hnb : AvE E b q := by
      apply Classical.byContradiction
      intro hd
      have := hmax b hb ⟨b1, .inr ⟨q, hq, hd⟩⟩
      omega
    have hfq : f q < f b := by
      rcases h1 q b hq with k | k
      · exact absurd hnb k
      · exact k
    apply Classical.byContradiction
    intro hne
    by_cases hav : AvE E h q
    · exact b3 (.step hav hq b2)
    · have := hmin q (G.lt q e.1) ⟨e.1, hne, hav⟩
      omega
  have := G.rc b b1
  cases this with
  | zero => exact absurd rfl hb0
  | @step q _ k1 k2 =>
    have := hall q k2
    subst this
    exact ⟨q, b, b1, hb0, k2, hall⟩
end
/-- the graph that the reckoning begins with -/
def E0 (bs : List Bk) : Nat → Nat → Prop := fun u v => 0 ≤ rkN bs u ∧ v ∈ nxN bs u ∧ u ≠ v
section
variable {bs : List Bk} {pv : List (List Int)}
theorem e0_av (hv : validB bs pv = true) {a t : Nat} : AvE (E0 bs) a t ↔ Av (nxN bs) a t := by
  have O := ord_of hv
  constructor
  · intro h
    induction h with
    | zero h => exact .zero h
    | step _ h1 h2 ih => exact .step ih h1.2.1 h2
  · intro h
    induction h with
    | zero h => exact .zero h
    | @step p b k h1 h2 ih =>
      by_cases e : p = b
      · subst e; exact ih
      · exact .step ih ⟨O.rch.2 k.rch, h1, e⟩ h2
theorem e0_gph (hv : validB bs pv = true) : Gph bs.length (fun t => decide (0 ≤ rkN bs t)) (E0 bs) := by
  have O := ord_of hv
  refine ⟨by simp [O.zero], fun t ht => O.lt t (by simpa using ht), fun u v h => ⟨by simpa using h.1, by simpa using O.clo u h.1 v h.2.1, h.2.2⟩, fun t ht => ?_⟩
  have := O.rch.1 (show 0 ≤ rkN bs t by simpa using ht)
  clear ht
  induction this with
  | zero => exact .zero
  | @step y z k h1 ih =>
    by_cases e : y = z
    · subst e; exact ih
    · exact .step ih ⟨O.rch.2 k, h1, e⟩
theorem e0_red2 (hv : validB bs pv = true) (R : Rdc bs) : Red2 (fun t => decide (0 ≤ rkN bs t)) (E0 bs) := by
  have O := ord_of hv
  refine ⟨rkN bs, fun u v h => ?_, fun a b ha hb hne hd => ?_⟩
  · by_cases hle : rkN bs v ≤ rkN bs u
    · exact .inl fun hav => R u v h.1 h.2.1 hle ((e0_av hv).1 hav)
    · exact .inr (by omega)
  · have hb : 0 ≤ rkN bs b := by simpa using hb
    have := O.dom_le hb fun h => hd ((e0_av hv).2 h)
    rcases Int.lt_or_eq_of_le this.2 with e | e
    · exact e
    · exact absurd (O.inj this.1 e) hne
theorem e0_red1 (hv : validB bs pv = true) (R : Red1 (E0 bs)) : Rdc bs := by
  have O := ord_of hv
  obtain ⟨f, h1⟩ := R
  intro u t hu ht hle hav
  have hne : u ≠ t := fun e => by subst e; exact Av.self hav
  have hft : f u < f t := by
    rcases h1 u t ⟨hu, ht, hne⟩ with k | k
    · exact absurd ((e0_av hv).2 hav) k
    · exact k
  have key : ∀ z, FW (nxN bs) (rkN bs) t z → 0 ≤ rkN bs z ∧ f t ≤ f z := by
    intro z hz
    induction hz with
    | refl => exact ⟨O.clo u hu t ht, Int.le_refl _⟩
    | @step y z k1 k2 k3 ih =>
      refine ⟨by omega, ?_⟩
      rcases h1 y z ⟨ih.1, k2, fun e => by subst e; omega⟩ with k | k
      · exfalso
        have := O.dom_le ih.1 fun h => k ((e0_av hv).2 h)
        omega
      · omega
  have := (key u (O.ret u hu t ht hle)).2
  omega
end
def cntS (n : Nat) (s : Nat → Bool) : Nat := ((List.range n).filter s).length
/-- where the reckoning stands -/
structure RI (bs : List Bk) (s : Nat → Bool) (E : Nat → Nat → Bool) (al : Nat) : Prop where
  g : Gph bs.length s (fun u v => E u v = true)
  al : al = cntS bs.length s
  fw : Rdc bs → Red2 s (fun u v => E u v = true)
  bw : Red1 (fun u v => E u v = true) → Rdc bs
theorem RI.merge {bs : List Bk} {s : Nat → Bool} {E E' : Nat → Nat → Bool} {al p b : Nat} (h : RI bs s E al) (U : Uni (fun u v => E u v = true) p b) (hE : ∀ u v, E' u v = true ↔ mgE (fun u v => E u v = true) p b u v) :
    RI bs (fun t => s t && decide (t ≠ b)) E' (al - 1) ∧ 1 ≤ al := by
  have e : (fun u v => E' u v = true) = mgE (fun u v => E u v = true) p b := by funext u v; exact propext (hE u v)
  have hb := (h.g.ed _ _ U.e).2.1
  have hc : cntS bs.length s = cntS bs.length (fun t => s t && decide (t ≠ b)) + 1 := by
    unfold cntS
    refine filter_len_split (h.g.lt b hb) (by simp) fun j hj => ?_
    by_cases ej : j = b
    · subst ej; simp [hb]
    · simp [ej]
  refine ⟨⟨by rw [e]; exact mg_gph h.g U, by rw [h.al, hc]; omega, fun R => by rw [e]; exact mg_red2 h.g U (h.fw R), fun R => ?_⟩, by rw [h.al, hc]; omega⟩
  rw [e] at R
  exact h.bw (mg_red1 h.g U R)
theorem RI.one {bs : List Bk} {s : Nat → Bool} {E : Nat → Nat → Bool} {al : Nat} (h : RI bs s E al) (h1 : al ≤ 1) : Rdc bs := by
  refine h.bw ⟨fun _ => 0, fun u v he => ?_⟩
  exfalso
  have e := h.g.ed _ _ he
  have hz : ∀ t, s t = true → t = 0 := fun t ht => by
    apply Classical.byContradiction
    intro hne
    have h0 : cntS bs.length s = cntS bs.length (fun x => s x && decide (x ≠ t)) + 1 := by
      unfold cntS
      refine filter_len_split (h.g.lt t ht) (by simp) fun j hj => ?_
      by_cases ej : j = t
      · subst ej; simp [ht]
      · simp [ej]
    have : 0 < cntS bs.length (fun x => s x && decide (x ≠ t)) := by
      unfold cntS
      exact List.length_pos_of_mem (List.mem_filter.2 ⟨List.mem_range.2 (h.g.lt 0 h.g.zero), by simp [h.g.zero, Ne.symm hne]⟩)
    have := h.al
    omega
  exact e.2.2 (by rw [hz u e.1, hz v e.2.1])
/-- where more than one block is left of a reducible graph, one can be merged -/
theorem RI.more {bs : List Bk} {s : Nat → Bool} {E : Nat → Nat → Bool} {al : Nat} (h : RI bs s E al) (R : Rdc bs) (h1 : 1 < al) : ∃ p b, s b = true ∧ Uni (fun u v => E u v = true) p b := by
  have : ∃ t, s t = true ∧ t ≠ 0 := by
    apply Classical.byContradiction
    intro hno
    have : cntS bs.length s ≤ 1 := by
      unfold cntS
      have hle : ((List.range bs.length).filter s).length ≤ ((List.range bs.length).filter fun t => decide (t = 0)).length := filter_len_le fun t _ ht => by
        rw [decide_eq_true_eq]
        apply Classical.byContradiction
        intro e; exact hno ⟨t, ht, e⟩
      have h2 : ∀ n, ((List.range n).filter fun t => decide (t = 0)).length ≤ 1 := by
        intro n
        induction n with
        | zero => simp
        | succ n ih =>
          rw [List.range_succ, List.filter_append, List.length_append]
          by_cases e : n = 0
          · subst e; simp
          · have : ([n].filter fun t => decide (t = 0)).length = 0 := by simp [e]
            omega
      exact Nat.le_trans hle (h2 _)
    have := h.al
    omega
  obtain ⟨t, ht, ht0⟩ := this
  exact red_uni h.g (h.fw R) ht ht0
end Go.Proofs.Ytcbofikjcgdjmaa
