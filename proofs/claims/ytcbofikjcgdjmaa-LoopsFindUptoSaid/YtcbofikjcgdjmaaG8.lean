/- A graph with one edge more, from a block to one of its dominators. -/
import Derived.Test.YtcbofikjcgdjmaaC4
import Derived.Test.YtcbofikjcgdjmaaB22
namespace Go.Proofs.Ytcbofikjcgdjmaa
set_option linter.unusedVariables false
set_option linter.unusedSimpArgs false

theorem nthB_over {bs : List Bk} {j : Nat} (h : bs.length ≤ j) : (nthB bs j).nx = [] := by
  rw [nthB, List.getD_eq_getElem?_getD, List.getElem?_eq_none h]; rfl
/-- a graph built from its successors is valid -/
theorem bsOf_valid {xss : List (List Int)} {n : Nat} (hn : xss.length = n) (h0 : n ≠ 0) (h2 : ∀ j, j < n → (nthR xss j).length ≤ 2) (hnd : ∀ j, j < n → (nthR xss j).Nodup) (hin : ∀ j, j < n → ∀ t, t ∈ nthR xss j → 0 ≤ t ∧ t < n) :
    validB (bsOf xss n) (prevL (bsOf xss n)) = true := by
  have hend : ∀ k, k ≤ n → endK (bsOf xss n) k = (k : Int) := fun k hk => by
    cases k with
    | zero => rfl
    | succ k => rw [endK, bsOf_at xss (by omega)]; simp
  have hok : ∀ k, k ≤ n → okB (bsOf xss n) n k = true := by
    intro k
    induction k with
    | zero => intro _; rfl
    | succ k ih =>
      intro hk
      rw [okB, ih (by omega), hend k (by omega), bsOf_at xss (by omega), Bool.true_and, Bool.and_eq_true]
      refine ⟨?_, ?_⟩
      · have d := hnd k (by omega)
        have l2 := h2 k (by omega)
        revert d l2
        generalize nthR xss k = l
        intro d l2
        unfold blkB
        simp only [Bool.not_eq_true', Bool.or_eq_false_iff, decide_eq_false_iff_not, Bool.and_eq_false_iff]
        refine ⟨⟨⟨by omega, by omega⟩, by omega⟩, ?_⟩
        by_cases e : l.length = 2
        · refine .inr fun h => ?_
          match l, e with
          | [x, y], _ =>
            simp at h d
            exact d h
        · exact .inl e
      · rw [List.all_eq_true]
        intro t ht
        have := hin k (by omega) t ht
        exact inB_iff.2 this
  unfold validB
  rw [bsOf_length, hok n (Nat.le_refl _)]
  simp [h0, prevL, bsOf_length]

/-- the successors with the edge a → b besides -/
def moreL (bs : List Bk) (a b : Nat) : List (List Int) := (nxs bs bs.length).set a ((nthB bs a).nx ++ [(b : Int)])
theorem moreL_length (bs : List Bk) (a b : Nat) : (moreL bs a b).length = bs.length := by simp [moreL, nxs_length]
theorem moreL_at {bs : List Bk} {a b j : Nat} (ha : a < bs.length) (hj : j < bs.length) : nthR (moreL bs a b) j = if j = a then (nthB bs a).nx ++ [(b : Int)] else (nthB bs j).nx := by
  rw [nthR, moreL, List.getD_eq_getElem?_getD, List.getElem?_set]
  by_cases e : a = j
  · subst e
    simp [nxs_length, ha]
  · have e' : ¬ j = a := fun h => e h.symm
    rw [if_neg e, if_neg e', ← List.getD_eq_getElem?_getD]
    exact nxs_at bs hj
/-- what is asked of the new edge -/
structure NewE (bs : List Bk) (a b : Nat) : Prop where
  ra : 0 ≤ rkN bs a
  hb : b < bs.length
  dom : ¬ Av (nxN bs) b a
  new : (b : Int) ∉ (nthB bs a).nx
  one : (nthB bs a).nx.length ≤ 1
section
variable {bs : List Bk} {pv : List (List Int)} {a b : Nat}
theorem more_valid (hv : validB bs pv = true) (E : NewE bs a b) : validB (bsOf (moreL bs a b) bs.length) (prevL (bsOf (moreL bs a b) bs.length)) = true := by
  have O := ord_of hv
  have ha := O.lt a E.ra
  refine bsOf_valid (moreL_length _ _ _) (validB_okB hv).1 (fun j hj => ?_) (fun j hj => ?_) (fun j hj t ht => ?_)
  · rw [moreL_at ha hj]
    split
    · have := E.one; simp; omega
    · exact valid_nx hv j hj
  · rw [moreL_at ha hj]
    split
    · rw [List.nodup_append]
      refine ⟨valid_nodup hv ha, by simp, fun x hx y hy e => ?_⟩
      rw [List.mem_singleton] at hy
      subst e hy
      exact E.new hx
    · exact valid_nodup hv hj
  · rw [moreL_at ha hj] at ht
    split at ht
    · rcases List.mem_append.1 ht with h | h
      · exact nx_nonneg hv ha h
      · rw [List.mem_singleton] at h
        have := E.hb
        omega
    · exact nx_nonneg hv hj ht
theorem more_nx (hv : validB bs pv = true) (E : NewE bs a b) (j t : Nat) : t ∈ nxN (bsOf (moreL bs a b) bs.length) j ↔ t ∈ nxN bs j ∨ (j = a ∧ t = b) := by
  have O := ord_of hv
  have ha := O.lt a E.ra
  by_cases hj : j < bs.length
  · rw [mem_nxN (more_valid hv E) (by rw [bsOf_length]; exact hj), bsOf_at _ hj, mem_nxN hv hj]
    dsimp only
    rw [moreL_at ha hj]
    by_cases e : j = a
    · subst e
      rw [if_pos rfl, List.mem_append, List.mem_singleton]
      constructor
      · rintro (h | h)
        · exact .inl h
        · exact .inr ⟨rfl, by omega⟩
      · rintro (h | h)
        · exact .inl h
        · exact .inr (by omega)
    · rw [if_neg e]
      simp [e]
  · have e1 : nxN (bsOf (moreL bs a b) bs.length) j = [] := by rw [nxN, nthB_over (by rw [bsOf_length]; omega)]; rfl
    have e2 : nxN bs j = [] := by rw [nxN, nthB_over (by omega)]; rfl
    rw [e1, e2]
    have : j ≠ a := by omega
    simp [this]
theorem more_rch (hv : validB bs pv = true) (E : NewE bs a b) (t : Nat) : Rch (nxN (bsOf (moreL bs a b) bs.length)) t ↔ Rch (nxN bs) t := by
  have O := ord_of hv
  constructor
  · intro h
    induction h with
    | zero => exact .zero
    | step _ h2 ih =>
      rcases (more_nx hv E _ _).1 h2 with h | ⟨h, h'⟩
      · exact .step ih h
      · subst h h'
        exact O.rch.1 (O.dom_le E.ra E.dom).1
  · intro h
    induction h with
    | zero => exact .zero
    | step _ h2 ih => exact .step ih ((more_nx hv E _ _).2 (.inl h2))
theorem more_av (hv : validB bs pv = true) (E : NewE bs a b) (c t : Nat) : Av (nxN (bsOf (moreL bs a b) bs.length)) c t ↔ Av (nxN bs) c t := by
  constructor
  · intro h
    induction h with
    | zero h => exact .zero h
    | step _ h2 h3 ih =>
      rcases (more_nx hv E _ _).1 h2 with h | ⟨h, h'⟩
      · exact .step ih h h3
      · subst h h'
        exact ih.of_dom E.dom
  · intro h
    induction h with
    | zero h => exact .zero h
    | step _ h2 h3 ih => exact .step ih ((more_nx hv E _ _).2 (.inl h2)) h3
theorem more_rdc (hv : validB bs pv = true) (R : Rdc bs) (E : NewE bs a b) : Rdc (bsOf (moreL bs a b) bs.length) := by
  have O := ord_of hv
  have O' := ord_of (more_valid hv E)
  intro u t hu ht hle hav
  -- an edge that is no back edge leads up in the old order
  have up : ∀ y z, Rch (nxN bs) y → z ∈ nxN (bsOf (moreL bs a b) bs.length) y → Av (nxN bs) z y → rkN bs y < rkN bs z := fun y z hy hz hyz => by
    rcases (more_nx hv E _ _).1 hz with h | ⟨h, h'⟩
    · apply Classical.byContradiction
      intro hn
      exact R y z (O.rch.2 hy) h (by omega) hyz
    · subst h h'
      exact absurd hyz E.dom
  have hru := (more_rch hv E u).1 (O'.rch.1 hu)
  have hlt := up u t hru ht ((more_av hv E t u).1 hav)
  have hf := O'.ret u hu t ht hle
  have hrt := (more_rch hv E t).1 (O'.rch.1 (O'.clo u hu t ht))
  have key : ∀ z, FW (nxN (bsOf (moreL bs a b) bs.length)) (rkN (bsOf (moreL bs a b) bs.length)) t z → Rch (nxN bs) z ∧ rkN bs t ≤ rkN bs z := by
    intro z hz
    induction hz with
    | refl => exact ⟨hrt, Int.le_refl _⟩
    | @step y z h1 h2 h3 ih =>
      have hry : 0 ≤ rkN (bsOf (moreL bs a b) bs.length) y := O'.rch.2 ((more_rch hv E y).2 ih.1)
      have hzz : Av (nxN bs) z y := by
        apply Classical.byContradiction
        intro hn
        have := O'.dom_le hry (fun h => hn ((more_av hv E z y).1 h))
        omega
      have := up y z ih.1 h2 hzz
      refine ⟨?_, by omega⟩
      exact (more_rch hv E z).1 (.step ((more_rch hv E y).2 ih.1) h2)
  have := (key u hf).2
  omega
theorem more_lat (hv : validB bs pv = true) (E : NewE bs a b) (h u : Nat) : Lat (nxN (bsOf (moreL bs a b) bs.length)) h u ↔ Lat (nxN bs) h u ∨ (h = b ∧ u = a) := by
  have O := ord_of hv
  unfold Lat
  rw [more_rch hv E, more_av hv E, more_nx hv E]
  constructor
  · rintro ⟨h1, h2 | h2, h3⟩
    · exact .inl ⟨h1, h2, h3⟩
    · exact .inr ⟨h2.2, h2.1⟩
  · rintro (h1 | ⟨h1, h2⟩)
    · exact ⟨h1.1, .inl h1.2.1, h1.2.2⟩
    · subst h1 h2
      exact ⟨O.rch.1 E.ra, .inr ⟨rfl, rfl⟩, E.dom⟩
/-- what LoopsSections asks of the two lists of loops -/
structure SecF (ls ks : List Lp) (a b : Nat) : Prop where
  nat : ∀ i, i < ls.length → ∃ h : Nat, (nthL ls i).hd = (h : Int) ∧ h < 1048576
  natk : ∀ j, j < ks.length → ∃ h : Nat, (nthL ks j).hd = (h : Int) ∧ h < 1048576
  inj : ∀ i j, i < ks.length → j < ks.length → (nthL ks i).hd = (nthL ks j).hd → i = j
  old : ∀ j, j < ks.length → (nthL ks j).hd = (b : Int) ∨ ∃ i, i < ls.length ∧ (nthL ls i).hd = (nthL ks j).hd
  lat : ∀ j, j < ks.length → (nthL ks j).hd = (b : Int) → (nthL ks j).la.contains (a : Int) = true
  all : ∀ i, i < ls.length → ∃ j, j < ks.length ∧ (nthL ks j).hd = (nthL ls i).hd
  one : ∃ j, j < ks.length ∧ (nthL ks j).hd = (b : Int)
theorem secF_of (hv : validB bs pv = true) (R : Rdc bs) (hn : bs.length ≤ 14) (E : NewE bs a b) : SecF (lsF bs pv) (lsF (bsOf (moreL bs a b) bs.length) (prevL (bsOf (moreL bs a b) bs.length))) a b := by
  have O := ord_of hv
  have hv' := more_valid hv E
  have O' := ord_of hv'
  have R' := more_rdc hv R E
  have L := lf_of hv R
  have K := lf_of hv' R'
  have hd1 : ∀ h, Hd (nxN (bsOf (moreL bs a b) bs.length)) h ↔ Hd (nxN bs) h ∨ h = b := fun h => by
    constructor
    · rintro ⟨u, hu⟩
      rcases (more_lat hv E h u).1 hu with h1 | h1
      · exact .inl ⟨u, h1⟩
      · exact .inr h1.1
    · rintro (⟨u, hu⟩ | e)
      · exact ⟨u, (more_lat hv E h u).2 (.inl hu)⟩
      · exact ⟨a, (more_lat hv E h a).2 (.inr ⟨e, rfl⟩)⟩
  refine ⟨fun i hi => ⟨_, L.hd i hi, ?_⟩, fun j hj => ⟨_, K.hd j hj, ?_⟩, fun i j hi hj e => K.inj i j hi hj (by have := K.hd i hi; have := K.hd j hj; omega), fun j hj => ?_, fun j hj e => ?_, fun i hi => ?_, ?_⟩
  · have := O.lt _ (O.rch.2 (L.is i hi).rch); omega
  · have := O'.lt _ (O'.rch.2 (K.is j hj).rch); rw [bsOf_length] at this; omega
  · rcases (hd1 _).1 (K.is j hj) with h | h
    · obtain ⟨i, hi, e⟩ := L.all _ h
      exact .inr ⟨i, hi, by rw [L.hd i hi, K.hd j hj, e]⟩
    · exact .inl (by rw [K.hd j hj, h])
  · rw [List.contains_iff_mem, K.memLa hv' R' hj]
    refine ⟨a, rfl, (more_lat hv E _ a).2 (.inr ⟨?_, rfl⟩)⟩
    have := K.hd j hj
    omega
  · obtain ⟨j, hj, e⟩ := K.all _ ((hd1 _).2 (.inl (L.is i hi)))
    exact ⟨j, hj, by rw [K.hd j hj, L.hd i hi, e]⟩
  · obtain ⟨j, hj, e⟩ := K.all b ((hd1 b).2 (.inr rfl))
    exact ⟨j, hj, by rw [K.hd j hj, e]⟩
end
end Go.Proofs.Ytcbofikjcgdjmaa
