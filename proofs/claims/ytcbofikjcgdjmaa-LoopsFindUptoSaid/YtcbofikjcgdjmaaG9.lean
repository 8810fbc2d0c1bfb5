/- Every cycle has a back edge: what LoopsCut reckons. -/
import Derived.Test.YtcbofikjcgdjmaaD1
import Derived.Test.YtcbofikjcgdjmaaD3
namespace Go.Proofs.Ytcbofikjcgdjmaa
set_option linter.unusedVariables false
set_option linter.unusedSimpArgs false

/-- the back edges of one loop, by its first j latches, beside s -/
def bkJ (s : Int → Int → Bool) (la : List Int) (h : Int) : Nat → Int → Int → Bool
  | 0 => s
  | j + 1 => upP (bkJ s la h j) (la.getD j 0) h
/-- those of the first k loops -/
def bkL (ls : List Lp) : Nat → Int → Int → Bool
  | 0 => fun _ _ => false
  | k + 1 => bkJ (bkL ls k) (nthL ls k).la (nthL ls k).hd (nthL ls k).la.length
theorem bkJ_iff (s : Int → Int → Bool) (la : List Int) (h x y : Int) : ∀ j, bkJ s la h j x y = true ↔ s x y = true ∨ (y = h ∧ ∃ i, i < j ∧ la.getD i 0 = x)
  | 0 => by simp [bkJ]
  | j + 1 => by
    show upP (bkJ s la h j) (la.getD j 0) h x y = true ↔ _
    have ih := bkJ_iff s la h x y j
    unfold upP
    by_cases e : x = la.getD j 0 ∧ y = h
    · rw [if_pos e]
      simp only [true_iff]
      exact .inr ⟨e.2, j, by omega, e.1.symm⟩
    · rw [if_neg e, ih]
      constructor
      · rintro (h1 | ⟨h1, i, h2, h3⟩)
        · exact .inl h1
        · exact .inr ⟨h1, i, by omega, h3⟩
      · rintro (h1 | ⟨h1, i, h2, h3⟩)
        · exact .inl h1
        · refine .inr ⟨h1, i, ?_, h3⟩
          by_cases e' : i = j
          · subst e'; exact absurd ⟨h3.symm, h1⟩ e
          · omega
theorem getD_of_memI {l : List Int} {t : Int} (h : t ∈ l) : ∃ i, i < l.length ∧ l.getD i 0 = t := by
  obtain ⟨i, hi, e⟩ := List.mem_iff_getElem.1 h
  exact ⟨i, hi, by rw [List.getD_eq_getElem?_getD, List.getElem?_eq_getElem hi]; exact e⟩
theorem bkL_iff (ls : List Lp) (x y : Int) : ∀ k, bkL ls k x y = true ↔ ∃ i, i < k ∧ y = (nthL ls i).hd ∧ x ∈ (nthL ls i).la
  | 0 => by simp [bkL]
  | k + 1 => by
    show bkJ (bkL ls k) (nthL ls k).la (nthL ls k).hd (nthL ls k).la.length x y = true ↔ _
    rw [bkJ_iff, bkL_iff ls x y k]
    constructor
    · rintro (⟨i, h1, h2⟩ | ⟨h1, i, h2, h3⟩)
      · exact ⟨i, by omega, h2⟩
      · exact ⟨k, by omega, h1, by rw [← h3]; exact getD_mem h2⟩
    · rintro ⟨i, h1, h2, h3⟩
      by_cases e : i = k
      · subst e
        obtain ⟨j, hj, e⟩ := getD_of_memI h3
        exact .inr ⟨h2, j, hj, e⟩
      · exact .inl ⟨i, by omega, h2, h3⟩
/-- whether block b has no predecessor left among the first k blocks -/
def frK (nb : Nat → Nat → Bool) (rea : Nat → Bool) (bk : Nat → Nat → Bool) (s : Nat → Bool) (b : Nat) : Nat → Bool
  | 0 => true
  | a + 1 => if !s a && rea a && nb a b && !bk a b then false else frK nb rea bk s b a
def gnI (nb : Nat → Nat → Bool) (rea : Nat → Bool) (bk : Nat → Nat → Bool) (n : Nat) (s : Nat → Bool) : Nat → Nat → Bool
  | 0 => s
  | b + 1 => if frK nb rea bk (gnI nb rea bk n s b) b n then upd (gnI nb rea bk n s b) b else gnI nb rea bk n s b
def gnR (nb : Nat → Nat → Bool) (rea : Nat → Bool) (bk : Nat → Nat → Bool) (n : Nat) : Nat → Nat → Bool
  | 0 => fun _ => false
  | r + 1 => gnI nb rea bk n (gnR nb rea bk n r) n
section
variable {nb : Nat → Nat → Bool} {rea : Nat → Bool} {bk : Nat → Nat → Bool} {n : Nat}
theorem frK_true {s : Nat → Bool} {b : Nat} (h : ∀ a, rea a = true → nb a b = true → bk a b = false → s a = true) : ∀ k, frK nb rea bk s b k = true
  | 0 => rfl
  | a + 1 => by
    show (if !s a && rea a && nb a b && !bk a b then false else frK nb rea bk s b a) = true
    rw [if_neg, frK_true h a]
    intro hc
    simp only [Bool.and_eq_true, Bool.not_eq_true'] at hc
    have := h a hc.1.1.2 hc.1.2 hc.2
    rw [this] at hc
    cases hc.1.1.1
theorem gnI_le {s : Nat → Bool} {t : Nat} (h : s t = true) : ∀ i, gnI nb rea bk n s i t = true
  | 0 => h
  | i + 1 => by
    show (if _ then upd (gnI nb rea bk n s i) i else gnI nb rea bk n s i) t = true
    split
    · exact upd_le _ _ _ (gnI_le h i)
    · exact gnI_le h i
theorem gnI_get {s : Nat → Bool} {b : Nat} (h : ∀ a, rea a = true → nb a b = true → bk a b = false → s a = true) : ∀ i, b < i → gnI nb rea bk n s i b = true
  | 0, hb => by omega
  | i + 1, hb => by
    show (if frK nb rea bk (gnI nb rea bk n s i) i n then upd (gnI nb rea bk n s i) i else gnI nb rea bk n s i) b = true
    by_cases e : b = i
    · subst e
      rw [if_pos (frK_true (fun a h1 h2 h3 => gnI_le (h a h1 h2 h3) b) n)]
      simp [upd]
    · split
      · exact upd_le _ _ _ (gnI_get h i (by omega))
      · exact gnI_get h i (by omega)
theorem gnR_all {rk : Nat → Int} (hr : ∀ t, rea t = true → 0 ≤ rk t ∧ t < n) (hup : ∀ a b, rea a = true → nb a b = true → bk a b = false → rk a < rk b) : ∀ (r t : Nat), rea t = true → rk t < (r : Int) → gnR nb rea bk n r t = true
  | 0, t, ht, hlt => by have := (hr t ht).1; omega
  | r + 1, t, ht, hlt => gnI_get (fun a h1 h2 h3 => gnR_all hr hup r a h1 (by have := hup a t h1 h2 h3; omega)) n (hr t ht).2
end
/-- what LoopsCut asks -/
structure CutF (bs : List Bk) (ls : List Lp) : Prop where
  gone : ∀ t, t < bs.length → 0 ≤ rkN bs t → gnR (fun a b => (nthB bs a).nx.contains (b : Int)) (fun t => decide (0 ≤ rkN bs t)) (fun a b => bkL ls ls.length a b) bs.length bs.length t = true
  back : ∀ x y, bkL ls ls.length x y = true → ∃ a t : Nat, x = (a : Int) ∧ y = (t : Int) ∧ a < bs.length ∧ t < bs.length ∧ (nthB bs a).nx.contains (t : Int) = true ∧ 0 ≤ rkN bs a ∧ 0 ≤ rkN bs t
theorem cutF_of {bs : List Bk} {pv : List (List Int)} {ls : List Lp} {H : Nat → Nat} (hv : validB bs pv = true) (Rd : Rdc bs) (L : LF bs ls H) : CutF bs ls := by
  have O := ord_of hv
  refine ⟨fun t ht h0 => ?_, fun x y h => ?_⟩
  · refine gnR_all (rk := rkN bs) (fun t h => ?_) (fun a b h1 h2 h3 => ?_) _ t (by simpa using h0) (O.top t)
    · have : 0 ≤ rkN bs t := by simpa using h
      exact ⟨this, O.lt t this⟩
    · have ha : 0 ≤ rkN bs a := by simpa using h1
      have hm : (b : Int) ∈ (nthB bs a).nx := by simpa using h2
      have hmn := (mem_nxN hv (O.lt a ha)).2 hm
      apply Classical.byContradiction
      intro hle
      have hd := Rd a b ha hmn (by omega)
      have hlat : Lat (nxN bs) b a := ⟨O.rch.1 ha, hmn, hd⟩
      obtain ⟨i, hi, e⟩ := L.all b ⟨a, hlat⟩
      have : bkL ls ls.length a b = true := (bkL_iff ls a b _).2 ⟨i, hi, by rw [L.hd i hi, e], (L.memLa hv Rd hi _).2 ⟨a, rfl, by rw [e]; exact hlat⟩⟩
      rw [this] at h3
      cases h3
  · obtain ⟨i, hi, e, hm⟩ := (bkL_iff ls x y _).1 h
    obtain ⟨a, rfl, h1, h2, h3⟩ := (L.memLa hv Rd hi x).1 hm
    have ha := O.rch.2 h1
    have ht := O.clo a ha _ h2
    exact ⟨a, H i, rfl, by rw [e, L.hd i hi], O.lt a ha, O.lt _ ht, by rw [List.contains_iff_mem]; exact (mem_nxN hv (O.lt a ha)).1 h2, ha, ht⟩
end Go.Proofs.Ytcbofikjcgdjmaa
