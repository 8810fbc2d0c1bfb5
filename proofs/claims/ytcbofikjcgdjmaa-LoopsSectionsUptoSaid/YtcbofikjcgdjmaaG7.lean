/- What LoopsWalks asks of one step of a path. -/
import Derived.Test.YtcbofikjcgdjmaaC4
namespace Go.Proofs.Ytcbofikjcgdjmaa
set_option linter.unusedVariables false
set_option linter.unusedSimpArgs false

/-- how often x stands among the first q -/
def cE (es : List (Int × Int)) (x : Int × Int) : Nat → Nat
  | 0 => 0
  | q + 1 => cE es x q + if nthE es q = x then 1 else 0
theorem cE_eq (es : List (Int × Int)) (x : Int × Int) : ∀ q, q ≤ es.length → cE es x q = ((es.take q).filter fun e => decide (e = x)).length
  | 0, _ => rfl
  | q + 1, h => by
    rw [cE, cE_eq es x q (by omega), take_succ_nthE (by omega), List.filter_append, List.length_append, List.filter_cons]
    by_cases e : nthE es q = x <;> simp [e]
theorem nd_count {es : List (Int × Int)} (h : es.Nodup) (x : Int × Int) : (es.filter fun e => decide (e = x)).length = if x ∈ es then 1 else 0 := by
  induction es with
  | nil => rfl
  | cons y ys ih =>
    rw [List.nodup_cons] at h
    rw [List.filter_cons]
    by_cases e : y = x
    · subst e
      have := ih h.2
      rw [if_neg h.1] at this
      rw [if_pos (by simp), if_pos (by simp), List.length_cons, this]
    · have e' : ¬ x = y := fun h => e h.symm
      rw [if_neg (by simpa using e), ih h.2]
      simp only [List.mem_cons, e', false_or]
theorem edgK_nodup {bs : List Bk} {pv : List (List Int)} (hv : validB bs pv = true) : ∀ k, k ≤ bs.length → (edgK bs k).Nodup
  | 0, _ => List.nodup_nil
  | k + 1, h => by
    rw [edgK, List.nodup_append]
    refine ⟨edgK_nodup hv k (by omega), ?_, fun a ha b hb e => ?_⟩
    · have := valid_nodup hv (j := k) (by omega)
      rw [List.Nodup, List.pairwise_map]
      exact this.imp fun h e => h (by simpa using e)
    · subst e
      obtain ⟨j, hj, h1, _⟩ := mem_edgK.1 ha
      rw [List.mem_map] at hb
      obtain ⟨t, _, rfl⟩ := hb
      dsimp only at h1
      omega
theorem cE_one (es : List (Int × Int)) (h : es.Nodup) (x : Int × Int) : cE es x es.length = if x ∈ es then 1 else 0 := by
  rw [cE_eq es x _ (Nat.le_refl _), List.take_length, nd_count h]
structure StepF (bs : List Bk) (ls : List Lp) (b t : Nat) : Prop where
  ge : 0 ≤ rkN bs t
  lat : ∀ i, i < ls.length → (nthL ls i).hd = (t : Int) → (nthL ls i).la.contains (b : Int) = (nthL ls i).bl.contains (b : Int)
  cnt : ∀ i, i < ls.length → (nthL ls i).hd = (t : Int) → cE ((edgK bs bs.length).filter fun q => entP (nthL ls i) q.1 q.2) ((b : Int), (t : Int)) ((edgK bs bs.length).filter fun q => entP (nthL ls i) q.1 q.2).length = if (nthL ls i).bl.contains (b : Int) then 0 else 1
  back : (∀ i, i < ls.length → (nthL ls i).hd = (t : Int) → (nthL ls i).la.contains (b : Int) = false) → rkN bs b < rkN bs t
theorem stepF_of {bs : List Bk} {pv : List (List Int)} {ls : List Lp} {H : Nat → Nat} (hv : validB bs pv = true) (Rd : Rdc bs) (L : LF bs ls H) {R : Nat → Int} (hR : ∀ a b : Nat, a < bs.length → b < bs.length → (domB ((List.range bs.length).map R) a b = true ↔ Dm (nxN bs) a b)) {b t : Nat} (hb : 0 ≤ rkN bs b) (ht : (t : Int) ∈ (nthB bs b).nx) : StepF bs ls b t := by
  have O := ord_of hv
  have hl := O.lt b hb
  have htn := (mem_nxN hv hl).2 ht
  have ht0 := O.clo b hb t htn
  refine ⟨ht0, fun i hi e => ?_, fun i hi e => ?_, fun hno => ?_⟩
  · exact (hdF_of hv Rd L hR hi).lat b hl ((ord_contains hv b).2 hb) (by rw [e]; exact ht)
  · have hnd : ((edgK bs bs.length).filter fun q => entP (nthL ls i) q.1 q.2).Nodup := (edgK_nodup hv _ (Nat.le_refl _)).sublist List.filter_sublist
    rw [cE_one _ hnd]
    have hm : ((b : Int), (t : Int)) ∈ edgK bs bs.length := mem_edgK.2 ⟨b, hl, rfl, ht⟩
    cases hc : (nthL ls i).bl.contains (b : Int) with
    | true =>
      rw [if_neg (fun h => by
        have := (List.mem_filter.1 h).2
        unfold entP at this
        rw [Bool.and_eq_true] at this
        have := this.2
        simp only [hc] at this
        cases this), if_pos rfl]
    | false =>
      rw [if_pos (List.mem_filter.2 ⟨hm, by unfold entP; dsimp only; rw [e, hc]; simp⟩), if_neg (by simp)]
  · apply Classical.byContradiction
    intro hle
    have hd := Rd b t hb htn (by omega)
    have hlat : Lat (nxN bs) t b := ⟨O.rch.1 hb, htn, hd⟩
    obtain ⟨i, hi, e⟩ := L.all t ⟨b, hlat⟩
    have := hno i hi (by rw [L.hd i hi, e])
    rw [← Bool.not_eq_true, List.contains_iff_mem] at this
    exact this ((L.memLa hv Rd hi _).2 ⟨b, rfl, by rw [e]; exact hlat⟩)
end Go.Proofs.Ytcbofikjcgdjmaa
