/- Dominators and natural loops, without a program. -/
import Derived.Test.YtcbofikjcgdjmaaG4
import Derived.Test.YtcbofikjcgdjmaaB20
namespace Go.Proofs.Ytcbofikjcgdjmaa
set_option linter.unusedVariables false
set_option linter.unusedSimpArgs false

theorem Av.rch {nx : Nat → List Nat} {a b : Nat} (h : Av nx a b) : Rch nx b := by
  induction h with
  | zero _ => exact .zero
  | step _ h1 _ ih => exact .step ih h1
theorem Av.of_dom {nx : Nat → List Nat} {a b c : Nat} (h : Av nx a c) (hb : ¬ Av nx b c) : Av nx a b := by
  induction h with
  | zero h0 =>
    by_cases e : b = 0
    · subst e; exact .zero h0
    · exact absurd (.zero e) hb
  | @step p q h1 h2 h3 ih =>
    by_cases e : q = b
    · subst e; exact .step h1 h2 h3
    · exact ih fun hp => hb (.step hp h2 e)
theorem dm_trans {nx : Nat → List Nat} {a b c : Nat} (h1 : ¬ Av nx a b) (h2 : ¬ Av nx b c) : ¬ Av nx a c := fun h => h1 (h.of_dom h2)
theorem dm_lin {nx : Nat → List Nat} {a b c : Nat} (hr : Rch nx c) (h1 : ¬ Av nx a c) (h2 : ¬ Av nx b c) : ¬ Av nx a b ∨ ¬ Av nx b a := by
  by_cases hab : Av nx a b
  · by_cases hba : Av nx b a
    · exfalso
      have : Av nx a c ∨ Av nx b c := by
        clear h1 h2
        induction hr with
        | zero =>
          by_cases e : a = 0
          · refine .inr (.zero fun e' => ?_)
            subst e e'; exact Av.self hab
          · exact .inl (.zero e)
        | @step p c hp hc ih =>
          by_cases e1 : c = a
          · subst e1; exact .inr hba
          by_cases e2 : c = b
          · subst e2; exact .inl hab
          rcases ih with h | h
          · exact .inl (.step h hc e1)
          · exact .inr (.step h hc e2)
      rcases this with h | h
      · exact h1 h
      · exact h2 h
    · exact .inr hba
  · exact .inl hab
theorem Ord.dom_fw {bs : List Bk} {rk : Nat → Int} (O : Ord bs rk) {a b : Nat} (hb : 0 ≤ rk b) (h : ¬ Av (nxN bs) a b) : FW (nxN bs) rk 0 a ∧ FW (nxN bs) rk a b := by
  have key : ∀ b, FW (nxN bs) rk 0 b → Av (nxN bs) a b ∨ (FW (nxN bs) rk 0 a ∧ FW (nxN bs) rk a b) := by
    intro b hf
    induction hf with
    | refl =>
      by_cases e : a = 0
      · subst e; exact .inr ⟨.refl, .refl⟩
      · exact .inl (.zero e)
    | @step y z h1 h2 h3 ih =>
      by_cases e : z = a
      · subst e; exact .inr ⟨.step h1 h2 h3, .refl⟩
      rcases ih with h | h
      · exact .inl (.step h h2 e)
      · exact .inr ⟨h.1, .step h.2 h2 h3⟩
  rcases key b (O.tree b hb) with k | k
  · exact absurd k h
  · exact k
theorem Ord.dom_le {bs : List Bk} {rk : Nat → Int} (O : Ord bs rk) {a b : Nat} (hb : 0 ≤ rk b) (h : ¬ Av (nxN bs) a b) : 0 ≤ rk a ∧ rk a ≤ rk b := by
  obtain ⟨h1, h2⟩ := O.dom_fw hb h
  have := h1.le
  rw [O.zero] at this
  exact ⟨this, h2.le⟩
theorem Ord.dom_anti {bs : List Bk} {rk : Nat → Int} (O : Ord bs rk) {a b : Nat} (ha : 0 ≤ rk a) (hb : 0 ≤ rk b) (h1 : ¬ Av (nxN bs) a b) (h2 : ¬ Av (nxN bs) b a) : a = b := by
  have := O.dom_le hb h1
  have := O.dom_le ha h2
  exact O.inj ha (by omega)

/-- a is the source of a back edge to h -/
def Lat (nx : Nat → List Nat) (h a : Nat) : Prop := Rch nx a ∧ h ∈ nx a ∧ ¬ Av nx h a
/-- the natural loop of h -/
inductive Lb (nx : Nat → List Nat) (h : Nat) : Nat → Prop
  | hd : Lb nx h h
  | lat {a : Nat} : Lat nx h a → Lb nx h a
  | step {b c : Nat} : Lb nx h c → c ≠ h → Rch nx b → c ∈ nx b → Lb nx h b
def Hd (nx : Nat → List Nat) (h : Nat) : Prop := ∃ a, Lat nx h a
theorem Hd.rch {nx : Nat → List Nat} {h : Nat} (H : Hd nx h) : Rch nx h := by
  obtain ⟨a, h1, h2, _⟩ := H
  exact .step h1 h2
theorem Lb.rch {nx : Nat → List Nat} {h b : Nat} (H : Rch nx h) (hb : Lb nx h b) : Rch nx b := by
  cases hb with
  | hd => exact H
  | lat h => exact h.1
  | step _ _ h _ => exact h
/-- the header dominates its loop -/
theorem Lb.dom {nx : Nat → List Nat} {h b : Nat} (hb : Lb nx h b) : ¬ Av nx h b := by
  induction hb with
  | hd => exact Av.self
  | lat h => exact h.2.2
  | step _ h1 _ h2 ih => exact fun ha => ih (.step ha h2 h1)
/-- a loop is entered at its header only -/
theorem Lb.entry {nx : Nat → List Nat} {h a b : Nat} (hb : Lb nx h b) (hne : b ≠ h) (ha : Rch nx a) (he : b ∈ nx a) : Lb nx h a := .step hb hne ha he
theorem Lb.latch {nx : Nat → List Nat} {h a : Nat} (ha : Rch nx a) (he : h ∈ nx a) : Lb nx h a ↔ Lat nx h a := ⟨fun hb => ⟨ha, he, hb.dom⟩, fun h => .lat h⟩
/-- loops that share a block are nested: the outer one is that of the header that dominates the other -/
theorem Lb.nest {bs : List Bk} {rk : Nat → Int} (O : Ord bs rk) {h1 h2 b c : Nat} (hne : h1 ≠ h2) (r2 : 0 ≤ rk h2) (d : ¬ Av (nxN bs) h1 h2) (b1 : Lb (nxN bs) h1 b) (b2 : Lb (nxN bs) h2 b) (hc : Lb (nxN bs) h2 c) : Lb (nxN bs) h1 c := by
  have hb := O.rch.2 (b2.rch (O.rch.1 r2))
  have hlt : rk h1 < rk h2 := by
    have := O.dom_le r2 d
    rcases Int.lt_or_eq_of_le this.2 with e | e
    · exact e
    · exact absurd (O.inj this.1 e) hne
  have hf := (O.dom_fw hb b2.dom).2
  have hh : Lb (nxN bs) h1 h2 := by
    clear b2 hb
    induction hf with
    | refl => exact b1
    | @step y z k1 k2 k3 ih =>
      have := k1.le
      exact ih (.step b1 (fun e => by subst e; omega) (O.rch.1 (by omega)) k2)
  induction hc with
  | hd => exact hh
  | lat h => exact .step hh (Ne.symm hne) h.1 h.2.1
  | @step b' c' k1 k2 k3 k4 ih =>
    refine .step ih (fun e => ?_) k3 k4
    subst e
    exact hne (O.dom_anti (by have := O.dom_le r2 d; exact this.1) r2 d k1.dom)
theorem Lb.not_outer {bs : List Bk} {rk : Nat → Int} (O : Ord bs rk) {h1 h2 : Nat} (hne : h1 ≠ h2) (r2 : 0 ≤ rk h2) (d : ¬ Av (nxN bs) h1 h2) : ¬ Lb (nxN bs) h2 h1 := fun k =>
  hne (O.dom_anti (by have := O.dom_le r2 d; exact this.1) r2 d k.dom)

/-- every retreating edge is a back edge -/
def Rdc (bs : List Bk) : Prop := ∀ a t, 0 ≤ rkN bs a → t ∈ nxN bs a → rkN bs t ≤ rkN bs a → ¬ Av (nxN bs) t a
theorem plO_nat {ord : List Nat} (t : Nat) : ∀ k, plO ord k (t : Int) = if 0 ≤ rkK ord k t then some (rkK ord k t) else none
  | 0 => rfl
  | k + 1 => by
    show (if (t : Int) = ((ord.getD k 0 : Nat) : Int) then some (k : Int) else plO ord k (t : Int)) = _
    have ih := plO_nat (ord := ord) t k
    by_cases e : t = ord.getD k 0
    · have hk : rkK ord (k + 1) t = k := by show (if t = ord.getD k 0 then (k : Int) else rkK ord k t) = k; rw [if_pos e]
      rw [if_pos (by rw [← e]), hk, if_pos (by omega)]
    · have hk : rkK ord (k + 1) t = rkK ord k t := by show (if t = ord.getD k 0 then (k : Int) else rkK ord k t) = _; rw [if_neg e]
      rw [if_neg (by omega), ih, hk]
theorem plF_iff {bs : List Bk} {t : Nat} : plF bs t = true ↔ 0 ≤ rkN bs t := by
  unfold plF
  rw [plO_nat]
  have e : rkK (ordN bs) (ordN bs).length = rkN bs := rfl
  rw [e]
  by_cases h : 0 ≤ rkN bs t
  · rw [if_pos h]; simp [h]
  · rw [if_neg h]; simp [h]
theorem backB_nat {bs : List Bk} {a t : Nat} (ht : 0 ≤ rkN bs a → 0 ≤ rkN bs t) : backB (ordN bs) ((a : Int), (t : Int)) = true ↔ 0 ≤ rkN bs a ∧ rkN bs t ≤ rkN bs a := by
  unfold backB
  dsimp only
  rw [plO_nat, plO_nat]
  have e : rkK (ordN bs) (ordN bs).length = rkN bs := rfl
  rw [e]
  by_cases ha : 0 ≤ rkN bs a
  · rw [if_pos ha, if_pos (ht ha)]
    simp [ha]
  · rw [if_neg ha]
    simp [ha]
theorem valid_nodup {bs : List Bk} {pv : List (List Int)} (h : validB bs pv = true) {j : Nat} (hj : j < bs.length) : (nthB bs j).nx.Nodup := by
  have hb := (okB_at (validB_okB h).2.2.1 hj).1
  unfold blkB at hb
  simp only [Bool.not_eq_true', Bool.or_eq_false_iff, decide_eq_false_iff_not, Bool.and_eq_false_iff] at hb
  obtain ⟨⟨⟨_, _⟩, h1⟩, h2⟩ := hb
  obtain ⟨l, hl⟩ : ∃ l, (nthB bs j).nx = l := ⟨_, rfl⟩
  rw [hl] at h1 h2 ⊢
  clear hl
  match l with
  | [] => simp
  | [x] => simp
  | [x, y] =>
    simp only [List.length_cons, List.length_nil, List.getD_cons_zero, List.getD_cons_succ] at h2
    rcases h2 with h2 | h2
    · simp at h2
    · simp [h2]
  | x :: y :: z :: l => simp at h1
/-- the sources of the back edges, ascending -/
theorem latF_eq {bs : List Bk} {pv : List (List Int)} (h : validB bs pv = true) (t : Nat) : latF bs t = ((List.range bs.length).filter fun a : Nat => backB (ordN bs) ((a : Int), (t : Int)) && decide (t ∈ nxN bs a)).map Int.ofNat := by
  unfold latF latK
  rw [List.take_length]
  have key : ∀ k, k ≤ bs.length → ((edgK bs k).filter fun e => backB (ordN bs) e && decide (e.2 = (t : Int))).map (·.1) = ((List.range k).filter fun a : Nat => backB (ordN bs) ((a : Int), (t : Int)) && decide (t ∈ nxN bs a)).map Int.ofNat := by
    intro k
    induction k with
    | zero => intro _; rfl
    | succ k ih =>
      intro hk
      rw [edgK, List.filter_append, List.map_append, ih (by omega), List.range_succ, List.filter_append, List.map_append]
      congr 1
      rw [List.filter_map]
      have hn := valid_nodup h (j := k) (by omega)
      have hm := mem_nxN h (j := k) (t := t) (by omega)
      revert hn hm
      generalize (nthB bs k).nx = l
      intro hn hm
      rw [List.map_map]
      have e1 : l.filter ((fun e : Int × Int => backB (ordN bs) e && decide (e.2 = (t : Int))) ∘ fun t => ((k : Int), t)) = if backB (ordN bs) ((k : Int), (t : Int)) = true ∧ (t : Int) ∈ l then [(t : Int)] else [] := by
        clear hm ih
        induction l with
        | nil => simp
        | cons x l ih =>
          rw [List.nodup_cons] at hn
          rw [List.filter_cons, ih hn.2]
          by_cases e : x = (t : Int)
          · subst e
            simp only [Function.comp, decide_true, Bool.and_true, List.mem_cons, true_or, and_true]
            rw [if_neg (fun (h : backB (ordN bs) ((k : Int), (t : Int)) = true ∧ (t : Int) ∈ l) => hn.1 h.2)]
          · have e' : ¬ (t : Int) = x := fun h => e h.symm
            simp [Function.comp, e, e']
      rw [e1, List.filter_cons]
      by_cases hc : backB (ordN bs) ((k : Int), (t : Int)) = true ∧ (t : Int) ∈ l
      · rw [if_pos hc, if_pos (by rw [hc.1, decide_eq_true (hm.2 hc.2)]; rfl)]
        rfl
      · rw [if_neg hc, if_neg (by
          intro hh
          simp only [Bool.and_eq_true, decide_eq_true_eq] at hh
          exact hc ⟨hh.1, hm.1 hh.2⟩)]
        simp
  exact key bs.length (Nat.le_refl _)
theorem srt_self {l : List Int} (h : l.Pairwise (· ≤ ·)) : srt l = l := by
  unfold srt
  exact List.mergeSort_of_pairwise (h.imp fun h => by simpa using h)
theorem latF_sorted {bs : List Bk} {pv : List (List Int)} (h : validB bs pv = true) (t : Nat) : (latF bs t).Pairwise (· < ·) := by
  rw [latF_eq h, List.pairwise_map]
  exact (List.Pairwise.filter _ List.pairwise_lt_range).imp fun h => by simpa using h
theorem latF_srt {bs : List Bk} {pv : List (List Int)} (h : validB bs pv = true) (t : Nat) : srt (latF bs t) = latF bs t := srt_self ((latF_sorted h t).imp fun h => by omega)
theorem latF_mem {bs : List Bk} {pv : List (List Int)} (h : validB bs pv = true) (R : Rdc bs) (t : Nat) (x : Int) : x ∈ latF bs t ↔ ∃ a : Nat, x = (a : Int) ∧ Lat (nxN bs) t a := by
  have O := ord_of h
  rw [latF_eq h, List.mem_map]
  constructor
  · rintro ⟨a, ha, rfl⟩
    simp only [List.mem_filter, List.mem_range, Bool.and_eq_true, decide_eq_true_eq] at ha
    have hb := (backB_nat fun h0 => O.clo a h0 t ha.2.2).1 ha.2.1
    exact ⟨a, rfl, O.rch.1 hb.1, ha.2.2, R a t hb.1 ha.2.2 hb.2⟩
  · rintro ⟨a, rfl, h1, h2, h3⟩
    have h0 := O.rch.2 h1
    refine ⟨a, ?_, rfl⟩
    simp only [List.mem_filter, List.mem_range, Bool.and_eq_true, decide_eq_true_eq]
    exact ⟨O.lt a h0, (backB_nat fun h0 => O.clo a h0 t h2).2 ⟨h0, (O.dom_le h0 h3).2⟩, h2⟩
theorem headF_iff {bs : List Bk} {pv : List (List Int)} (h : validB bs pv = true) (R : Rdc bs) (t : Nat) : t ∈ headF bs ↔ Hd (nxN bs) t := by
  unfold headF
  rw [List.mem_filter, List.mem_range, decide_eq_true_eq]
  constructor
  · rintro ⟨_, h1⟩
    obtain ⟨x, hx⟩ := List.exists_mem_of_ne_nil _ h1
    obtain ⟨a, _, ha⟩ := (latF_mem h R t x).1 hx
    exact ⟨a, ha⟩
  · rintro ⟨a, ha⟩
    have hne : latF bs t ≠ [] := fun e => by
      have := (latF_mem h R t a).2 ⟨a, rfl, ha⟩
      rw [e] at this; simp at this
    exact ⟨latF_lt h hne, hne⟩
/-- Find gives up unless the graph is reducible -/
theorem findE_none {bs : List Bk} {pv : List (List Int)} (h : validB bs pv = true) {R : Nat → Int} (hR : ∀ a b : Nat, a < bs.length → b < bs.length → (domB ((List.range bs.length).map R) a b = true ↔ Dm (nxN bs) a b)) : findE bs R = none ↔ Rdc bs := by
  have O := ord_of h
  unfold findE
  rw [List.find?_eq_none]
  constructor
  · intro hh a t ha ht hle hav
    have hl := O.lt a ha
    have htl := O.lt t (O.clo a ha t ht)
    have := hh ((a : Int), (t : Int)) (mem_edgK.2 ⟨a, hl, rfl, (mem_nxN h hl).1 ht⟩)
    unfold badB at this
    rw [(backB_nat fun h0 => O.clo a h0 t ht).2 ⟨ha, hle⟩, Bool.true_and, Bool.not_eq_true', Bool.not_eq_false] at this
    rcases (hR t a htl hl).1 this with e | e
    · subst e; exact Av.self hav
    · exact e.2 hav
  · intro Rd e he hb
    obtain ⟨j, hj, h1, h2⟩ := mem_edgK.1 he
    obtain ⟨x, y⟩ := e
    dsimp only at h1 h2
    have hy := nx_nonneg h hj h2
    obtain ⟨t, rfl⟩ : ∃ t : Nat, y = (t : Int) := ⟨y.toNat, by omega⟩
    subst h1
    unfold badB at hb
    rw [Bool.and_eq_true, Bool.not_eq_true'] at hb
    have ht := (mem_nxN h hj).2 h2
    have hb1 := (backB_nat fun h0 => O.clo j h0 t ht).1 hb.1
    have := (hR t j (by omega) hj).2 (.inr ⟨O.rch.1 hb1.1, Rd j t hb1.1 ht hb1.2⟩)
    rw [this] at hb
    exact absurd hb.2 (by simp)
end Go.Proofs.Ytcbofikjcgdjmaa
