/- A depth-first search: what its order is good for. -/
import Derived.Test.YtcbofikjcgdjmaaB10
namespace Go.Proofs.Ytcbofikjcgdjmaa
set_option linter.unusedVariables false
set_option linter.unusedSimpArgs false

/-- x stands before y -/
def Bef (l : List Nat) (x y : Nat) : Prop := ∃ l1 l2, l = l1 ++ l2 ∧ x ∈ l1 ∧ y ∈ l2
theorem Bef.right {l : List Nat} {x y : Nat} (h : Bef l x y) (r : List Nat) : Bef (l ++ r) x y := by
  obtain ⟨l1, l2, rfl, h1, h2⟩ := h
  exact ⟨l1, l2 ++ r, by simp, h1, List.mem_append_left _ h2⟩
theorem Bef.left {l : List Nat} {x y : Nat} (h : Bef l x y) (r : List Nat) : Bef (r ++ l) x y := by
  obtain ⟨l1, l2, rfl, h1, h2⟩ := h
  exact ⟨r ++ l1, l2, by simp, List.mem_append_right _ h1, h2⟩
theorem Bef.of {l1 l2 : List Nat} {x y : Nat} (h1 : x ∈ l1) (h2 : y ∈ l2) : Bef (l1 ++ l2) x y := ⟨l1, l2, rfl, h1, h2⟩
/-- a path whose every node stands before the one ahead of it -/
inductive FP (nx : Nat → List Nat) (l : List Nat) (x : Nat) : Nat → Prop
  | refl : FP nx l x x
  | step {y z : Nat} : FP nx l x y → z ∈ nx y → Bef l z y → FP nx l x z
theorem FP.mono {nx : Nat → List Nat} {l l' : List Nat} (hm : ∀ x y, Bef l x y → Bef l' x y) {x y : Nat} (h : FP nx l x y) : FP nx l' x y := by
  induction h with
  | refl => exact .refl
  | step _ h1 h2 ih => exact .step ih h1 (hm _ _ h2)
theorem FP.right {nx : Nat → List Nat} {l : List Nat} {x y : Nat} (h : FP nx l x y) (r : List Nat) : FP nx (l ++ r) x y := h.mono fun _ _ h => h.right r
theorem FP.left {nx : Nat → List Nat} {l : List Nat} {x y : Nat} (h : FP nx l x y) (r : List Nat) : FP nx (r ++ l) x y := h.mono fun _ _ h => h.left r
theorem FP.trans {nx : Nat → List Nat} {l : List Nat} {x y z : Nat} (h : FP nx l x y) (h' : FP nx l y z) : FP nx l x z := by
  induction h' with
  | refl => exact h
  | step _ h1 h2 ih => exact .step ih h1 h2

/-- what a stretch of the search has done: it began with s seen, ended with s', and left the nodes l in this order -/
structure Seg (nx : Nat → List Nat) (s s' : Nat → Bool) (l : List Nat) : Prop where
  nodup : l.Nodup
  mem : ∀ t, s' t = true ↔ s t = true ∨ t ∈ l
  new : ∀ t, t ∈ l → s t = false
  clo : ∀ t, t ∈ l → ∀ u, u ∈ nx t → s' u = true
  ret : ∀ t, t ∈ l → ∀ u, u ∈ nx t → u ∈ l → ¬ Bef l u t → FP nx l u t
theorem Seg.nil (nx : Nat → List Nat) (s : Nat → Bool) : Seg nx s s [] := ⟨List.nodup_nil, fun t => by simp, fun t h => by simp at h, fun t h => by simp at h, fun t h => by simp at h⟩
theorem Seg.append {nx : Nat → List Nat} {s s1 s2 : Nat → Bool} {l1 l2 : List Nat} (h1 : Seg nx s s1 l1) (h2 : Seg nx s1 s2 l2) : Seg nx s s2 (l1 ++ l2) := by
  have hd : ∀ t, t ∈ l1 → t ∉ l2 := fun t a b => by
    have := h2.new t b
    rw [(h1.mem t).2 (.inr a)] at this
    cases this
  refine ⟨?_, fun t => ?_, fun t ht => ?_, fun t ht u hu => ?_, fun t ht u hu hul hb => ?_⟩
  · rw [List.nodup_append]
    exact ⟨h1.nodup, h2.nodup, fun a ha b hb e => hd a ha (e ▸ hb)⟩
  · rw [h2.mem, h1.mem, List.mem_append, or_assoc]
  · rcases List.mem_append.1 ht with h | h
    · exact h1.new t h
    · have := h2.new t h
      rw [← Bool.not_eq_true, h1.mem] at this
      rw [← Bool.not_eq_true]
      exact fun e => this (.inl e)
  · rcases List.mem_append.1 ht with h | h
    · exact (h2.mem u).2 (.inl (h1.clo t h u hu))
    · exact h2.clo t h u hu
  · rcases List.mem_append.1 ht with h | h
    · rcases List.mem_append.1 hul with k | k
      · exact (h1.ret t h u hu k fun e => hb (e.right _)).right _
      · have := h2.new u k
        rw [h1.clo t h u hu] at this
        cases this
    · rcases List.mem_append.1 hul with k | k
      · exact absurd (Bef.of k h) hb
      · exact (h2.ret t h u hu k fun e => hb (e.left _)).left _
theorem Seg.close {nx : Nat → List Nat} {s s' : Nat → Bool} {l : List Nat} {b : Nat} (hs : s b = false) (h : Seg nx (upd s b) s' l) (hc : ∀ c, c ∈ nx b → s' c = true) (ht : ∀ t, t ∈ l → ∃ c, c ∈ nx b ∧ c ∈ l ∧ FP nx l c t) :
    Seg nx s s' (l ++ [b]) ∧ ∀ t, t ∈ l ++ [b] → FP nx (l ++ [b]) b t := by
  have hbl : b ∉ l := fun e => by
    have := h.new b e
    simp [upd] at this
  have hfp : ∀ t, t ∈ l ++ [b] → FP nx (l ++ [b]) b t := fun t hm => by
    rcases List.mem_append.1 hm with k | k
    · obtain ⟨c, h1, h2, h3⟩ := ht t k
      exact (FP.step .refl h1 (Bef.of h2 (by simp))).trans (h3.right _)
    · rw [List.mem_singleton] at k; subst k; exact .refl
  have hu : ∀ t, upd s b t = true ↔ t = b ∨ s t = true := fun t => by
    unfold upd
    by_cases e : t = b
    · simp [e]
    · simp [e]
  refine ⟨⟨?_, fun t => ?_, fun t hm => ?_, fun t hm u hun => ?_, fun t hm u hun hul hb => ?_⟩, hfp⟩
  · rw [List.nodup_append]
    exact ⟨h.nodup, by simp, fun a ha c hc e => by rw [List.mem_singleton] at hc; exact hbl (by rw [← hc, ← e]; exact ha)⟩
  · rw [h.mem, hu, List.mem_append, List.mem_singleton]
    constructor
    · rintro ((h | h) | h)
      · exact .inr (.inr h)
      · exact .inl h
      · exact .inr (.inl h)
    · rintro (h | h | h)
      · exact .inl (.inr h)
      · exact .inr h
      · exact .inl (.inl h)
  · rcases List.mem_append.1 hm with k | k
    · have := h.new t k
      rw [← Bool.not_eq_true, hu] at this
      rw [← Bool.not_eq_true]
      exact fun e => this (.inr e)
    · rw [List.mem_singleton] at k; subst k; exact hs
  · rcases List.mem_append.1 hm with k | k
    · exact h.clo t k u hun
    · rw [List.mem_singleton] at k; subst k; exact hc u hun
  · rcases List.mem_append.1 hul with k | k
    · rcases List.mem_append.1 hm with k' | k'
      · exact (h.ret t k' u hun k fun e => hb (e.right _)).right _
      · exact absurd (Bef.of k k') hb
    · rw [List.mem_singleton] at k; subst k
      exact hfp t hm
theorem cnt_pos {n b : Nat} {s : Nat → Bool} (hb : b < n) (h : s b = false) : 0 < cnt n s := by
  have := cnt_upd hb h
  omega
theorem seg_dfs {nx : Nat → List Nat} {n : Nat} (hnx : ∀ b, b < n → ∀ t ∈ nx b, t < n) : ∀ (k b : Nat) (s : Nat → Bool) (out : List Nat), b < n → s b = false → cnt n s ≤ k →
    ∃ l, (dfs nx k b (s, out)).2 = out ++ (l ++ [b]) ∧ Seg nx s (dfs nx k b (s, out)).1 (l ++ [b]) ∧ ∀ t, t ∈ l ++ [b] → FP nx (l ++ [b]) b t := by
  intro k
  induction k with
  | zero => intro b s out hb hs hc; have := cnt_pos hb hs; omega
  | succ k ih =>
    intro b s out hb hs hc
    have hcu := cnt_upd hb hs
    have fold : ∀ (ts : List Nat) (s : Nat → Bool) (out : List Nat), (∀ x ∈ ts, x < n) → cnt n s ≤ k →
        ∃ l, (ts.foldl (fun st t => if st.1 t then st else dfs nx k t st) (s, out)).2 = out ++ l ∧ Seg nx s (ts.foldl (fun st t => if st.1 t then st else dfs nx k t st) (s, out)).1 l ∧
          (∀ t, t ∈ ts → (ts.foldl (fun st t => if st.1 t then st else dfs nx k t st) (s, out)).1 t = true) ∧ ∀ t, t ∈ l → ∃ c, c ∈ ts ∧ c ∈ l ∧ FP nx l c t := by
      intro ts
      induction ts with
      | nil => intro s out _ _; exact ⟨[], by simp, Seg.nil _ _, fun t h => by simp at h, fun t h => by simp at h⟩
      | cons x ts iht =>
        intro s out hts hcs
        rw [List.foldl_cons]
        by_cases hx : s x = true
        · simp only [hx, if_true]
          obtain ⟨l, h1, h2, h3, h4⟩ := iht s out (fun y hy => hts y (List.mem_cons_of_mem _ hy)) hcs
          refine ⟨l, h1, h2, fun t ht => ?_, fun t ht => ?_⟩
          · rcases List.mem_cons.1 ht with e | e
            · subst e; exact (h2.mem t).2 (.inl hx)
            · exact h3 t e
          · obtain ⟨c, c1, c2, c3⟩ := h4 t ht
            exact ⟨c, List.mem_cons_of_mem _ c1, c2, c3⟩
        · have hxf : s x = false := by simpa using hx
          simp only [hxf]
          obtain ⟨l1, e1, g1, f1⟩ := ih x s out (hts x List.mem_cons_self) hxf hcs
          obtain ⟨s1, hs1⟩ : ∃ s1, (dfs nx k x (s, out)).1 = s1 := ⟨_, rfl⟩
          have hd : dfs nx k x (s, out) = (s1, out ++ (l1 ++ [x])) := by rw [← hs1, ← e1]
          rw [hs1] at g1
          obtain ⟨l, h1, h2, h3, h4⟩ := iht s1 (out ++ (l1 ++ [x])) (fun y hy => hts y (List.mem_cons_of_mem _ hy)) (Nat.le_trans (cnt_mono n fun t ht => (g1.mem t).2 (.inl ht)) hcs)
          simp only [hd, Bool.false_eq_true, if_false]
          refine ⟨(l1 ++ [x]) ++ l, by rw [h1, List.append_assoc], g1.append h2, fun t ht => ?_, fun t ht => ?_⟩
          · rcases List.mem_cons.1 ht with e | e
            · subst e; exact (h2.mem t).2 (.inl ((g1.mem t).2 (.inr (by simp))))
            · exact h3 t e
          · rcases List.mem_append.1 ht with e | e
            · exact ⟨x, List.mem_cons_self, by simp, (f1 t e).right _⟩
            · obtain ⟨c, c1, c2, c3⟩ := h4 t e
              exact ⟨c, List.mem_cons_of_mem _ c1, List.mem_append_right _ c2, c3.left _⟩
    obtain ⟨l, h1, h2, h3, h4⟩ := fold (nx b) (upd s b) out (hnx b hb) (by omega)
    have := Seg.close hs h2 h3 h4
    refine ⟨l, ?_, this.1, this.2⟩
    show ((nx b).foldl (fun (st : DSt) t => if st.1 t then st else dfs nx k t st) (upd s b, out)).2 ++ [b] = _
    rw [h1, List.append_assoc]

theorem nodup_rev {l : List Nat} (h : l.Nodup) : l.reverse.Nodup := by
  induction l with
  | nil => simp
  | cons x l ih =>
    rw [List.nodup_cons] at h
    rw [List.reverse_cons, List.nodup_append]
    refine ⟨ih h.2, by simp, fun a ha b hb e => ?_⟩
    rw [List.mem_singleton] at hb
    rw [List.mem_reverse] at ha
    exact h.1 (by rw [← hb, ← e]; exact ha)
/-- the order of a valid graph, and the rank of each node in it -/
def rkN (bs : List Bk) : Nat → Int := rkK (ordN bs) (ordN bs).length
theorem rkK_at {ord : List Nat} (hn : ord.Nodup) : ∀ {k i : Nat}, k ≤ ord.length → i < k → rkK ord k (ord.getD i 0) = i := by
  intro k
  induction k with
  | zero => intro i _ h; omega
  | succ k ih =>
    intro i hk hi
    show (if ord.getD i 0 = ord.getD k 0 then (k : Int) else rkK ord k (ord.getD i 0)) = i
    by_cases e : i = k
    · subst e; rw [if_pos rfl]
    · rw [if_neg]
      · exact ih (by omega) (by omega)
      · intro h
        rw [List.getD_eq_getElem?_getD, List.getD_eq_getElem?_getD, List.getElem?_eq_getElem (by omega), List.getElem?_eq_getElem (by omega)] at h
        simp only [Option.getD_some] at h
        rcases Nat.lt_or_gt_of_ne e with e | e
        · exact (List.pairwise_iff_getElem.1 hn) i k (by omega) (by omega) e h
        · exact (List.pairwise_iff_getElem.1 hn) k i (by omega) (by omega) e h.symm
theorem rkK_no {ord : List Nat} {t : Nat} (h : t ∉ ord) : ∀ {k : Nat}, k ≤ ord.length → rkK ord k t = -1 := by
  intro k
  induction k with
  | zero => intro _; rfl
  | succ k ih =>
    intro hk
    show (if t = ord.getD k 0 then (k : Int) else rkK ord k t) = -1
    rw [if_neg]
    · exact ih (by omega)
    · intro e
      exact h (e ▸ getD_mem_nat' (by omega))
theorem getD_of_mem {l : List Nat} {t : Nat} (h : t ∈ l) : ∃ i, i < l.length ∧ l.getD i 0 = t := by
  obtain ⟨i, hi, e⟩ := List.mem_iff_getElem.1 h
  exact ⟨i, hi, by rw [List.getD_eq_getElem?_getD, List.getElem?_eq_getElem hi]; exact e⟩
structure Rank (ord : List Nat) (rk : Nat → Int) : Prop where
  at_ : ∀ i, i < ord.length → rk (ord.getD i 0) = i
  no : ∀ t, t ∉ ord → rk t = -1
theorem rank_of {ord : List Nat} (hn : ord.Nodup) : Rank ord (rkK ord ord.length) := ⟨fun i hi => rkK_at hn (Nat.le_refl _) hi, fun t h => rkK_no h (Nat.le_refl _)⟩
theorem Rank.mem {ord : List Nat} {rk : Nat → Int} (h : Rank ord rk) {t : Nat} : t ∈ ord ↔ 0 ≤ rk t := by
  constructor
  · intro hm
    obtain ⟨i, hi, rfl⟩ := getD_of_mem hm
    rw [h.at_ i hi]; omega
  · intro h0
    apply Classical.byContradiction
    intro hm
    rw [h.no t hm] at h0
    omega
theorem Rank.eq {ord : List Nat} {rk : Nat → Int} (h : Rank ord rk) {t : Nat} (h0 : 0 ≤ rk t) : ∃ i, i < ord.length ∧ ord.getD i 0 = t ∧ rk t = i := by
  obtain ⟨i, hi, e⟩ := getD_of_mem (h.mem.2 h0)
  exact ⟨i, hi, e, by rw [← e]; exact h.at_ i hi⟩
theorem Rank.inj {ord : List Nat} {rk : Nat → Int} (h : Rank ord rk) {a b : Nat} (h0 : 0 ≤ rk a) (e : rk a = rk b) : a = b := by
  obtain ⟨i, hi, e1, e2⟩ := h.eq h0
  obtain ⟨j, hj, e3, e4⟩ := h.eq (t := b) (by omega)
  obtain rfl : i = j := by omega
  rw [← e1, ← e3]
theorem Rank.bef {l : List Nat} {rk : Nat → Int} (h : Rank l.reverse rk) {z y : Nat} (hn : l.Nodup) (hb : Bef l z y) : rk y < rk z := by
  obtain ⟨l1, l2, rfl, h1, h2⟩ := hb
  have hz : 0 ≤ rk z := h.mem.1 (by simp [h1])
  have hy : 0 ≤ rk y := h.mem.1 (by simp [h2])
  obtain ⟨i, hi, e1, e2⟩ := h.eq hz
  obtain ⟨j, hj, e3, e4⟩ := h.eq hy
  obtain ⟨q, hq, e5⟩ := getD_of_mem (l := l2.reverse) (t := y) (by simpa using h2)
  obtain ⟨r, hr, e6⟩ := getD_of_mem (l := l1.reverse) (t := z) (by simpa using h1)
  have a1 : (l1 ++ l2).reverse.getD q 0 = y := by
    rw [List.reverse_append, List.getD_eq_getElem?_getD, List.getElem?_append_left (by simpa using hq), ← List.getD_eq_getElem?_getD]; exact e5
  have a2 : (l1 ++ l2).reverse.getD (l2.reverse.length + r) 0 = z := by
    rw [List.reverse_append, List.getD_eq_getElem?_getD, List.getElem?_append_right (by omega), Nat.add_sub_cancel_left, ← List.getD_eq_getElem?_getD]; exact e6
  have b1 := h.at_ q (by simp at hq ⊢; omega)
  have b2 := h.at_ (l2.reverse.length + r) (by simp at hr ⊢; omega)
  rw [a1] at b1
  rw [a2] at b2
  rw [b1, b2]
  omega
/-- a path along which the ranks rise -/
inductive FW (nx : Nat → List Nat) (rk : Nat → Int) (x : Nat) : Nat → Prop
  | refl : FW nx rk x x
  | step {y z : Nat} : FW nx rk x y → z ∈ nx y → rk y < rk z → FW nx rk x z
theorem FW.trans {nx : Nat → List Nat} {rk : Nat → Int} {x y z : Nat} (h : FW nx rk x y) (h' : FW nx rk y z) : FW nx rk x z := by
  induction h' with
  | refl => exact h
  | step _ h1 h2 ih => exact .step ih h1 h2
theorem FW.le {nx : Nat → List Nat} {rk : Nat → Int} {x y : Nat} (h : FW nx rk x y) : rk x ≤ rk y := by
  induction h with
  | refl => omega
  | step _ h1 h2 ih => omega
/-- the nodes that paths from 0 reach -/
inductive Rch (nx : Nat → List Nat) : Nat → Prop
  | zero : Rch nx 0
  | step {y z : Nat} : Rch nx y → z ∈ nx y → Rch nx z
/-- what is known of the order of a valid graph -/
structure Ord (bs : List Bk) (rk : Nat → Int) : Prop where
  rank : Rank (ordN bs) rk
  zero : rk 0 = 0
  nodup : (ordN bs).Nodup
  lt : ∀ t, 0 ≤ rk t → t < bs.length
  top : ∀ t, rk t < bs.length
  low : ∀ t, -1 ≤ rk t
  nxl : ∀ t, t < bs.length → ∀ u, u ∈ nxN bs t → u < bs.length
  clo : ∀ t, 0 ≤ rk t → ∀ u, u ∈ nxN bs t → 0 ≤ rk u
  tree : ∀ t, 0 ≤ rk t → FW (nxN bs) rk 0 t
  ret : ∀ t, 0 ≤ rk t → ∀ u, u ∈ nxN bs t → rk u ≤ rk t → FW (nxN bs) rk u t
theorem ord_of {bs : List Bk} {pv : List (List Int)} (h : validB bs pv = true) : Ord bs (rkN bs) := by
  have hn0 := (validB_okB h).1
  obtain ⟨l, h1, h2, h3⟩ := seg_dfs (nx_lt h) bs.length 0 (fun _ => false) [] (by omega) rfl (by rw [cnt_none]; exact Nat.le_refl _)
  have e : ordN bs = (l ++ [0]).reverse := by rw [ordN, h1, List.nil_append]
  have hnd : (ordN bs).Nodup := by rw [e]; exact nodup_rev h2.nodup
  have hr := rank_of hnd
  have hr' : Rank (l ++ [0]).reverse (rkN bs) := by rw [← e]; exact hr
  have hmem : ∀ t, 0 ≤ rkN bs t ↔ t ∈ l ++ [0] := fun t => by rw [← hr'.mem, List.mem_reverse]
  have hfw : ∀ x y, FP (nxN bs) (l ++ [0]) x y → FW (nxN bs) (rkN bs) x y := fun x y hf => by
    induction hf with
    | refl => exact .refl
    | step _ k1 k2 ih => exact .step ih k1 (hr'.bef h2.nodup k2)
  have hlt : ∀ t, 0 ≤ rkN bs t → t < bs.length := fun t ht => ord_lt h t (hr.mem.2 ht)
  have htop : ∀ t, rkN bs t < bs.length := fun t => by
    by_cases h0 : 0 ≤ rkN bs t
    · obtain ⟨i, hi, _, e⟩ := hr.eq h0
      have := ord_len h
      have e' : rkN bs t = (i : Int) := e
      omega
    · omega
  refine ⟨hr, ?_, hnd, hlt, htop, fun t => ?_, nx_lt h, fun t ht u hu => ?_, fun t ht => hfw _ _ (h3 t ((hmem t).1 ht)), fun t ht u hu hle => ?_⟩
  · have : (ordN bs).getD 0 0 = 0 := by rw [e]; simp
    have h0 := hr.at_ 0 (by rw [e]; simp)
    rw [this] at h0
    exact h0
  · by_cases h0 : 0 ≤ rkN bs t
    · omega
    · have := hr.no t fun hm => h0 (hr.mem.1 hm)
      have e' : rkN bs t = -1 := this
      omega
  · have := (h2.mem u).1 (h2.clo t ((hmem t).1 ht) u hu)
    rcases this with k | k
    · cases k
    · exact (hmem u).2 k
  · have hu0 : u ∈ l ++ [0] := by
      have := (h2.mem u).1 (h2.clo t ((hmem t).1 ht) u hu)
      rcases this with k | k
      · cases k
      · exact k
    exact hfw _ _ (h2.ret t ((hmem t).1 ht) u hu hu0 fun hb => by have := hr'.bef h2.nodup hb; omega)
theorem Ord.inj {bs : List Bk} {rk : Nat → Int} (h : Ord bs rk) {a b : Nat} (h0 : 0 ≤ rk a) (e : rk a = rk b) : a = b := h.rank.inj h0 e
theorem Ord.rch {bs : List Bk} {rk : Nat → Int} (h : Ord bs rk) {t : Nat} : 0 ≤ rk t ↔ Rch (nxN bs) t := by
  constructor
  · intro ht
    have := h.tree t ht
    clear ht
    induction this with
    | refl => exact .zero
    | step _ h1 _ ih => exact .step ih h1
  · intro hr
    induction hr with
    | zero => rw [h.zero]; omega
    | step _ h1 ih => exact h.clo _ ih _ h1
/-- every node but the first has an edge from a node of lower rank -/
theorem Ord.par {bs : List Bk} {rk : Nat → Int} (h : Ord bs rk) {t : Nat} (ht : 0 < rk t) : ∃ q, t ∈ nxN bs q ∧ 0 ≤ rk q ∧ rk q < rk t := by
  have := h.tree t (by omega)
  cases this with
  | refl => rw [h.zero] at ht; omega
  | step h1 h2 h3 => exact ⟨_, h2, by have := h1.le; rw [h.zero] at this; exact this, h3⟩
end Go.Proofs.Ytcbofikjcgdjmaa
