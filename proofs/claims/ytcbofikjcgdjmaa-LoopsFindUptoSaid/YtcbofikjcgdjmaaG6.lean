/- The loops that Find returns: their blocks, and how they are nested. -/
import Derived.Test.YtcbofikjcgdjmaaG5
namespace Go.Proofs.Ytcbofikjcgdjmaa
set_option linter.unusedVariables false
set_option linter.unusedSimpArgs false

/-- s' holds s, and with each new node its predecessors -/
structure Post (pl : Nat → Bool) (pv : Nat → List Nat) (s s' : Nat → Bool) : Prop where
  le : ∀ t, s t = true → s' t = true
  clo : ∀ t, s' t = true → s t = false → ∀ p, p ∈ pv t → pl p = true → s' p = true
theorem Post.refl (pl : Nat → Bool) (pv : Nat → List Nat) (s : Nat → Bool) : Post pl pv s s := ⟨fun _ h => h, fun t h h' => by rw [h] at h'; cases h'⟩
theorem Post.trans {pl : Nat → Bool} {pv : Nat → List Nat} {s s1 s2 : Nat → Bool} (h1 : Post pl pv s s1) (h2 : Post pl pv s1 s2) : Post pl pv s s2 := by
  refine ⟨fun t h => h2.le t (h1.le t h), fun t ht hs p hp hpl => ?_⟩
  cases e : s1 t with
  | true => exact h2.le p (h1.clo t e hs p hp hpl)
  | false => exact h2.clo t ht e p hp hpl
theorem cnt_zero {n : Nat} {s : Nat → Bool} (h : cnt n s = 0) {t : Nat} (ht : t < n) : s t = true := by
  cases e : s t with
  | true => rfl
  | false => have := cnt_upd ht e; omega
theorem vis_post {pl : Nat → Bool} {pv : Nat → List Nat} {n : Nat} (hpl : ∀ t, pl t = true → t < n) : ∀ (k b : Nat) (s : Nat → Bool), cnt n s ≤ k → Post pl pv s (vis pl pv k b s) ∧ (pl b = true → vis pl pv k b s b = true) := by
  intro k
  induction k with
  | zero =>
    intro b s hc
    exact ⟨Post.refl _ _ _, fun h => (cnt_zero (s := s) (Nat.le_zero.1 hc) (hpl b h) : s b = true)⟩
  | succ k ih =>
    intro b s hc
    rw [vis]
    split
    · next hb =>
      have fold : ∀ (l : List Nat) (s : Nat → Bool), cnt n s ≤ k → Post pl pv s (l.foldl (fun s p => vis pl pv k p s) s) ∧ ∀ p, p ∈ l → pl p = true → l.foldl (fun s p => vis pl pv k p s) s p = true := by
        intro l
        induction l with
        | nil => intro s _; exact ⟨Post.refl _ _ _, fun p hp => by simp at hp⟩
        | cons x l ihl =>
          intro s hs
          rw [List.foldl_cons]
          obtain ⟨a1, a2⟩ := ih x s hs
          obtain ⟨b1, b2⟩ := ihl (vis pl pv k x s) (Nat.le_trans (cnt_mono n a1.le) hs)
          refine ⟨a1.trans b1, fun p hp hpp => ?_⟩
          rcases List.mem_cons.1 hp with e | e
          · subst e; exact b1.le _ (a2 hpp)
          · exact b2 p e hpp
      have hcu := cnt_upd (hpl b hb.1) hb.2
      obtain ⟨f1, f2⟩ := fold (pv b) (upd s b) (by omega)
      refine ⟨⟨fun t ht => f1.le t (upd_le _ _ _ ht), fun t ht hs p hp hpp => ?_⟩, fun _ => f1.le b (by simp [upd])⟩
      by_cases e : t = b
      · subst e; exact f2 p hp hpp
      · exact f1.clo t ht (by unfold upd; rw [if_neg e]; exact hs) p hp hpp
    · next hb =>
      refine ⟨Post.refl _ _ _, fun h => ?_⟩
      cases e : s b with
      | true => rfl
      | false => exact absurd ⟨h, e⟩ hb
theorem vis_sound {pl : Nat → Bool} {pv : Nat → List Nat} {Q : Nat → Prop} {h : Nat} (hq : ∀ t p, Q t → t ≠ h → p ∈ pv t → pl p = true → Q p) : ∀ (k b : Nat) (s : Nat → Bool), s h = true → (∀ t, s t = true → Q t) → (pl b = true → Q b) → ∀ t, vis pl pv k b s t = true → Q t := by
  intro k
  induction k with
  | zero => intro b s _ hs _; exact hs
  | succ k ih =>
    intro b s hh hs hb
    rw [vis]
    split
    · next hc =>
      have hbh : b ≠ h := fun e => by subst e; rw [hh] at hc; cases hc.2
      have fold : ∀ (l : List Nat) (s : Nat → Bool), (∀ p, p ∈ l → p ∈ pv b) → s h = true → (∀ t, s t = true → Q t) → ∀ t, l.foldl (fun s p => vis pl pv k p s) s t = true → Q t := by
        intro l
        induction l with
        | nil => intro s _ _ h; exact h
        | cons x l ihl =>
          intro s hl hh hs
          rw [List.foldl_cons]
          exact ihl _ (fun p hp => hl p (List.mem_cons_of_mem _ hp)) (vis_le pl pv k x s h hh) (ih x s hh hs fun hx => hq b x (hb hc.1) hbh (hl x List.mem_cons_self) hx)
      refine fold (pv b) (upd s b) (fun p hp => hp) (upd_le _ _ _ hh) fun t ht => ?_
      unfold upd at ht
      by_cases e : t = b
      · subst e; exact hb hc.1
      · rw [if_neg e] at ht; exact hs t ht
    · exact hs
/-- the blocks of the loop of h -/
def bodyF (bs : List Bk) (pv : List (List Int)) (h : Nat) : Nat → Bool := colK (plF bs) (pvN pv) bs.length h ((srt (latF bs h)).map Int.toNat) ((srt (latF bs h)).map Int.toNat).length
theorem body_iff {bs : List Bk} {pv : List (List Int)} (hv : validB bs pv = true) (R : Rdc bs) {h : Nat} (hh : 0 ≤ rkN bs h) (t : Nat) : bodyF bs pv h t = true ↔ Lb (nxN bs) h t := by
  have O := ord_of hv
  have hpl : ∀ t, plF bs t = true → t < bs.length := fun t ht => O.lt t (plF_iff.1 ht)
  unfold bodyF
  obtain ⟨la, hla⟩ : ∃ la, (srt (latF bs h)).map Int.toNat = la := ⟨_, rfl⟩
  have hm : ∀ a, a ∈ la ↔ Lat (nxN bs) h a := fun a => by
    rw [← hla, List.mem_map, latF_srt hv]
    constructor
    · rintro ⟨x, hx, rfl⟩
      obtain ⟨a, rfl, ha⟩ := (latF_mem hv R h x).1 hx
      simpa using ha
    · intro ha
      exact ⟨(a : Int), (latF_mem hv R h a).2 ⟨a, rfl, ha⟩, by simp⟩
  rw [hla]
  have hat : ∀ k, k < la.length → Lat (nxN bs) h (la.getD k 0) := fun k hk => (hm _).1 (getD_mem_nat' hk)
  have sound : ∀ k, k ≤ la.length → colK (plF bs) (pvN pv) bs.length h la k h = true ∧ ∀ t, colK (plF bs) (pvN pv) bs.length h la k t = true → Lb (nxN bs) h t := by
    intro k
    induction k with
    | zero => intro _; exact ⟨by simp [colK], fun t ht => by have : t = h := by simpa [colK] using ht
                                                             subst this; exact .hd⟩
    | succ k ih =>
      intro hk
      obtain ⟨i1, i2⟩ := ih (by omega)
      refine ⟨vis_le _ _ _ _ _ _ i1, vis_sound (h := h) (fun t p hq hne hp hpl' => ?_) _ _ _ i1 i2 fun _ => .lat (hat k (by omega))⟩
      have hp0 := plF_iff.1 hpl'
      exact .step hq hne (O.rch.1 hp0) ((mem_pvN hv (O.lt p hp0)).1 hp)
  have post : ∀ k, k ≤ la.length → Post (plF bs) (pvN pv) (fun t => decide (t = h)) (colK (plF bs) (pvN pv) bs.length h la k) ∧ ∀ j, j < k → colK (plF bs) (pvN pv) bs.length h la k (la.getD j 0) = true := by
    intro k
    induction k with
    | zero => intro _; exact ⟨Post.refl _ _ _, fun j hj => by omega⟩
    | succ k ih =>
      intro hk
      obtain ⟨i1, i2⟩ := ih (by omega)
      obtain ⟨p1, p2⟩ := vis_post (pv := pvN pv) hpl bs.length (la.getD k 0) (colK (plF bs) (pvN pv) bs.length h la k) (cnt_le _ _)
      refine ⟨i1.trans p1, fun j hj => ?_⟩
      by_cases e : j = k
      · subst e; exact p2 (plF_iff.2 (O.rch.2 (hat j (by omega)).1))
      · exact p1.le _ (i2 j (by omega))
  refine ⟨(sound la.length (Nat.le_refl _)).2 t, fun hb => ?_⟩
  obtain ⟨p1, p2⟩ := post la.length (Nat.le_refl _)
  induction hb with
  | hd => exact (sound la.length (Nat.le_refl _)).1
  | lat ha =>
    obtain ⟨j, hj, e⟩ := getD_of_mem ((hm _).2 ha)
    rw [← e]; exact p2 j hj
  | @step b c _ k1 k2 k3 ih =>
    have hb0 := O.rch.2 k2
    exact p1.clo c ih (by simp [k1]) b ((mem_pvN hv (O.lt b hb0)).2 k3) (plF_iff.2 hb0)

theorem filter_len_le {l : List Nat} {p q : Nat → Bool} (h : ∀ t, t ∈ l → p t = true → q t = true) : (l.filter p).length ≤ (l.filter q).length := by
  induction l with
  | nil => simp
  | cons x l ih =>
    have := ih fun t ht => h t (List.mem_cons_of_mem _ ht)
    have hx := h x List.mem_cons_self
    rw [List.filter_cons, List.filter_cons]
    cases e : p x with
    | true => rw [hx e]; simp; omega
    | false => cases q x <;> simp <;> omega
theorem filter_len_lt {l : List Nat} {p q : Nat → Bool} (h : ∀ t, t ∈ l → p t = true → q t = true) {b : Nat} (hb : b ∈ l) (h1 : p b = false) (h2 : q b = true) : (l.filter p).length < (l.filter q).length := by
  induction l with
  | nil => simp at hb
  | cons x l ih =>
    have hle := filter_len_le (l := l) (p := p) (q := q) fun t ht => h t (List.mem_cons_of_mem _ ht)
    have hx := h x List.mem_cons_self
    rw [List.filter_cons, List.filter_cons]
    by_cases e : x = b
    · subst e; rw [h1, h2]; simp; omega
    · have := ih (fun t ht => h t (List.mem_cons_of_mem _ ht)) (by simpa [Ne.symm e] using hb)
      cases e' : p x with
      | true => rw [hx e']; simp; omega
      | false => cases q x <;> simp <;> omega
theorem filter_len_split {n : Nat} {p q : Nat → Bool} {k : Nat} (hk : k < n) (hq : q k = false) (h : ∀ j, j < n → (p j = true ↔ j = k ∨ q j = true)) : ((List.range n).filter p).length = ((List.range n).filter q).length + 1 := by
  induction n with
  | zero => omega
  | succ n ih =>
    rw [List.range_succ, List.filter_append, List.filter_append, List.length_append, List.length_append]
    by_cases e : k = n
    · subst e
      have e1 : (List.range k).filter p = (List.range k).filter q := by
        apply List.filter_congr
        intro x hx
        have hx := List.mem_range.1 hx
        have := h x (by omega)
        have hne : x ≠ k := by omega
        cases e1 : p x <;> cases e2 : q x <;> simp [e1, e2, hne] at this ⊢
      have e2 : p k = true := (h k (by omega)).2 (.inl rfl)
      rw [e1, List.filter_cons, List.filter_cons, e2, hq]; simp
    · have := ih (by omega) fun j hj => h j (by omega)
      have hn := h n (by omega)
      have hne : n ≠ k := fun h => e h.symm
      have : ([n].filter p).length = ([n].filter q).length := by
        cases e1 : p n <;> cases e2 : q n <;> simp [e1, e2, hne] at hn ⊢
      omega

/-- what is known of the loops of a reducible graph -/
structure LF (bs : List Bk) (ls : List Lp) (H : Nat → Nat) : Prop where
  hd : ∀ i, i < ls.length → (nthL ls i).hd = (H i : Int)
  is : ∀ i, i < ls.length → Hd (nxN bs) (H i)
  inj : ∀ i j, i < ls.length → j < ls.length → H i = H j → i = j
  all : ∀ h, Hd (nxN bs) h → ∃ i, i < ls.length ∧ H i = h
  bl : ∀ i, i < ls.length → ∃ p : Nat → Bool, (nthL ls i).bl = ((List.range bs.length).filter p).map Int.ofNat ∧ ∀ t, p t = true ↔ Lb (nxN bs) (H i) t
  la : ∀ i, i < ls.length → (nthL ls i).la = latF bs (H i)
  pa : ∀ i, i < ls.length → (nthL ls i).pa = arK ls i ls.length
theorem lsF_length (bs : List Bk) (pv : List (List Int)) : (lsF bs pv).length = (headF bs).length := by simp [lsF, ls0]
theorem lsF_at {bs : List Bk} {pv : List (List Int)} {i : Nat} (hi : i < (lsF bs pv).length) : nthL (lsF bs pv) i = { lp0 bs pv ((headF bs).getD i 0) with pa := arK (ls0 bs pv) i (ls0 bs pv).length } := by
  rw [lsF_length] at hi
  have h1 : i < (ls0 bs pv).length := by simpa [ls0] using hi
  have e : nthL (ls0 bs pv) i = lp0 bs pv ((headF bs).getD i 0) := by
    rw [nthL, List.getD_eq_getElem?_getD, ls0, List.getElem?_map, List.getD_eq_getElem?_getD, List.getElem?_eq_getElem hi]; rfl
  rw [← e, nthL, lsF, List.getD_eq_getElem?_getD, List.getElem?_map, List.getElem?_range h1]; rfl
theorem lf_of {bs : List Bk} {pv : List (List Int)} (hv : validB bs pv = true) (R : Rdc bs) : LF bs (lsF bs pv) fun i => (headF bs).getD i 0 := by
  have O := ord_of hv
  have hmem : ∀ i, i < (lsF bs pv).length → (headF bs).getD i 0 ∈ headF bs := fun i hi => getD_mem_nat' (by rwa [lsF_length] at hi)
  have hrk : ∀ i, i < (lsF bs pv).length → 0 ≤ rkN bs ((headF bs).getD i 0) := fun i hi => O.rch.2 ((headF_iff hv R _).1 (hmem i hi)).rch
  have hnd : (headF bs).Nodup := ((headF_sorted bs).imp (S := fun a b => a ≠ b) fun h e => by omega).of_map _ fun a b h e => h (congrArg Int.ofNat e)
  refine ⟨fun i hi => by rw [lsF_at hi]; rfl, fun i hi => (headF_iff hv R _).1 (hmem i hi), fun i j hi hj e => ?_, fun h hh => ?_, fun i hi => ⟨bodyF bs pv ((headF bs).getD i 0), ?_, body_iff hv R (hrk i hi)⟩, fun i hi => ?_, fun i hi => ?_⟩
  · rw [lsF_length] at hi hj
    have e : (headF bs).getD i 0 = (headF bs).getD j 0 := e
    rw [List.getD_eq_getElem?_getD, List.getD_eq_getElem?_getD, List.getElem?_eq_getElem hi, List.getElem?_eq_getElem hj] at e
    simp only [Option.getD_some] at e
    rcases Nat.lt_trichotomy i j with k | k | k
    · exact absurd e ((List.pairwise_iff_getElem.1 hnd) i j hi hj k)
    · exact k
    · exact absurd e.symm ((List.pairwise_iff_getElem.1 hnd) j i hj hi k)
  · obtain ⟨i, hi, e⟩ := getD_of_mem ((headF_iff hv R h).2 hh)
    exact ⟨i, by rw [lsF_length]; exact hi, e⟩
  · rw [lsF_at hi]; rfl
  · rw [lsF_at hi]; exact latF_srt hv _
  · rw [lsF_at hi]
    show arK (ls0 bs pv) i (ls0 bs pv).length = arK (lsF bs pv) i (lsF bs pv).length
    have hl : (lsF bs pv).length = (ls0 bs pv).length := by simp [lsF]
    rw [hl]
    have hi0 : i < (ls0 bs pv).length := by rw [← hl]; exact hi
    rw [← lsM_all]
    exact (arK_congr (l := ls0 bs pv) (fun j hj => ⟨(lsM_hd _ _ hj).1, (lsM_hd _ _ hj).2.1⟩) hi0 _ (Nat.le_refl _)).symm
section
variable {bs : List Bk} {pv : List (List Int)} {ls : List Lp} {H : Nat → Nat}
theorem LF.mem (hv : validB bs pv = true) (L : LF bs ls H) {i : Nat} (hi : i < ls.length) (x : Int) : x ∈ (nthL ls i).bl ↔ ∃ t : Nat, x = (t : Int) ∧ Lb (nxN bs) (H i) t := by
  have O := ord_of hv
  obtain ⟨p, hp, hq⟩ := L.bl i hi
  rw [hp, List.mem_map]
  constructor
  · rintro ⟨t, ht, rfl⟩
    exact ⟨t, rfl, (hq t).1 (List.mem_filter.1 ht).2⟩
  · rintro ⟨t, rfl, ht⟩
    exact ⟨t, List.mem_filter.2 ⟨List.mem_range.2 (O.lt t (O.rch.2 (ht.rch (L.is i hi).rch))), (hq t).2 ht⟩, rfl⟩
theorem LF.memLa (hv : validB bs pv = true) (R : Rdc bs) (L : LF bs ls H) {i : Nat} (hi : i < ls.length) (x : Int) : x ∈ (nthL ls i).la ↔ ∃ t : Nat, x = (t : Int) ∧ Lat (nxN bs) (H i) t := by
  rw [L.la i hi]; exact latF_mem hv R _ x
theorem LF.size (hv : validB bs pv = true) (L : LF bs ls H) {i j : Nat} (hi : i < ls.length) (hj : j < ls.length) (h : ∀ t, Lb (nxN bs) (H i) t → Lb (nxN bs) (H j) t) {b : Nat} (h1 : ¬ Lb (nxN bs) (H i) b) (h2 : Lb (nxN bs) (H j) b) : (nthL ls i).bl.length < (nthL ls j).bl.length := by
  have O := ord_of hv
  obtain ⟨p, hp, hq⟩ := L.bl i hi
  obtain ⟨p', hp', hq'⟩ := L.bl j hj
  rw [hp, hp', List.length_map, List.length_map]
  refine filter_len_lt (fun t _ ht => (hq' t).2 (h t ((hq t).1 ht))) (b := b) (List.mem_range.2 (O.lt b (O.rch.2 (h2.rch (L.is j hj).rch)))) ?_ ((hq' b).2 h2)
  cases e : p b with
  | true => exact absurd ((hq b).1 e) h1
  | false => rfl
/-- two loops that share a block: one lies in the other, and is smaller -/
theorem LF.share (hv : validB bs pv = true) (L : LF bs ls H) {i j b : Nat} (hi : i < ls.length) (hj : j < ls.length) (hne : i ≠ j) (b1 : Lb (nxN bs) (H i) b) (b2 : Lb (nxN bs) (H j) b) :
    ((∀ t, Lb (nxN bs) (H i) t → Lb (nxN bs) (H j) t) ∧ (nthL ls i).bl.length < (nthL ls j).bl.length) ∨ ((∀ t, Lb (nxN bs) (H j) t → Lb (nxN bs) (H i) t) ∧ (nthL ls j).bl.length < (nthL ls i).bl.length) := by
  have O := ord_of hv
  have hH : H i ≠ H j := fun e => hne (L.inj i j hi hj e)
  have ri := O.rch.2 (L.is i hi).rch
  have rj := O.rch.2 (L.is j hj).rch
  rcases dm_lin (b1.rch (L.is i hi).rch) b1.dom b2.dom with d | d
  · have hs : ∀ t, Lb (nxN bs) (H j) t → Lb (nxN bs) (H i) t := fun t ht => Lb.nest O hH rj d b1 b2 ht
    exact .inr ⟨hs, L.size hv hj hi hs (Lb.not_outer O hH rj d) .hd⟩
  · have hs : ∀ t, Lb (nxN bs) (H i) t → Lb (nxN bs) (H j) t := fun t ht => Lb.nest O (Ne.symm hH) ri d b2 b1 ht
    exact .inl ⟨hs, L.size hv hi hj hs (Lb.not_outer O (Ne.symm hH) ri d) .hd⟩
theorem arK_spec (ls : List Lp) (i : Nat) : ∀ K, (arK ls i K = -1 ∧ ∀ k, k < K → arC ls i k = false) ∨ (∃ m : Nat, arK ls i K = (m : Int) ∧ m < K ∧ arC ls i m = true ∧ ∀ k, k < K → arC ls i k = true → (nthL ls m).bl.length ≤ (nthL ls k).bl.length)
  | 0 => .inl ⟨rfl, fun k hk => by omega⟩
  | K + 1 => by
    have ih := arK_spec ls i K
    have hst : arK ls i (K + 1) = if arC ls i K && (decide (arK ls i K < 0) || decide ((nthL ls K).bl.length < (nthL ls (arK ls i K).toNat).bl.length)) then (K : Int) else arK ls i K := rfl
    cases hc : arC ls i K with
    | false =>
      rw [hst, hc]
      simp only [Bool.false_and, Bool.false_eq_true, if_false]
      rcases ih with ⟨e, h⟩ | ⟨m, e, h1, h2, h3⟩
      · refine .inl ⟨e, fun k hk => ?_⟩
        by_cases ek : k = K
        · subst ek; exact hc
        · exact h k (by omega)
      · refine .inr ⟨m, e, by omega, h2, fun k hk hck => ?_⟩
        by_cases ek : k = K
        · subst ek; rw [hc] at hck; cases hck
        · exact h3 k (by omega) hck
    | true =>
      rw [hst, hc]
      rcases ih with ⟨e, h⟩ | ⟨m, e, h1, h2, h3⟩
      · rw [e]
        refine .inr ⟨K, by simp, by omega, hc, fun k hk hck => ?_⟩
        by_cases ek : k = K
        · subst ek; exact Nat.le_refl _
        · rw [h k (by omega)] at hck; cases hck
      · rw [e, Int.toNat_natCast]
        by_cases hlt : (nthL ls K).bl.length < (nthL ls m).bl.length
        · refine .inr ⟨K, by simp [hlt], by omega, hc, fun k hk hck => ?_⟩
          by_cases ek : k = K
          · subst ek; exact Nat.le_refl _
          · have := h3 k (by omega) hck; omega
        · have hn : ¬ ((m : Int) < 0) := by omega
          refine .inr ⟨m, by simp [hlt, hn], by omega, h2, fun k hk hck => ?_⟩
          by_cases ek : k = K
          · subst ek; omega
          · exact h3 k (by omega) hck
theorem bestK_spec (ls : List Lp) (x : Int) : ∀ K, (bestK ls x K = -1 ∧ ∀ k, k < K → (nthL ls k).bl.contains x = false) ∨ (∃ m : Nat, bestK ls x K = (m : Int) ∧ m < K ∧ (nthL ls m).bl.contains x = true ∧ ∀ k, k < K → (nthL ls k).bl.contains x = true → (nthL ls m).bl.length ≤ (nthL ls k).bl.length)
  | 0 => .inl ⟨rfl, fun k hk => by omega⟩
  | K + 1 => by
    have ih := bestK_spec ls x K
    have hst : bestK ls x (K + 1) = if (nthL ls K).bl.contains x && (decide (bestK ls x K < 0) || decide ((nthL ls K).bl.length < (nthL ls (bestK ls x K).toNat).bl.length)) then (K : Int) else bestK ls x K := rfl
    cases hc : (nthL ls K).bl.contains x with
    | false =>
      rw [hst, hc]
      simp only [Bool.false_and, Bool.false_eq_true, if_false]
      rcases ih with ⟨e, h⟩ | ⟨m, e, h1, h2, h3⟩
      · refine .inl ⟨e, fun k hk => ?_⟩
        by_cases ek : k = K
        · subst ek; exact hc
        · exact h k (by omega)
      · refine .inr ⟨m, e, by omega, h2, fun k hk hck => ?_⟩
        by_cases ek : k = K
        · subst ek; rw [hc] at hck; cases hck
        · exact h3 k (by omega) hck
    | true =>
      rw [hst, hc]
      rcases ih with ⟨e, h⟩ | ⟨m, e, h1, h2, h3⟩
      · rw [e]
        refine .inr ⟨K, by simp, by omega, hc, fun k hk hck => ?_⟩
        by_cases ek : k = K
        · subst ek; exact Nat.le_refl _
        · rw [h k (by omega)] at hck; cases hck
      · rw [e, Int.toNat_natCast]
        by_cases hlt : (nthL ls K).bl.length < (nthL ls m).bl.length
        · refine .inr ⟨K, by simp [hlt], by omega, hc, fun k hk hck => ?_⟩
          by_cases ek : k = K
          · subst ek; exact Nat.le_refl _
          · have := h3 k (by omega) hck; omega
        · have hn : ¬ ((m : Int) < 0) := by omega
          refine .inr ⟨m, by simp [hlt, hn], by omega, h2, fun k hk hck => ?_⟩
          by_cases ek : k = K
          · subst ek; omega
          · exact h3 k (by omega) hck
theorem depthK_eq (ls : List Lp) (x : Int) : ∀ k, depthK ls x k = ((List.range k).filter fun j => (nthL ls j).bl.contains x).length
  | 0 => rfl
  | k + 1 => by
    rw [depthK, depthK_eq ls x k, List.range_succ, List.filter_append, List.length_append, List.filter_cons]
    cases (nthL ls k).bl.contains x <;> simp
/-- how many loops around x are at least as large as loop k -/
def upF (ls : List Lp) (x : Int) (k : Nat) : Nat := ((List.range ls.length).filter fun j => (nthL ls j).bl.contains x && decide ((nthL ls k).bl.length ≤ (nthL ls j).bl.length)).length
/-- where the walk along the parents stands -/
def NP (ls : List Lp) (x : Int) (k : Int) (d : Nat) : Prop :=
  (k = -1 ∧ d = depthK ls x ls.length) ∨ ∃ m : Nat, k = (m : Int) ∧ m < ls.length ∧ (nthL ls m).bl.contains x = true ∧ d + upF ls x m = depthK ls x ls.length
theorem np_start (ls : List Lp) (x : Int) : NP ls x (bestK ls x ls.length) 0 := by
  unfold NP
  rw [depthK_eq]
  rcases bestK_spec ls x ls.length with ⟨e, h⟩ | ⟨m, e, h1, h2, h3⟩
  · refine .inl ⟨e, ?_⟩
    have : (List.range ls.length).filter (fun j => (nthL ls j).bl.contains x) = [] := by
      rw [List.filter_eq_nil_iff]
      intro j hj
      rw [h j (List.mem_range.1 hj)]; simp
    rw [this]; rfl
  · refine .inr ⟨m, e, h1, h2, ?_⟩
    unfold upF
    rw [Nat.zero_add]
    congr 1
    apply List.filter_congr
    intro j hj
    cases hc : (nthL ls j).bl.contains x with
    | false => rfl
    | true => simp; exact h3 j (List.mem_range.1 hj) hc
theorem np_pos {ls : List Lp} {x : Int} {m d : Nat} (h : NP ls x (m : Int) d) : m < ls.length ∧ (nthL ls m).bl.contains x = true ∧ d < ls.length := by
  rcases h with ⟨e, _⟩ | ⟨m', e, h1, h2, h3⟩
  · omega
  · obtain rfl : m = m' := by omega
    have hd := depthK_le ls x ls.length
    have : 0 < upF ls x m := by
      unfold upF
      exact List.length_pos_of_mem (List.mem_filter.2 ⟨List.mem_range.2 h1, by rw [h2]; simp⟩)
    exact ⟨h1, h2, by omega⟩
theorem np_end {ls : List Lp} {x : Int} {k : Int} {d : Nat} (h : NP ls x k d) (hk : k < 0) : d = depthK ls x ls.length := by
  rcases h with ⟨_, e⟩ | ⟨m', e, _⟩
  · exact e
  · omega
theorem np_step (hv : validB bs pv = true) (L : LF bs ls H) {b m d : Nat} (h : NP ls (b : Int) (m : Int) d) :
    NP ls (b : Int) (nthL ls m).pa (d + 1) ∧ -1 ≤ (nthL ls m).pa ∧ (nthL ls m).pa < ls.length ∧ (0 ≤ (nthL ls m).pa → (nthL ls m).bl.length < (nthL ls (nthL ls m).pa.toNat).bl.length ∧ ∀ x, x ∈ (nthL ls m).bl → (nthL ls (nthL ls m).pa.toNat).bl.contains x = true) := by
  have hp := np_pos h
  have hup : d + upF ls b m = depthK ls b ls.length := by
    rcases h with ⟨e, _⟩ | ⟨m', e, _, _, h3⟩
    · omega
    · obtain rfl : m = m' := by omega
      exact h3
  have hbm : Lb (nxN bs) (H m) b := by
    have := List.contains_iff_mem.1 hp.2.1
    obtain ⟨t, e, ht⟩ := (L.mem hv hp.1 _).1 this
    obtain rfl : b = t := by omega
    exact ht
  have hin : ∀ j, j < ls.length → ((nthL ls j).bl.contains (b : Int) = true ↔ Lb (nxN bs) (H j) b) := fun j hj => by
    rw [List.contains_iff_mem, L.mem hv hj]
    constructor
    · rintro ⟨t, e, ht⟩
      obtain rfl : b = t := by omega
      exact ht
    · intro ht; exact ⟨b, rfl, ht⟩
  -- the loops around loop m are those around b that are larger
  have hC : ∀ j, j < ls.length → (arC ls m j = true ↔ (nthL ls j).bl.contains (b : Int) = true ∧ (nthL ls m).bl.length < (nthL ls j).bl.length) := fun j hj => by
    rw [hin j hj]
    have harC : arC ls m j = true ↔ j ≠ m ∧ (nthL ls j).hd ≠ (nthL ls m).hd ∧ ∀ x, x ∈ (nthL ls m).bl → x ∈ (nthL ls j).bl := by
      unfold arC
      simp only [Bool.and_eq_true, Bool.not_eq_true', decide_eq_false_iff_not, List.any_eq_false, Bool.not_eq_true, Bool.not_eq_false', and_assoc, ne_eq]
      simp only [List.contains_iff_mem, Bool.not_eq_false]
    rw [harC]
    constructor
    · rintro ⟨h1, h2, h3⟩
      have hsub : ∀ t, Lb (nxN bs) (H m) t → Lb (nxN bs) (H j) t := fun t ht => by
        obtain ⟨t', e, ht'⟩ := (L.mem hv hj _).1 (h3 t ((L.mem hv hp.1 _).2 ⟨t, rfl, ht⟩))
        obtain rfl : t = t' := by omega
        exact ht'
      refine ⟨hsub b hbm, ?_⟩
      rcases L.share hv hp.1 hj (Ne.symm h1) hbm (hsub b hbm) with k | k
      · exact k.2
      · obtain ⟨p, hp1, hp2⟩ := L.bl m hp.1
        obtain ⟨p', hp1', hp2'⟩ := L.bl j hj
        have : (nthL ls m).bl.length ≤ (nthL ls j).bl.length := by
          rw [hp1, hp1', List.length_map, List.length_map]
          exact filter_len_le fun t _ ht => (hp2' t).2 (hsub t ((hp2 t).1 ht))
        omega
    · rintro ⟨h1, h2⟩
      have hne : j ≠ m := fun e => by subst e; omega
      rcases L.share hv hp.1 hj (Ne.symm hne) hbm h1 with k | k
      · refine ⟨hne, fun e => ?_, fun x hx => ?_⟩
        · rw [L.hd j hj, L.hd m hp.1] at e
          exact hne (L.inj j m hj hp.1 (by omega))
        · obtain ⟨t, rfl, ht⟩ := (L.mem hv hp.1 _).1 hx
          exact (L.mem hv hj _).2 ⟨t, rfl, k.1 t ht⟩
      · omega
  have hsplit : upF ls b m = ((List.range ls.length).filter fun j => (nthL ls j).bl.contains (b : Int) && decide ((nthL ls m).bl.length < (nthL ls j).bl.length)).length + 1 := by
    unfold upF
    refine filter_len_split hp.1 (by simp) fun j hj => ?_
    simp only [Bool.and_eq_true, decide_eq_true_eq]
    constructor
    · rintro ⟨h1, h2⟩
      by_cases e : j = m
      · exact .inl e
      · refine .inr ⟨h1, ?_⟩
        rcases L.share hv hp.1 hj (Ne.symm e) hbm ((hin j hj).1 h1) with k | k
        · exact k.2
        · omega
    · rintro (e | ⟨h1, h2⟩)
      · subst e; exact ⟨hp.2.1, Nat.le_refl _⟩
      · exact ⟨h1, by omega⟩
  rw [L.pa m hp.1]
  rcases arK_spec ls m ls.length with ⟨e, hno⟩ | ⟨q, e, q1, q2, q3⟩
  · rw [e]
    refine ⟨.inl ⟨rfl, ?_⟩, by omega, by omega, fun h => by omega⟩
    have : (List.range ls.length).filter (fun j => (nthL ls j).bl.contains (b : Int) && decide ((nthL ls m).bl.length < (nthL ls j).bl.length)) = [] := by
      rw [List.filter_eq_nil_iff]
      intro j hj hh
      simp only [Bool.and_eq_true, decide_eq_true_eq] at hh
      have := (hC j (List.mem_range.1 hj)).2 hh
      rw [hno j (List.mem_range.1 hj)] at this
      cases this
    rw [this] at hsplit
    simp at hsplit
    omega
  · rw [e]
    have hq := (hC q q1).1 q2
    refine ⟨.inr ⟨q, rfl, q1, hq.1, ?_⟩, by omega, by omega, fun _ => ?_⟩
    · have : upF ls b q = ((List.range ls.length).filter fun j => (nthL ls j).bl.contains (b : Int) && decide ((nthL ls m).bl.length < (nthL ls j).bl.length)).length := by
        unfold upF
        congr 1
        apply List.filter_congr
        intro j hj
        have hj := List.mem_range.1 hj
        cases hc : (nthL ls j).bl.contains (b : Int) with
        | false => rfl
        | true =>
          rw [Bool.true_and, Bool.true_and]
          apply decide_eq_decide.2
          constructor
          · intro h; omega
          · intro h; exact q3 j hj ((hC j hj).2 ⟨hc, h⟩)
      omega
    · rw [Int.toNat_natCast]
      refine ⟨hq.2, fun x hx => ?_⟩
      rw [List.contains_iff_mem]
      unfold arC at q2
      simp only [Bool.and_eq_true, Bool.not_eq_true', List.any_eq_false, Bool.not_eq_false'] at q2
      have := q2.2 x hx
      simpa using this
end
end Go.Proofs.Ytcbofikjcgdjmaa
