/- The algorithm of Cooper, Harvey and Kennedy: it comes to an end, and what it finds are the dominators. -/
import Derived.Test.YtcbofikjcgdjmaaG1
namespace Go.Proofs.Ytcbofikjcgdjmaa
set_option linter.unusedVariables false
set_option linter.unusedSimpArgs false

/-- a path from 0 that does not pass a -/
inductive Av (nx : Nat → List Nat) (a : Nat) : Nat → Prop
  | zero : a ≠ 0 → Av nx a 0
  | step {p b : Nat} : Av nx a p → b ∈ nx p → b ≠ a → Av nx a b
structure Env (n : Nat) (rk : Nat → Int) (pv nx : Nat → List Nat) : Prop where
  zero : rk 0 = 0
  inj : ∀ a b, 0 ≤ rk a → rk a = rk b → a = b
  par : ∀ b, 0 < rk b → ∃ q, q ∈ pv b ∧ 0 ≤ rk q ∧ rk q < rk b
  edge : ∀ p b, 0 ≤ rk p → (p ∈ pv b ↔ b ∈ nx p)
  clo : ∀ p b, 0 ≤ rk p → b ∈ nx p → 0 ≤ rk b
  top : ∀ t, rk t < n
  lt : ∀ t, 0 ≤ rk t → t < n
/-- the chain from x passes y -/
inductive Ch (id : Nat → Int) : Nat → Nat → Prop
  | refl (x : Nat) : Ch id x x
  | step {x y : Nat} : x ≠ 0 → 0 ≤ id x → Ch id (id x).toNat y → Ch id x y
structure WF (rk id : Nat → Int) : Prop where
  z : id 0 = 0
  d : ∀ b, b ≠ 0 → 0 ≤ id b → 0 < rk b ∧ 0 ≤ rk (id b).toNat ∧ rk (id b).toNat < rk b ∧ 0 ≤ id (id b).toNat
theorem Ch.trans {id : Nat → Int} {x y z : Nat} (h : Ch id x y) (h' : Ch id y z) : Ch id x z := by
  induction h with
  | refl => exact h'
  | step a b _ ih => exact .step a b (ih h')
theorem Ch.rk {rk id : Nat → Int} (w : WF rk id) {x y : Nat} (h : Ch id x y) (h0 : 0 ≤ rk x) (h1 : 0 ≤ id x) : 0 ≤ rk y ∧ 0 ≤ id y ∧ (y = x ∨ rk y < rk x) := by
  induction h with
  | refl => exact ⟨h0, h1, .inl rfl⟩
  | step a b _ ih =>
    have hd := w.d _ a b
    have := ih hd.2.1 hd.2.2.2
    refine ⟨this.1, this.2.1, .inr ?_⟩
    rcases this.2.2 with e | e
    · rw [e]; exact hd.2.2.1
    · omega
theorem Ch.zero {id : Nat → Int} {y : Nat} (h : Ch id 0 y) : y = 0 := by
  cases h with
  | refl => rfl
  | step a _ _ => exact absurd rfl a
theorem Ch.down {id : Nat → Int} {x y : Nat} (h : Ch id x y) (hne : y ≠ x) : x ≠ 0 ∧ 0 ≤ id x ∧ Ch id (id x).toNat y := by
  cases h with
  | refl => exact absurd rfl hne
  | step a b c => exact ⟨a, b, c⟩
theorem Ch.lin {rk id : Nat → Int} (w : WF rk id) {x a b : Nat} (h0 : 0 ≤ rk x) (h1 : 0 ≤ id x) (ha : Ch id x a) (hb : Ch id x b) (hle : rk b ≤ rk a) : Ch id a b := by
  induction ha with
  | refl => exact hb
  | @step x' y' k1 k2 k3 ih =>
    have hd := w.d _ k1 k2
    have ha' := k3.rk w hd.2.1 hd.2.2.2
    have hb' := hb.rk w h0 h1
    have hne : b ≠ x' := fun e => by
      subst e
      rcases ha'.2.2 with e | e
      · rw [e] at hle; omega
      · omega
    exact ih hd.2.1 hd.2.2.2 (hb.down hne).2.2 hle
theorem Ch.congr {rk id id' : Nat → Int} (w : WF rk id) {r : Int} (e : ∀ u, rk u < r → id u = id' u) {z y : Nat} (hz : rk z < r) : Ch id z y ↔ Ch id' z y := by
  constructor
  · intro h
    induction h with
    | refl => exact .refl _
    | step a b _ ih =>
      have hd := w.d _ a b
      have e1 := e _ hz
      have := ih (by omega)
      rw [e1] at this b
      exact .step a b this
  · intro h
    induction h with
    | refl => exact .refl _
    | step a b _ ih =>
      have e1 := e _ hz
      rw [← e1] at b ih
      have hd := w.d _ a b
      exact .step a b (ih (by omega))

theorem meet_ok {n : Nat} {rk id : Nat → Int} {pv nx : Nat → List Nat} (E : Env n rk pv nx) (w : WF rk id) : ∀ (f a b : Nat), 0 ≤ rk a → 0 ≤ id a → 0 ≤ rk b → 0 ≤ id b → rk a + rk b ≤ f →
    ∃ m, meetF rk id n f a b = some m ∧ 0 ≤ rk m ∧ 0 ≤ id m ∧ ∀ y, Ch id m y ↔ Ch id a y ∧ Ch id b y := by
  intro f
  induction f with
  | zero =>
    intro a b ha ha' hb hb' hf
    have e : a = b := E.inj a b ha (by omega)
    subst e
    exact ⟨a, by rw [meetF, if_pos rfl], ha, ha', fun y => by simp⟩
  | succ f ih =>
    intro a b ha ha' hb hb' hf
    by_cases e : a = b
    · subst e
      exact ⟨a, by rw [meetF, if_pos rfl], ha, ha', fun y => by simp⟩
    · by_cases hlt : rk b < rk a
      · have hane : a ≠ 0 := fun e => by subst e; rw [E.zero] at hlt; omega
        have hd := w.d a hane ha'
        have hn := E.lt _ hd.2.1
        obtain ⟨m, h1, h2, h3, h4⟩ := ih (id a).toNat b hd.2.1 hd.2.2.2 hb hb' (by omega)
        refine ⟨m, by rw [meetF, if_neg e, if_pos hlt, if_pos ⟨ha', by omega⟩]; exact h1, h2, h3, fun y => ?_⟩
        rw [h4]
        constructor
        · rintro ⟨k1, k2⟩; exact ⟨.step hane ha' k1, k2⟩
        · rintro ⟨k1, k2⟩
          have := k2.rk w hb hb'
          exact ⟨(k1.down fun e => by subst e; rcases this.2.2 with e | e <;> omega).2.2, k2⟩
      · have hlt' : rk a < rk b := by
          rcases Int.lt_or_eq_of_le (Int.not_lt.1 hlt) with h | h
          · exact h
          · exact absurd (E.inj a b ha h) e
        have hbne : b ≠ 0 := fun e => by subst e; rw [E.zero] at hlt'; omega
        have hd := w.d b hbne hb'
        have hn := E.lt _ hd.2.1
        obtain ⟨m, h1, h2, h3, h4⟩ := ih a (id b).toNat ha ha' hd.2.1 hd.2.2.2 (by omega)
        refine ⟨m, by rw [meetF, if_neg e, if_neg hlt, if_pos ⟨hb', by omega⟩]; exact h1, h2, h3, fun y => ?_⟩
        rw [h4]
        constructor
        · rintro ⟨k1, k2⟩; exact ⟨k1, .step hbne hb' k2⟩
        · rintro ⟨k1, k2⟩
          have := k1.rk w ha ha'
          exact ⟨k1, (k2.down fun e => by subst e; rcases this.2.2 with e | e <;> omega).2.2⟩

theorem best_ok {n : Nat} {rk id : Nat → Int} {pv nx : Nat → List Nat} (E : Env n rk pv nx) (w : WF rk id) (ps : List Nat) : ∀ k, k ≤ ps.length →
    ∃ x, bestP rk id n ps k = some x ∧ ((x = -1 ∧ ∀ j, j < k → ¬ (0 ≤ rk (ps.getD j 0) ∧ 0 ≤ id (ps.getD j 0))) ∨
      (0 ≤ x ∧ 0 ≤ rk x.toNat ∧ 0 ≤ id x.toNat ∧ ∀ y, Ch id x.toNat y ↔ ∀ j, j < k → 0 ≤ rk (ps.getD j 0) → 0 ≤ id (ps.getD j 0) → Ch id (ps.getD j 0) y)) := by
  intro k
  induction k with
  | zero => intro _; exact ⟨-1, rfl, .inl ⟨rfl, fun j hj => by omega⟩⟩
  | succ k ih =>
    intro hk
    obtain ⟨x, h1, h2⟩ := ih (by omega)
    obtain ⟨p, hp⟩ : ∃ p, ps.getD k 0 = p := ⟨_, rfl⟩
    have hb : bestP rk id n ps (k + 1) = stepP rk id n x p := by rw [bestP, h1, hp]; rfl
    rw [hb, stepP]
    by_cases hpr : rk p < 0 ∨ id p < 0
    · rw [if_pos hpr]
      refine ⟨x, rfl, ?_⟩
      rcases h2 with ⟨e, h⟩ | ⟨h0, h3, h4, h⟩
      · refine .inl ⟨e, fun j hj => ?_⟩
        by_cases ej : j = k
        · subst ej; rw [hp]; omega
        · exact h j (by omega)
      · refine .inr ⟨h0, h3, h4, fun y => ?_⟩
        rw [h]
        constructor
        · intro hh j hj a b
          by_cases ej : j = k
          · subst ej; rw [hp] at a b; omega
          · exact hh j (by omega) a b
        · intro hh j hj a b; exact hh j (by omega) a b
    · rw [if_neg hpr]
      rcases h2 with ⟨e, h⟩ | ⟨h0, h3, h4, h⟩
      · rw [if_pos (by omega)]
        refine ⟨_, rfl, .inr ⟨by omega, by rw [Int.toNat_natCast]; omega, by rw [Int.toNat_natCast]; omega, fun y => ?_⟩⟩
        rw [Int.toNat_natCast]
        constructor
        · intro hc j hj a b
          by_cases ej : j = k
          · subst ej; rw [hp]; exact hc
          · exact absurd ⟨a, b⟩ (h j (by omega))
        · intro hh
          have := hh k (by omega)
          rw [hp] at this
          exact this (by omega) (by omega)
      · rw [if_neg (by omega)]
        have t1 := E.top x.toNat
        have t2 := E.top p
        obtain ⟨m, m1, m2, m3, m4⟩ := meet_ok E w (2 * n) x.toNat p h3 h4 (by omega) (by omega) (by omega)
        rw [m1]
        refine ⟨_, rfl, .inr ⟨by show (0 : Int) ≤ (m : Int); omega, m2, m3, fun y => ?_⟩⟩
        show Ch id m y ↔ _
        rw [m4, h]
        constructor
        · rintro ⟨k1, k2⟩ j hj a b
          by_cases ej : j = k
          · subst ej; rw [hp]; exact k2
          · exact k1 j (by omega) a b
        · intro hh
          refine ⟨fun j hj a b => hh j (by omega) a b, ?_⟩
          have := hh k (by omega)
          rw [hp] at this
          exact this (by omega) (by omega)
/-- what the walk from old finds while it stands at t: the new below t's rank, the old from there on -/
def mixF (rk old new : Nat → Int) (r : Int) : Nat → Int := fun u => if rk u < r then new u else old u
structure Pass (rk : Nat → Int) (pv : Nat → List Nat) (old new : Nat → Int) : Prop where
  wf : WF rk new
  full : ∀ t, 0 < rk t → 0 ≤ new t
  neg : ∀ t, rk t < 0 → new t = old t
  eq : ∀ t, 0 < rk t → ∀ y, Ch new (new t).toNat y ↔ ∀ p, p ∈ pv t → 0 ≤ rk p → 0 ≤ mixF rk old new (rk t) p → Ch (mixF rk old new (rk t)) p y
theorem passK_ok {n : Nat} {rk : Nat → Int} {pv nx : Nat → List Nat} (E : Env n rk pv nx) {bs : List Nat} (hbs : ∀ i, i < bs.length → rk (bs.getD i 0) = i + 1) {old : Nat → Int} (w : WF rk old) : ∀ k, k ≤ bs.length →
    ∃ st, passK rk n pv bs old k = some st ∧ WF rk st.1 ∧ (∀ t, ¬ (0 < rk t ∧ rk t ≤ k) → st.1 t = old t) ∧ (∀ t, 0 < rk t → rk t ≤ k → 0 ≤ st.1 t) ∧
      (∀ t, 0 < rk t → rk t ≤ k → ∀ y, Ch st.1 (st.1 t).toNat y ↔ ∀ p, p ∈ pv t → 0 ≤ rk p → 0 ≤ mixF rk old st.1 (rk t) p → Ch (mixF rk old st.1 (rk t)) p y) ∧ (st.2 = false ↔ st.1 = old) := by
  intro k
  induction k with
  | zero => intro _; exact ⟨(old, false), rfl, w, fun t _ => rfl, fun t h1 h2 => by omega, fun t h1 h2 => by omega, by simp⟩
  | succ k ih =>
    intro hk
    obtain ⟨⟨id, fl⟩, h1, w', h3, h4, h5, h6⟩ := ih (by omega)
    obtain ⟨b, hb⟩ : ∃ b, bs.getD k 0 = b := ⟨_, rfl⟩
    have hr : rk b = k + 1 := by rw [← hb]; exact hbs k (by omega)
    dsimp only at w' h3 h4 h5 h6
    have hbne : b ≠ 0 := fun e => by subst e; rw [E.zero] at hr; omega
    have hmix : ∀ u, mixF rk old id (rk b) u = id u := fun u => by
      unfold mixF
      split
      · rfl
      · exact (h3 u (by omega)).symm
    have hmix' : mixF rk old id (rk b) = id := funext hmix
    obtain ⟨x, x1, x2⟩ := best_ok E w' (pv b) (pv b).length (Nat.le_refl _)
    obtain ⟨q, q1, q2, q3⟩ := E.par b (by omega)
    have hq : 0 ≤ id q := by
      by_cases e : rk q = 0
      · have : q = 0 := (E.inj 0 q (by rw [E.zero]; omega) (by rw [E.zero]; omega)).symm
        rw [this, w'.z]; omega
      · exact h4 q (by omega) (by omega)
    obtain ⟨jq, j1, j2⟩ := getD_of_mem q1
    rcases x2 with ⟨_, hno⟩ | ⟨x2, x3, x4, x5⟩
    · exact absurd ⟨by rw [j2]; exact q2, by rw [j2]; exact hq⟩ (hno jq j1)
    have x6 : ∀ y, Ch id x.toNat y ↔ ∀ p, p ∈ pv b → 0 ≤ rk p → 0 ≤ id p → Ch id p y := fun y => by
      rw [x5]
      constructor
      · intro hh p hp a c
        obtain ⟨j, a1, a2⟩ := getD_of_mem hp
        rw [← a2] at a c ⊢
        exact hh j a1 a c
      · intro hh j hj a c
        exact hh _ (getD_mem_nat' hj) a c
    have hxq := (x6 x.toNat).1 (.refl _) q q1 q2 hq
    have hxr := hxq.rk w' q2 hq
    have hxlt : rk x.toNat < rk b := by
      rcases hxr.2.2 with e | e
      · rw [e]; exact q3
      · omega
    obtain ⟨id2, hid2⟩ : ∃ id2, setI id b x = id2 := ⟨_, rfl⟩
    have e1 : ∀ t, t ≠ b → id2 t = id t := fun t ht => by rw [← hid2, setI, if_neg ht]
    have e2 : id2 b = x := by rw [← hid2, setI, if_pos rfl]
    have hpk : passK rk n pv bs old (k + 1) = some (if x = id b then (id, fl) else (id2, true)) := by
      rw [passK, h1, hb]
      show stepB rk n pv (id, fl) b = _
      rw [stepB, x1, Option.map_some, hid2]
    have hst : (if x = id b then (id, fl) else (id2, true)).1 = id2 := by
      split
      · next e => funext t
                  by_cases ht : t = b
                  · subst ht; rw [e2, e]
                  · rw [e1 t ht]
      · rfl
    have w2 : WF rk id2 := by
      refine ⟨by rw [e1 0 (Ne.symm hbne)]; exact w'.z, fun t ht h0 => ?_⟩
      have hge : ∀ u, 0 ≤ id u → 0 ≤ id2 u := fun u hu => by
        by_cases e : u = b
        · subst e; rw [e2]; exact x2
        · rw [e1 u e]; exact hu
      by_cases e : t = b
      · subst e
        rw [e2]
        exact ⟨by omega, x3, hxlt, hge _ x4⟩
      · rw [e1 t e] at h0 ⊢
        have := w'.d t ht h0
        exact ⟨this.1, this.2.1, this.2.2.1, hge _ this.2.2.2⟩
    have hne : ∀ u, rk u < rk b → u ≠ b := fun u hu e => by subst e; omega
    refine ⟨_, hpk, ?_⟩
    rw [hst]
    refine ⟨w2, fun t ht => ?_, fun t h0 hle => ?_, fun t h0 hle y => ?_, ?_⟩
    · have htb : t ≠ b := fun e => by subst e; omega
      rw [e1 t htb]
      exact h3 t (by omega)
    · by_cases e : t = b
      · subst e; rw [e2]; exact x2
      · rw [e1 t e]
        refine h4 t h0 ?_
        have : rk t ≠ rk b := fun h => e (E.inj t b (by omega) h)
        omega
    · by_cases e : t = b
      · subst e
        rw [e2]
        have hm : mixF rk old id2 (rk t) = id := by
          funext u
          rw [← hmix u]
          unfold mixF
          by_cases hu : rk u < rk t
          · rw [if_pos hu, if_pos hu, e1 u (hne u hu)]
          · rw [if_neg hu, if_neg hu]
        rw [hm, ← x6]
        exact (Ch.congr (id := id2) (id' := id) w2 (r := rk t) (fun u hu => e1 u (hne u hu)) hxlt)
      · have hlt : rk t ≤ k := by
          have : rk t ≠ rk b := fun h => e (E.inj t b (by omega) h)
          omega
        have hm : mixF rk old id2 (rk t) = mixF rk old id (rk t) := by
          funext u
          unfold mixF
          by_cases hu : rk u < rk t
          · rw [if_pos hu, if_pos hu, e1 u (hne u (by omega))]
          · rw [if_neg hu, if_neg hu]
        rw [hm, ← h5 t h0 hlt, e1 t e]
        have hd := w'.d t (fun e => by subst e; rw [E.zero] at h0; omega) (h4 t h0 hlt)
        exact (Ch.congr (id := id2) (id' := id) w2 (r := rk b) (fun u hu => e1 u (hne u hu)) (by omega))
    · by_cases e : x = id b
      · rw [if_pos e]
        have : id2 = id := by
          funext t
          by_cases ht : t = b
          · subst ht; rw [e2, e]
          · rw [e1 t ht]
        rw [this]; exact h6
      · rw [if_neg e]
        constructor
        · intro h; cases h
        · intro h
          have := congrFun h b
          rw [e2, ← h3 b (by omega)] at this
          exact absurd this e
theorem pass_ok {n : Nat} {rk : Nat → Int} {pv nx : Nat → List Nat} (E : Env n rk pv nx) {bs : List Nat} (hbs : ∀ i, i < bs.length → rk (bs.getD i 0) = i + 1) (hall : ∀ t, rk t ≤ bs.length) {old : Nat → Int} (w : WF rk old) :
    ∃ st, passK rk n pv bs old bs.length = some st ∧ Pass rk pv old st.1 ∧ (st.2 = false ↔ st.1 = old) := by
  obtain ⟨st, h1, h2, h3, h4, h5, h6⟩ := passK_ok E hbs w bs.length (Nat.le_refl _)
  exact ⟨st, h1, ⟨h2, fun t ht => h4 t ht (hall t), fun t ht => h3 t (by omega), fun t ht y => h5 t ht (hall t) y⟩, h6⟩
end Go.Proofs.Ytcbofikjcgdjmaa
