/- The algorithm of Cooper, Harvey and Kennedy: pass upon pass. -/
import Derived.Test.YtcbofikjcgdjmaaG2
namespace Go.Proofs.Ytcbofikjcgdjmaa
set_option linter.unusedVariables false
set_option linter.unusedSimpArgs false

/-- z is the first node of rank below r on the chain from p -/
structure Top (rk old : Nat → Int) (r : Int) (p z : Nat) : Prop where
  ch : Ch old p z
  ge : 0 ≤ rk z
  lt : rk z < r
  all : ∀ z', Ch old p z' → rk z' < r → Ch old z z'
theorem top_ok {n : Nat} {rk old new : Nat → Int} {pv nx : Nat → List Nat} (E : Env n rk pv nx) (w : WF rk old) (w' : WF rk new) {r : Int} (hr : 0 < r) : ∀ (k p : Nat), rk p ≤ k → 0 ≤ rk p → 0 ≤ old p →
    ∃ z, Top rk old r p z ∧ ∀ y, rk y < r → (Ch (mixF rk old new r) p y ↔ Ch new z y) := by
  have base : ∀ p, 0 ≤ rk p → rk p < r → ∃ z, Top rk old r p z ∧ ∀ y, rk y < r → (Ch (mixF rk old new r) p y ↔ Ch new z y) := fun p h0 hlt =>
    ⟨p, ⟨.refl _, h0, hlt, fun z' h _ => h⟩, fun y _ => (Ch.congr (id := new) (id' := mixF rk old new r) w' (r := r) (fun u hu => by unfold mixF; rw [if_pos hu]) hlt).symm⟩
  intro k
  induction k with
  | zero => intro p hk h0 ho; exact base p h0 (by omega)
  | succ k ih =>
    intro p hk h0 ho
    by_cases hlt : rk p < r
    · exact base p h0 hlt
    · have hp : p ≠ 0 := fun e => by subst e; rw [E.zero] at hlt; omega
      have hd := w.d p hp ho
      obtain ⟨z, t, h⟩ := ih (old p).toNat (by omega) hd.2.1 hd.2.2.2
      have hm : mixF rk old new r p = old p := by unfold mixF; rw [if_neg hlt]
      refine ⟨z, ⟨.step hp ho t.ch, t.ge, t.lt, fun z' h1 h2 => t.all z' (h1.down fun e => by subst e; omega).2.2 h2⟩, fun y hy => ?_⟩
      rw [← h y hy]
      constructor
      · intro h1
        have := (h1.down fun e => by subst e; omega).2.2
        rw [hm] at this
        exact this
      · intro h1
        refine .step hp (by rw [hm]; exact ho) ?_
        rw [hm]; exact h1
theorem Pass.split {n : Nat} {rk old new : Nat → Int} {pv nx : Nat → List Nat} (E : Env n rk pv nx) (w : WF rk old) (P : Pass rk pv old new) {t : Nat} (ht : 0 < rk t) (y : Nat) :
    Ch new (new t).toNat y ↔ (∀ p, p ∈ pv t → 0 ≤ rk p → rk p < rk t → Ch new p y) ∧ (∀ p, p ∈ pv t → rk t ≤ rk p → 0 ≤ old p → ∃ z, Top rk old (rk t) p z ∧ Ch new z y) := by
  have h0 : ∀ p, 0 ≤ rk p → 0 ≤ new p := fun p hp => by
    by_cases e : rk p = 0
    · have : p = 0 := (E.inj 0 p (by rw [E.zero]; omega) (by rw [E.zero]; omega)).symm
      rw [this, P.wf.z]; omega
    · exact P.full p (by omega)
  have hf : ∀ p y, rk p < rk t → (Ch (mixF rk old new (rk t)) p y ↔ Ch new p y) := fun p y hp =>
    (Ch.congr (id := new) (id' := mixF rk old new (rk t)) P.wf (r := rk t) (fun u hu => by unfold mixF; rw [if_pos hu]) hp).symm
  obtain ⟨q, q1, q2, q3⟩ := E.par t ht
  constructor
  · intro hc
    have hy : rk y < rk t := by
      have hd := P.wf.d t (fun e => by subst e; rw [E.zero] at ht; omega) (P.full t ht)
      have := hc.rk P.wf hd.2.1 hd.2.2.2
      rcases this.2.2 with e | e
      · rw [e]; exact hd.2.2.1
      · omega
    rw [P.eq t ht] at hc
    refine ⟨fun p hp h1 h2 => ?_, fun p hp h1 h2 => ?_⟩
    · exact (hf p y h2).1 (hc p hp h1 (by unfold mixF; rw [if_pos h2]; exact h0 p h1))
    · obtain ⟨z, z1, z2⟩ := top_ok E w P.wf ht (rk p).toNat p (by omega) (by omega) h2
      exact ⟨z, z1, (z2 y hy).1 (hc p hp (by omega) (by unfold mixF; rw [if_neg (by omega)]; exact h2))⟩
  · rintro ⟨h1, h2⟩
    have hy : rk y < rk t := by
      have := (h1 q q1 q2 q3).rk P.wf q2 (h0 q q2)
      rcases this.2.2 with e | e
      · rw [e]; exact q3
      · omega
    rw [P.eq t ht]
    intro p hp a b
    by_cases hlt : rk p < rk t
    · exact (hf p y hlt).2 (h1 p hp a hlt)
    · have ho : 0 ≤ old p := by unfold mixF at b; rw [if_neg hlt] at b; exact b
      obtain ⟨z, z1, z2⟩ := h2 p hp (by omega) ho
      obtain ⟨z', t1, t2⟩ := top_ok E w P.wf ht (rk p).toNat p (by omega) (by omega) ho
      have e : z = z' := by
        have a1 := z1.all z' t1.ch t1.lt
        have a2 := t1.all z z1.ch z1.lt
        have hz := z1.ch.rk w (by omega) ho
        have hz' := t1.ch.rk w (by omega) ho
        have b1 := a1.rk w hz.1 hz.2.1
        have b2 := a2.rk w hz'.1 hz'.2.1
        rcases b1.2.2 with e | e
        · exact e.symm
        · rcases b2.2.2 with e' | e'
          · exact e'
          · omega
      subst e
      exact (t2 y hy).2 z2
/-- a whole state whose chains pass each forward predecessor -/
structure Fin (rk : Nat → Int) (pv : Nat → List Nat) (id : Nat → Int) : Prop where
  wf : WF rk id
  full : ∀ t, 0 ≤ rk t → 0 ≤ id t
  fwd : ∀ x y, 0 ≤ rk x → Ch id x y → y ≠ x → ∀ q, q ∈ pv x → 0 ≤ rk q → rk q < rk x → Ch id q y
theorem Pass.fin {n : Nat} {rk old new : Nat → Int} {pv nx : Nat → List Nat} (E : Env n rk pv nx) (w : WF rk old) (P : Pass rk pv old new) : Fin rk pv new := by
  refine ⟨P.wf, fun t ht => ?_, fun x y h0 hc hne q q1 q2 q3 => ?_⟩
  · by_cases e : rk t = 0
    · have : t = 0 := (E.inj 0 t (by rw [E.zero]; omega) (by rw [E.zero]; omega)).symm
      rw [this, P.wf.z]; omega
    · exact P.full t (by omega)
  · exact ((P.split E w (by omega) y).1 (hc.down hne).2.2).1 q q1 q2 q3
theorem fin_lin {n : Nat} {rk prev cur : Nat → Int} {pv nx : Nat → List Nat} (E : Env n rk pv nx) (F : Fin rk pv prev) (G : Fin rk pv cur) : ∀ (k x c y : Nat), rk x ≤ k → 0 ≤ rk x → Ch prev x c → Ch cur x y → rk y ≤ rk c → Ch cur c y := by
  intro k
  induction k with
  | zero =>
    intro x c y hk h0 hc hy hle
    have hx : x = 0 := (E.inj 0 x (by rw [E.zero]; omega) (by rw [E.zero]; omega)).symm
    subst hx
    rw [hc.zero]; exact hy
  | succ k ih =>
    intro x c y hk h0 hc hy hle
    by_cases e : c = x
    · subst e; exact hy
    · have r1 := hc.rk F.wf h0 (F.full x h0)
      have hlt : rk c < rk x := by rcases r1.2.2 with e' | e'; exact absurd e' e; exact e'
      have hne : y ≠ x := fun e => by subst e; omega
      obtain ⟨q, q1, q2, q3⟩ := E.par x (by omega)
      exact ih q c y (by omega) q2 (F.fwd x c h0 hc e q q1 q2 q3) (G.fwd x y h0 hy hne q q1 q2 q3) hle
def Sub (rk cur prev : Nat → Int) : Prop := ∀ x y, 0 ≤ rk x → Ch cur x y → Ch prev x y
/-- what holds between one pass and the next -/
structure Inv (rk : Nat → Int) (pv : Nat → List Nat) (prev cur : Nat → Int) : Prop where
  wf : WF rk prev
  pass : Pass rk pv prev cur
  old : (∀ p, 0 < rk p → prev p < 0) ∨ (Fin rk pv prev ∧ Sub rk cur prev)
theorem Inv.sub {n : Nat} {rk prev cur next : Nat → Int} {pv nx : Nat → List Nat} (E : Env n rk pv nx) (I : Inv rk pv prev cur) (P : Pass rk pv cur next) : Sub rk next cur := by
  have G := I.pass.fin E I.wf
  have G' := P.fin E G.wf
  have key : ∀ (k x y : Nat), rk x ≤ k → 0 ≤ rk x → Ch next x y → Ch cur x y := by
    intro k
    induction k with
    | zero =>
      intro x y hk h0 hc
      have hx : x = 0 := (E.inj 0 x (by rw [E.zero]; omega) (by rw [E.zero]; omega)).symm
      subst hx
      rw [hc.zero]; exact .refl _
    | succ k ih =>
      intro x y hk h0 hc
      by_cases e : y = x
      · subst e; exact .refl _
      · have hd := hc.down e
        have hx : 0 < rk x := by
          have := G'.wf.d x hd.1 hd.2.1
          exact this.1
        refine .step hd.1 (G.full x h0) ?_
        have hs := (P.split E G.wf hx y).1 hd.2.2
        rw [I.pass.split E I.wf hx y]
        refine ⟨fun p hp a b => ih p y (by omega) a (hs.1 p hp a b), fun p hp a b => ?_⟩
        rcases I.old with hi | ⟨F, S⟩
        · exact absurd b (by have := hi p (by omega); omega)
        obtain ⟨z, z1, z2⟩ := hs.2 p hp a (G.full p (by omega))
        obtain ⟨z', t1, _⟩ := top_ok (new := prev) E F.wf F.wf hx (rk p).toNat p (by omega) (by omega) b
        refine ⟨z', t1, ?_⟩
        have c1 := t1.all z (S p z (by omega) z1.ch) z1.lt
        have c2 := ih z y (by have := z1.lt; omega) z1.ge z2
        have c3 := z1.ch.trans c2
        have r1 := c2.rk G.wf z1.ge (G.full z z1.ge)
        have r2 := c1.rk F.wf t1.ge (F.full z' t1.ge)
        refine fin_lin E F G (rk p).toNat p z' y (by omega) (by omega) t1.ch c3 ?_
        rcases r1.2.2 with e1 | e1 <;> rcases r2.2.2 with e2 | e2
        · rw [e1, e2]; exact Int.le_refl _
        · rw [e1]; omega
        · rw [← e2]; omega
        · omega
  exact fun x y h0 hc => key (rk x).toNat x y (by omega) h0 hc
theorem Inv.next {n : Nat} {rk prev cur next : Nat → Int} {pv nx : Nat → List Nat} (E : Env n rk pv nx) (I : Inv rk pv prev cur) (P : Pass rk pv cur next) : Inv rk pv cur next :=
  ⟨I.pass.wf, P, .inr ⟨I.pass.fin E I.wf, I.sub E P⟩⟩
/-- what grows less from pass to pass -/
def meas (n : Nat) (rk id : Nat → Int) : Nat := ((List.range n).map fun t => if 0 < rk t then (rk (id t).toNat).toNat else 0).sum
theorem sum_le {l : List Nat} {f g : Nat → Nat} (h : ∀ t, t ∈ l → f t ≤ g t) : (l.map f).sum ≤ (l.map g).sum := by
  induction l with
  | nil => simp
  | cons x l ih =>
    simp only [List.map_cons, List.sum_cons]
    have := h x List.mem_cons_self
    have := ih fun t ht => h t (List.mem_cons_of_mem _ ht)
    omega
theorem sum_lt {l : List Nat} {f g : Nat → Nat} (h : ∀ t, t ∈ l → f t ≤ g t) {b : Nat} (hb : b ∈ l) (hlt : f b < g b) : (l.map f).sum < (l.map g).sum := by
  induction l with
  | nil => simp at hb
  | cons x l ih =>
    simp only [List.map_cons, List.sum_cons]
    have h1 := h x List.mem_cons_self
    have h2 := sum_le fun t ht => h t (List.mem_cons_of_mem _ ht)
    rcases List.mem_cons.1 hb with e | e
    · subst e; omega
    · have := ih (fun t ht => h t (List.mem_cons_of_mem _ ht)) e
      omega
theorem meas_lt {n : Nat} {rk cur next : Nat → Int} {pv nx : Nat → List Nat} (E : Env n rk pv nx) (F : Fin rk pv cur) (P : Pass rk pv cur next) (S : Sub rk next cur) (hne : next ≠ cur) : meas n rk next < meas n rk cur := by
  have G := P.fin E F.wf
  have hch : ∀ t, 0 < rk t → Ch cur (cur t).toNat (next t).toNat := fun t ht => by
    have ht0 : t ≠ 0 := fun e => by subst e; rw [E.zero] at ht; omega
    have hd := G.wf.d t ht0 (G.full t (by omega))
    have := S t (next t).toNat (by omega) (.step ht0 (G.full t (by omega)) (.refl _))
    exact (this.down fun e => by rw [e] at hd; omega).2.2
  have hle : ∀ t, 0 < rk t → (rk (next t).toNat ≤ rk (cur t).toNat) ∧ (next t ≠ cur t → rk (next t).toNat < rk (cur t).toNat) := fun t ht => by
    have ht0 : t ≠ 0 := fun e => by subst e; rw [E.zero] at ht; omega
    have hd := F.wf.d t ht0 (F.full t (by omega))
    have := (hch t ht).rk F.wf hd.2.1 hd.2.2.2
    have g := G.full t (by omega)
    have g' := F.full t (by omega)
    rcases this.2.2 with e | e
    · refine ⟨by rw [e]; exact Int.le_refl _, fun hn => absurd (by omega) hn⟩
    · exact ⟨by omega, fun _ => e⟩
  obtain ⟨b, hb⟩ : ∃ b, next b ≠ cur b := by
    apply Classical.byContradiction
    intro h
    exact hne (funext fun t => Classical.byContradiction fun h' => h ⟨t, h'⟩)
  have hb0 : 0 < rk b := by
    apply Classical.byContradiction
    intro h
    by_cases e : rk b = 0
    · have : b = 0 := (E.inj 0 b (by rw [E.zero]; omega) (by rw [E.zero]; omega)).symm
      subst this
      exact hb (by rw [G.wf.z, F.wf.z])
    · exact hb (P.neg b (by omega))
  have hbn := E.lt b (by omega)
  unfold meas
  refine sum_lt (fun t _ => ?_) (List.mem_range.2 hbn) ?_
  · by_cases ht : 0 < rk t
    · simp only [if_pos ht]
      have := (hle t ht).1
      omega
    · simp only [if_neg ht]; omega
  · simp only [if_pos hb0]
    have h1 := (hle b hb0).2 hb
    have ht0 : b ≠ 0 := fun e => by subst e; rw [E.zero] at hb0; omega
    have hd := G.wf.d b ht0 (G.full b (by omega))
    omega
theorem passes_ok {n : Nat} {rk : Nat → Int} {pv nx : Nat → List Nat} (E : Env n rk pv nx) {bs : List Nat} (hbs : ∀ i, i < bs.length → rk (bs.getD i 0) = i + 1) (hall : ∀ t, rk t ≤ bs.length) (Q : (Nat → Int) → Prop)
    (hQ : ∀ prev cur next, Inv rk pv prev cur → Q cur → Pass rk pv cur next → Q next) : ∀ (m : Nat) (prev cur : Nat → Int), Inv rk pv prev cur → Q cur → meas n rk cur < m →
    ∃ R, passes rk n pv bs m cur = some R ∧ Pass rk pv R R ∧ Fin rk pv R ∧ Q R ∧ ∀ t, rk t < 0 → R t = cur t := by
  intro m
  induction m with
  | zero => intro prev cur I hq hm; omega
  | succ m ih =>
    intro prev cur I hq hm
    have F := I.pass.fin E I.wf
    obtain ⟨⟨next, fl⟩, h1, P, h3⟩ := pass_ok E hbs hall F.wf
    dsimp only at P h3
    rw [passes, h1]
    show ∃ R, (if fl then passes rk n pv bs m next else some next) = some R ∧ _
    cases fl with
    | false =>
      have e : next = cur := h3.1 rfl
      subst e
      exact ⟨next, rfl, P, F, hq, fun t _ => rfl⟩
    | true =>
      have hne : next ≠ cur := fun e => by have := h3.2 e; cases this
      have := meas_lt E F P (I.sub E P) hne
      obtain ⟨R, r1, r2, r3, r4, r5⟩ := ih cur next (I.next E P) (hQ prev cur next I hq P) (by omega)
      exact ⟨R, r1, r2, r3, r4, fun t ht => by rw [r5 t ht, P.neg t ht]⟩
/-- all dominators lie on the chains -/
def DomS (rk : Nat → Int) (nx : Nat → List Nat) (id : Nat → Int) : Prop := ∀ x y, 0 ≤ rk x → ¬ Av nx y x → Ch id x y
theorem fin_fw {n : Nat} {rk cur : Nat → Int} {pv nx : Nat → List Nat} (E : Env n rk pv nx) (F : Fin rk pv cur) : ∀ (k x c : Nat), rk x ≤ k → 0 ≤ rk x → Ch cur x c → FW nx rk c x := by
  intro k
  induction k with
  | zero =>
    intro x c hk h0 hc
    have hx : x = 0 := (E.inj 0 x (by rw [E.zero]; omega) (by rw [E.zero]; omega)).symm
    subst hx
    rw [hc.zero]; exact .refl
  | succ k ih =>
    intro x c hk h0 hc
    by_cases e : c = x
    · subst e; exact .refl
    · have r1 := hc.rk F.wf h0 (F.full x h0)
      have hlt : rk c < rk x := by rcases r1.2.2 with e' | e'; exact absurd e' e; exact e'
      obtain ⟨q, q1, q2, q3⟩ := E.par x (by omega)
      exact .step (ih q c (by omega) q2 (F.fwd x c h0 hc e q q1 q2 q3)) ((E.edge q x q2).1 q1) q3
theorem av_fw {rk : Nat → Int} {nx : Nat → List Nat} {y c x : Nat} (h : Av nx y c) (hf : FW nx rk c x) (hlt : rk y < rk c) : Av nx y x := by
  induction hf with
  | refl => exact h
  | step h1 h2 h3 ih => exact .step ih h2 fun e => by subst e; have := h1.le; omega
theorem ds_step {n : Nat} {rk prev cur : Nat → Int} {pv nx : Nat → List Nat} (E : Env n rk pv nx) (w : WF rk prev) (P : Pass rk pv prev cur) (h : (∀ p, 0 < rk p → prev p < 0) ∨ (Fin rk pv prev ∧ DomS rk nx prev)) : DomS rk nx cur := by
  have G := P.fin E w
  have key : ∀ (k x y : Nat), rk x ≤ k → 0 ≤ rk x → ¬ Av nx y x → Ch cur x y := by
    intro k
    induction k with
    | zero =>
      intro x y hk h0 hd
      have hx : x = 0 := (E.inj 0 x (by rw [E.zero]; omega) (by rw [E.zero]; omega)).symm
      subst hx
      by_cases e : y = 0
      · subst e; exact .refl _
      · exact absurd (.zero e) hd
    | succ k ih =>
      intro x y hk h0 hd
      by_cases e : y = x
      · subst e; exact .refl _
      by_cases e0 : rk x = 0
      · have hx : x = 0 := (E.inj 0 x (by rw [E.zero]; omega) (by rw [E.zero]; omega)).symm
        subst hx
        exact absurd (.zero e) hd
      have hx : 0 < rk x := by omega
      have hx0 : x ≠ 0 := fun e => by subst e; rw [E.zero] at hx; omega
      have hpred : ∀ p, p ∈ pv x → 0 ≤ rk p → ¬ Av nx y p := fun p hp h1 hav => hd (.step hav ((E.edge p x h1).1 hp) (Ne.symm e))
      refine .step hx0 (G.full x h0) ?_
      rw [P.split E w hx y]
      have hfwd : ∀ p, p ∈ pv x → 0 ≤ rk p → rk p < rk x → Ch cur p y := fun p hp a b => ih p y (by omega) a (hpred p hp a)
      refine ⟨hfwd, fun p hp a b => ?_⟩
      rcases h with hi | ⟨F, D⟩
      · exact absurd b (by have := hi p (by omega); omega)
      obtain ⟨q, q1, q2, q3⟩ := E.par x hx
      have hy : rk y < rk x := by
        have := (hfwd q q1 q2 q3).rk G.wf q2 (G.full q q2)
        rcases this.2.2 with e | e
        · rw [e]; exact q3
        · omega
      obtain ⟨z, t1, _⟩ := top_ok (new := prev) E F.wf F.wf hx (rk p).toNat p (by omega) (by omega) b
      refine ⟨z, t1, ?_⟩
      have hpy := D p y (by omega) (hpred p hp (by omega))
      have hzy := t1.all y hpy hy
      have r1 := hzy.rk F.wf t1.ge (F.full z t1.ge)
      refine ih z y (by have := t1.lt; omega) t1.ge fun hav => ?_
      rcases r1.2.2 with e1 | e1
      · subst e1
        -- y on its own chain
        cases hav with
        | zero h => exact h rfl
        | step _ _ h => exact h rfl
      · exact hpred p hp (by omega) (av_fw hav (fin_fw E F (rk p).toNat p z (by omega) (by omega) t1.ch) e1)
  exact fun x y h0 hd => key (rk x).toNat x y (by omega) h0 hd
theorem chk {n : Nat} {rk : Nat → Int} {pv nx : Nat → List Nat} (E : Env n rk pv nx) {bs : List Nat} (hbs : ∀ i, i < bs.length → rk (bs.getD i 0) = i + 1) (hall : ∀ t, rk t ≤ bs.length) :
    ∃ f R, passes rk n pv bs f (setI (fun _ => -1) 0 0) = some R ∧ Fin rk pv R ∧ (∀ t, rk t < 0 → R t = -1) ∧ ∀ x y, 0 ≤ rk x → (Ch R x y ↔ ¬ Av nx y x) := by
  obtain ⟨i0, hi0⟩ : ∃ i0, setI (fun _ => (-1 : Int)) 0 0 = i0 := ⟨_, rfl⟩
  rw [hi0]
  have z0 : i0 0 = 0 := by rw [← hi0]; rfl
  have z1 : ∀ t, t ≠ 0 → i0 t = -1 := fun t ht => by rw [← hi0, setI, if_neg ht]
  have w0 : WF rk i0 := ⟨z0, fun b hb h => by rw [z1 b hb] at h; omega⟩
  have hinit : ∀ p, 0 < rk p → i0 p < 0 := fun p hp => by
    rw [z1 p fun e => by subst e; rw [E.zero] at hp; omega]; omega
  obtain ⟨⟨i1, fl⟩, h1, P, h3⟩ := pass_ok E hbs hall w0
  dsimp only at P h3
  have I : Inv rk pv i0 i1 := ⟨w0, P, .inl hinit⟩
  have D1 := ds_step E w0 P (.inl hinit)
  have hQ : ∀ prev cur next, Inv rk pv prev cur → DomS rk nx cur → Pass rk pv cur next → DomS rk nx next := fun prev cur next I D P => ds_step E I.pass.wf P (.inr ⟨I.pass.fin E I.wf, D⟩)
  obtain ⟨R, r1, r2, r3, r4, r5⟩ := passes_ok E hbs hall (DomS rk nx) hQ (meas n rk i1 + 1) i0 i1 I D1 (by omega)
  have hneg : ∀ t, rk t < 0 → R t = -1 := fun t ht => by
    rw [r5 t ht, P.neg t ht]
    exact z1 t fun e => by subst e; rw [E.zero] at ht; omega
  have hfin : ∀ x y, 0 ≤ rk x → (Ch R x y ↔ ¬ Av nx y x) := fun x y h0 => by
    refine ⟨fun hc hav => ?_, fun h => r4 x y h0 h⟩
    have hge : ∀ x, Av nx y x → 0 ≤ rk x := fun x h => by
      induction h with
      | zero => rw [E.zero]; omega
      | step _ k1 _ ih => exact E.clo _ _ ih k1
    clear h0
    induction hav with
    | zero hne => exact hne hc.zero
    | @step p b h1 h2 h3 ih =>
      have hp := hge p h1
      have hb := E.clo p b hp h2
      have hd := hc.down (Ne.symm h3)
      have hb0 := (r3.wf.d b hd.1 hd.2.1).1
      have := (r2.eq b hb0 y).1 hd.2.2 p ((E.edge p b hp).2 h2) hp
      have hm : mixF rk R R (rk b) = R := by funext u; unfold mixF; split <;> rfl
      rw [hm] at this
      exact ih (this (r3.full p hp))
  cases fl with
  | true =>
    refine ⟨meas n rk i1 + 1 + 1, R, ?_, r3, hneg, hfin⟩
    rw [passes, h1]
    exact r1
  | false =>
    have e : i1 = i0 := h3.1 rfl
    subst e
    exact ⟨meas n rk i1 + 1, R, by exact r1, r3, hneg, hfin⟩
end Go.Proofs.Ytcbofikjcgdjmaa
