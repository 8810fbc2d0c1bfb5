/- The maps of loops.Find; the step of an append whose run is known. -/
import Derived.Test.YtcbofikjcgdjmaaB18
import Derived.Deep.RegionLaw
namespace Go.Proofs.Ytcbofikjcgdjmaa
set_option linter.unusedVariables false
set_option linter.unusedSimpArgs false
open Go.RowKit Go.Maps

/-- an append whose run is known, as one step of a region that draws -/
theorem step_append_eq {P : Program} {ops : Array Oper} {o : Oper} {a : Act} {w w' : World} {K : Act → World → Prop} {Q : Exit → Act → World → Prop} {E : Prop}
    (hg : o.guard = none) (s x : Operand) (t ty : TypeId) (hop : o.op = Op.call { callee := Callee.builtin Builtin.append, args := #[s, x], argTypes := #[t, t] }) (hty : o.type = ty) (v u v' : Value) (hs : a.eval s = v) (hx : a.eval x = u)
    (hrun : (Builtin.append_ #[t, t] ty #[v, u]).run P w = .ok v' w') (hK : K (a.put o.dst v') w') :
    if Region.wanted o (yielded ops a.tmps) = true then Oper.wp P o a w K Q else E := by
  have hw : Region.wanted o (yielded ops a.tmps) = true := by simp [Region.wanted, hg]
  rw [if_pos hw]
  subst hty
  unfold Oper.wp
  simp [execOp, hop, resolve, invoke, builtin, hs, hx, hrun, Result.andThen]
  exact hK

/-- the places of the first k nodes of an order -/
def plO (ord : List Nat) : Nat → Int → Option Int
  | 0 => fun _ => none
  | k + 1 => fun y => if y = ((ord.getD k 0 : Nat) : Int) then some (k : Int) else plO ord k y
def plK (ord : List Nat) (k : Nat) : Int → Option Value := fun y => (plO ord k y).map (Value.int .i64)
theorem plK_succ (ord : List Nat) (k : Nat) : (fun y => if y = ((ord.getD k 0 : Nat) : Int) then some (.int .i64 (k : Int)) else plK ord k y) = plK ord (k + 1) := by
  funext y
  show (if y = ((ord.getD k 0 : Nat) : Int) then some (Value.int .i64 (k : Int)) else (plO ord k y).map (Value.int .i64)) = (if y = ((ord.getD k 0 : Nat) : Int) then some (k : Int) else plO ord k y).map (Value.int .i64)
  split <;> rfl
theorem plO_lt {ord : List Nat} {n : Nat} (h : ∀ t ∈ ord, t < n) : ∀ {k : Nat} {y : Int}, k ≤ ord.length → (plO ord k y).isSome = true → 0 ≤ y ∧ y < n
  | 0, y, _, hy => by simp [plO] at hy
  | k + 1, y, hk, hy => by
    have hy : (if y = ((ord.getD k 0 : Nat) : Int) then some (k : Int) else plO ord k y).isSome = true := hy
    by_cases e : y = ((ord.getD k 0 : Nat) : Int)
    · have := h _ (getD_mem_nat (show k < ord.length by omega)); omega
    · rw [if_neg e] at hy; exact plO_lt h (by omega) hy

/-- block b is a map of lists of numbers, each nil or in a row of its own -/
def LatM (W : World) (b base m : Nat) (f : Nat → List Int) : Prop :=
  ∃ (vm : Int → Option Value) (q : Nat), q ≤ m ∧ HMap W b q vm ∧ (∀ t : Nat, W.ownsRow base 3 1 ((vm (t : Int)).getD (.slice none 0 0)) (f t).length (icells (f t))) ∧
    (∀ s t : Nat, s ≠ t → ((vm (s : Int)).getD (.slice none 0 0)).ownBlock = none ∨ ((vm (s : Int)).getD (.slice none 0 0)).ownBlock ≠ ((vm (t : Int)).getD (.slice none 0 0)).ownBlock) ∧
    (∀ x : Int, (vm x).isSome = true ↔ 0 ≤ x ∧ f x.toNat ≠ [])
theorem LatM.below {W W' : World} {b base m : Nat} {f : Nat → List Int} (h : LatM W b base m f) (hb : Below W.heap.size W W') : LatM W' b base m f := by
  obtain ⟨vm, q, hq, h1, h2, h3, h4⟩ := h
  exact ⟨vm, q, hq, h1.below hb h1.lt, fun t => own_below (h2 t) hb, h3, h4⟩
theorem LatM.next {W : World} {b base m : Nat} {f g : Nat → List Int} (h : LatM W b base m f) (e : ∀ t, g t = f t) : LatM W b base (m + 1) g := by
  obtain rfl : g = f := funext e
  obtain ⟨vm, q, hq, h1, h2, h3, h4⟩ := h
  exact ⟨vm, q, by omega, h1, h2, h3, h4⟩
theorem LatM.next0 {W : World} {b base m : Nat} {f g : Nat → List Int} (h : LatM W b base m f) (e : ∀ t, g t = f t) : LatM W b base m g := by
  obtain rfl : g = f := funext e
  exact h
theorem LatM.made (W : World) (base m : Nat) : LatM (W.alloc (.map #[] 0)) W.heap.size base m (fun _ => []) :=
  ⟨fun _ => none, 0, Nat.zero_le _, HMap.made W, fun t => World.ownsRow_nil _ _ _ _, fun s t _ => .inl rfl, fun x => by simp⟩
theorem own_not_map {W : World} {base : Nat} {e : TypeId} {size n : Nat} {v : Value} {xs : List Value} (h : W.ownsRow base e size v n xs) {b q : Nat} {f : Int → Option Value} (hm : HMap W b q f) : some b ≠ v.ownBlock := fun e' => by
  obtain ⟨cur, hc⟩ := own_cell h e'.symm
  obtain ⟨D, ⟨es, clock, hb, _⟩, _⟩ := hm
  rw [hc] at hb; cases hb
/-- the way back behind an append to one of the lists, and its store -/
theorem LatM.put {W W1 : World} {b base m q : Nat} {f : Nat → List Int} {vm : Int → Option Value} (hq : q ≤ m) (h1 : HMap W b q vm) (h2 : ∀ t : Nat, W.ownsRow base 3 1 ((vm (t : Int)).getD (.slice none 0 0)) (f t).length (icells (f t)))
    (h3 : ∀ s t : Nat, s ≠ t → ((vm (s : Int)).getD (.slice none 0 0)).ownBlock = none ∨ ((vm (s : Int)).getD (.slice none 0 0)).ownBlock ≠ ((vm (t : Int)).getD (.slice none 0 0)).ownBlock) (h4 : ∀ x : Int, (vm x).isSome = true ↔ 0 ≤ x ∧ f x.toNat ≠ [])
    (hqm : q < maxLen) (t : Nat) (ht : wf (t : Int)) {o : Obj} (hg : (W.alloc o).grownBy W1 ((vm (t : Int)).getD (.slice none 0 0)).ownBlock) {v' : Value} {x : Int}
    (hown : W1.ownsRow base 3 1 v' ((f t).length + 1) (icells (f t) ++ [.int .i64 x])) (hloc : v'.ownBlock = ((vm (t : Int)).getD (.slice none 0 0)).ownBlock ∨ v'.ownBlock = some (W.alloc o).heap.size) :
    ∃ W2, (Instr.mapUpdate 67 (.map (some b)) (.int .i64 (t : Int)) v').run Try.prog W1 = .ok () W2 ∧ LatM W2 b base (m + 1) (fun s => if s = t then f t ++ [x] else f s) ∧ W1.grownBy W2 (some b) := by
  have hne := own_not_map (h2 t) h1
  have hm1 := (h1.alloc o).grown hg hne
  obtain ⟨W2, hrun, hm2, hg2⟩ := hm1.put Try.underlying67 hqm ht v'
  have keep : ∀ {u : Value} {k : Nat} {ys : List Value}, W1.ownsRow base 3 1 u k ys → W2.ownsRow base 3 1 u k ys := fun {u k ys} hu => hu.kept hg2 (by
    by_cases h : u.ownBlock = none
    · exact .inl h
    · exact .inr fun e => own_not_map hu hm1 e.symm)
  have olds : ∀ s : Nat, s ≠ t → W1.ownsRow base 3 1 ((vm (s : Int)).getD (.slice none 0 0)) (f s).length (icells (f s)) := fun s hs => ((h2 s).alloc o).kept hg (h3 s t hs)
  refine ⟨W2, hrun, ⟨fun y => if y = (t : Int) then some v' else vm y, q + 1, by omega, hm2, fun s => ?_, fun s u hsu => ?_, fun y => ?_⟩, hg2⟩
  · dsimp only
    by_cases e : s = t
    · subst e
      rw [if_pos rfl, if_pos rfl, icells_snoc, List.length_append]
      exact keep hown
    · rw [if_neg (by omega), if_neg e]
      exact keep (olds s e)
  · dsimp only
    have hlt : ∀ s : Nat, ∀ k, ((vm (s : Int)).getD (.slice none 0 0)).ownBlock = some k → k < (W.alloc o).heap.size := fun s k hk => by
      have := (((h2 s).alloc o).lt k hk).2
      exact this
    by_cases e : s = t
    · subst e
      rw [if_pos rfl, if_neg (show ¬ (u : Int) = (s : Int) by omega)]
      by_cases hv' : v'.ownBlock = none
      · exact .inl hv'
      · refine .inr fun e2 => ?_
        rcases hloc with hl | hl
        · rcases h3 u s (fun e => hsu e.symm) with h | h
          · rw [h] at e2; exact hv' e2
          · exact h (e2.symm.trans hl)
        · have e2' : v'.ownBlock = ((vm (u : Int)).getD (.slice none 0 0)).ownBlock := e2
          rw [hl] at e2'
          exact absurd (hlt u _ e2'.symm) (by omega)
    · by_cases e' : u = t
      · subst e'
        rw [if_neg (show ¬ (s : Int) = (u : Int) by omega), if_pos rfl]
        show ((vm (s : Int)).getD (.slice none 0 0)).ownBlock = none ∨ ((vm (s : Int)).getD (.slice none 0 0)).ownBlock ≠ v'.ownBlock
        rcases hloc with hl | hl
        · rw [hl]; exact h3 s u hsu
        · by_cases hn : ((vm (s : Int)).getD (.slice none 0 0)).ownBlock = none
          · exact .inl hn
          · refine .inr fun e2 => ?_
            rw [hl] at e2
            exact absurd (hlt s _ e2) (by omega)
      · rw [if_neg (by omega), if_neg (by omega)]
        exact h3 s u hsu
  · dsimp only
    by_cases e : y = (t : Int)
    · subst e
      rw [if_pos rfl, Int.toNat_natCast, if_pos rfl]
      simp
    · rw [if_neg e]
      by_cases h0 : 0 ≤ y
      · rw [if_neg (show ¬ y.toNat = t by omega)]; exact h4 y
      · rw [h4 y]; simp [h0]
end Go.Proofs.Ytcbofikjcgdjmaa
