/- The contract of the closure of loops.collect: a search along the predecessors. -/
import Derived.Test.YtcbofikjcgdjmaaB15
namespace Go.Proofs.Ytcbofikjcgdjmaa
set_option linter.unusedVariables false
set_option linter.unusedSimpArgs false
open Go.RowKit Go.Maps

/-- the nodes met backwards from b, where pl lets by -/
def vis (pl : Nat → Bool) (pv : Nat → List Nat) : Nat → Nat → (Nat → Bool) → Nat → Bool
  | 0, _, s => s
  | k + 1, b, s => if pl b = true ∧ s b = false then (pv b).foldl (fun s p => vis pl pv k p s) (upd s b) else s
def visJ (pl : Nat → Bool) (pv : Nat → List Nat) (k b j : Nat) (s : Nat → Bool) : Nat → Bool := ((pv b).take j).foldl (fun s p => vis pl pv k p s) (upd s b)
theorem visJ_zero (pl : Nat → Bool) (pv : Nat → List Nat) (k b : Nat) (s : Nat → Bool) : visJ pl pv k b 0 s = upd s b := by simp [visJ]
theorem visJ_succ {pl : Nat → Bool} {pv : Nat → List Nat} {k b j : Nat} {s : Nat → Bool} (h : j < (pv b).length) : visJ pl pv k b (j + 1) s = vis pl pv k ((pv b).getD j 0) (visJ pl pv k b j s) := by
  rw [visJ, take_succ_nat h, List.foldl_append]; rfl
theorem vis_yes {pl : Nat → Bool} {pv : Nat → List Nat} {k b : Nat} {s : Nat → Bool} (h1 : pl b = true) (h2 : s b = false) : vis pl pv (k + 1) b s = visJ pl pv k b (pv b).length s := by
  rw [vis, if_pos ⟨h1, h2⟩, visJ, List.take_length]
theorem vis_no {pl : Nat → Bool} {pv : Nat → List Nat} {k b : Nat} {s : Nat → Bool} (h : ¬ (pl b = true ∧ s b = false)) : vis pl pv k b s = s := by
  cases k with
  | zero => rfl
  | succ k => rw [vis, if_neg h]
theorem vis_le (pl : Nat → Bool) (pv : Nat → List Nat) : ∀ (k b : Nat) (s : Nat → Bool) (t : Nat), s t = true → vis pl pv k b s t = true := by
  intro k
  induction k with
  | zero => intro b s t h; exact h
  | succ k ih =>
    intro b s t h
    rw [vis]
    split
    · have : ∀ (l : List Nat) (s : Nat → Bool), s t = true → l.foldl (fun s p => vis pl pv k p s) s t = true := by
        intro l
        induction l with
        | nil => intro s h; exact h
        | cons x l ihl => intro s h; rw [List.foldl_cons]; exact ihl _ (ih _ _ _ h)
      exact this _ _ (upd_le _ _ _ h)
    · exact h
theorem visJ_le (pl : Nat → Bool) (pv : Nat → List Nat) (k b j : Nat) (s : Nat → Bool) (t : Nat) (h : upd s b t = true) : visJ pl pv k b j s t = true := by
  have : ∀ (l : List Nat) (s : Nat → Bool), s t = true → l.foldl (fun s p => vis pl pv k p s) s t = true := by
    intro l
    induction l with
    | nil => intro s h; exact h
    | cons x l ihl => intro s h; rw [List.foldl_cons]; exact ihl _ (vis_le pl pv k _ _ _ h)
  exact this _ _ h
theorem cnt_pos {n b : Nat} {s : Nat → Bool} (hb : b < n) (h : s b = false) : 0 < cnt n s := by have := cnt_upd hb h; omega

/-- the set s as the map has it -/
def fB (s : Nat → Bool) : Int → Option Value := fun x => if 0 ≤ x ∧ s x.toNat = true then some (.bool true) else none
theorem fB_at (s : Nat → Bool) (b : Nat) : (fB s (b : Int)).getD (.bool false) = .bool (s b) := by
  unfold fB
  cases h : s b <;> simp [h]
theorem fB_upd (s : Nat → Bool) (b : Nat) : (fun y => if y = (b : Int) then some (.bool true) else fB s y) = fB (upd s b) := by
  funext y
  unfold fB upd
  by_cases e : y = (b : Int)
  · subst e; simp
  · have : ¬ (0 ≤ y ∧ y.toNat = b) := by omega
    by_cases h0 : 0 ≤ y
    · have h1 : ¬ y.toNat = b := fun h => this ⟨h0, h⟩
      simp [e, h0, h1]
    · simp [e, h0]
theorem zero3 (w : World) : (zeroValue 3).run Try.prog w = .ok (.int .i64 0) w := by kernel_rfl
theorem zero28 (w : World) : (zeroValue 28).run Try.prog w = .ok (.slice none 0 0) w := by kernel_rfl
theorem zero4 (w : World) : (zeroValue 4).run Try.prog w = .ok (.bool false) w := by kernel_rfl

/-- the boxes of loops.collect; G: the first block of the call's own -/
structure CS (W1 : World) (G n pb : Nat) (s : Nat → Bool) (W : World) : Prop where
  plB : Bx W (G + 1) 66 (.map (some pb))
  blB : Bx W (G + 3) 58 (.map (some (G + 2)))
  fnB : Bx W (G + 4) 81 (.func (.func 57) #[] #[.pointer (some ⟨G + 1, 0, none⟩), .pointer (some ⟨G + 3, 0, none⟩), .pointer (some ⟨G, 0, none⟩), .pointer (some ⟨G + 4, 0, none⟩)])
  m : ∃ q, HMap W (G + 2) q (fB s) ∧ q + cnt n s ≤ n
  bel : Below (G + 2) W1 W
theorem CS.mark {W1 : World} {G n pb : Nat} {s : Nat → Bool} {W W' : World} {b q : Nat} (h : CS W1 G n pb s W) (hg : W.grownBy W' (some (G + 2))) (hm : HMap W' (G + 2) q (fB (upd s b))) (hq : q + cnt n (upd s b) ≤ n) : CS W1 G n pb (upd s b) W' :=
  ⟨h.plB.grown hg (by simp), h.blB.grown hg (by simp), h.fnB.grown hg (by simp), ⟨q, hm, hq⟩, h.bel.grown hg (by have := h.blB.lt; omega) (fun k e => by cases e; exact Nat.le_refl _)⟩

set_option maxRecDepth 100000 in
set_option maxHeartbeats 4000000 in
theorem visit57_out (W1 : World) (G n pb : Nat) (b : Nat) (s : Nat → Bool) (W : World) (hb : (b : Int) ≤ 9223372036854775807) (pn : Nat) (pf : Int → Option Value) (hP : HMap W pb pn pf) (hp : (pf (b : Int)).isSome = false) (hC : CS W1 G n pb s W) :
    Calls Try.prog 57 #[.int .i64 b, .pointer (some ⟨G + 1, 0, none⟩), .pointer (some ⟨G + 3, 0, none⟩), .pointer (some ⟨G, 0, none⟩), .pointer (some ⟨G + 4, 0, none⟩)] W fun e w' => e = .returned (.tuple #[]) ∧ w' = W := by
  have hwf : wf (b : Int) := wf_of (by omega) (by omega)
  have l1 := hP.look_ok Try.underlying66 (zero3 _) hwf
  rw [hp] at l1
  obtain ⟨u, hu⟩ : ∃ u, (pf (b : Int)).getD (.int .i64 0) = u := ⟨_, rfl⟩
  rw [hu] at l1
  have c1 := hC.plB.cell
  clear hu hp hC hP
  go_enter Try.func57, Try.ntmps57
  go_wp2_with fail
  refine bodyPost_ret (results_none rfl _ _ _) rfl ?_
  exact ⟨rfl, rfl⟩
set_option maxRecDepth 100000 in
set_option maxHeartbeats 4000000 in
theorem visit57_seen (W1 : World) (G n pb : Nat) (b : Nat) (s : Nat → Bool) (W : World) (hb : (b : Int) ≤ 9223372036854775807) (pn : Nat) (pf : Int → Option Value) (hP : HMap W pb pn pf) (hp : (pf (b : Int)).isSome = true) (hs : s b = true) (hC : CS W1 G n pb s W) :
    Calls Try.prog 57 #[.int .i64 b, .pointer (some ⟨G + 1, 0, none⟩), .pointer (some ⟨G + 3, 0, none⟩), .pointer (some ⟨G, 0, none⟩), .pointer (some ⟨G + 4, 0, none⟩)] W fun e w' => e = .returned (.tuple #[]) ∧ w' = W := by
  have hwf : wf (b : Int) := wf_of (by omega) (by omega)
  have l1 := hP.look_ok Try.underlying66 (zero3 _) hwf
  rw [hp] at l1
  obtain ⟨q, hM, hq⟩ := hC.m
  have l2 := hM.look Try.underlying58 (zero4 _) hwf
  rw [fB_at, hs] at l2
  obtain ⟨u, hu⟩ : ∃ u, (pf (b : Int)).getD (.int .i64 0) = u := ⟨_, rfl⟩
  rw [hu] at l1
  have c1 := hC.plB.cell
  have c2 := hC.blB.cell
  clear hu hp hC hP hM hs
  go_enter Try.func57, Try.ntmps57
  go_wp2_with fail
  refine bodyPost_ret (results_none rfl _ _ _) rfl ?_
  exact ⟨rfl, rfl⟩
set_option maxRecDepth 100000 in
set_option maxHeartbeats 4000000 in
theorem visit57 (W1 : World) (G : Nat) (hG : W1.heap.size = G + 2) (B : Option Addr) (n : Nat) (pv : List (List Int)) (d : Nat) (h : RV W1 B pv) (hg : W1.cell? ⟨G, 1, none⟩ = some (.slice B pv.length d)) (hn : pv.length = n) (hl : n ≤ 1048576)
    (hz : ∀ j, j < n → (nthR pv j).length ≤ 1099511627776) (hin : ∀ j, j < n → ∀ q, q < (nthR pv j).length → 0 ≤ (nthR pv j).getD q 0 ∧ (nthR pv j).getD q 0 < n)
    (pb pn : Nat) (pf : Int → Option Value) (hpb : pb < G) (hP : HMap W1 pb pn pf) (pl : Nat → Bool) (hpl : ∀ t : Nat, (pf (t : Int)).isSome = pl t) :
    ∀ (k b : Nat) (s : Nat → Bool) (W : World), b < n → cnt n s ≤ k → CS W1 G n pb s W →
      Calls Try.prog 57 #[.int .i64 b, .pointer (some ⟨G + 1, 0, none⟩), .pointer (some ⟨G + 3, 0, none⟩), .pointer (some ⟨G, 0, none⟩), .pointer (some ⟨G + 4, 0, none⟩)] W fun e w' =>
        e = .returned (.tuple #[]) ∧ CS W1 G n pb (vis pl (pvN pv) k b s) w' := by
  intro k
  induction k with
  | zero =>
    intro b s W hb hk hC
    have hsb : s b = true := by
      cases h : s b with
      | true => rfl
      | false => have := cnt_pos hb h; omega
    have hPW := hP.below hC.bel (by omega)
    rw [vis_no (by rw [hsb]; simp)]
    cases hp : pl b with
    | false => exact (visit57_out W1 G n pb b s W (by omega) pn pf hPW (by rw [hpl, hp]) hC).mono fun e w' h => ⟨h.1, by rw [h.2]; exact hC⟩
    | true => exact (visit57_seen W1 G n pb b s W (by omega) pn pf hPW (by rw [hpl, hp]) hsb hC).mono fun e w' h => ⟨h.1, by rw [h.2]; exact hC⟩
  | succ k ih =>
    intro b s W hb hk hC
    have hPW := hP.below hC.bel (by omega)
    cases hp : pl b with
    | false =>
      rw [vis_no (by rw [hp]; simp)]
      exact (visit57_out W1 G n pb b s W (by omega) pn pf hPW (by rw [hpl, hp]) hC).mono fun e w' h => ⟨h.1, by rw [h.2]; exact hC⟩
    | true =>
      cases hsb : s b with
      | true =>
        rw [vis_no (by rw [hsb]; simp)]
        exact (visit57_seen W1 G n pb b s W (by omega) pn pf hPW (by rw [hpl, hp]) hsb hC).mono fun e w' h => ⟨h.1, by rw [h.2]; exact hC⟩
      | false =>
        rw [vis_yes hp hsb, pvN_length]
        have hwf : wf (b : Int) := wf_of (by omega) (by omega)
        have hcu := cnt_upd hb hsb
        obtain ⟨q, hM, hq⟩ := hC.m
        have l1 := hPW.look_ok Try.underlying66 (zero3 _) hwf
        have l2 := hM.look Try.underlying58 (zero4 _) hwf
        rw [fB_at, hsb] at l2
        rw [hpl b, hp] at l1
        obtain ⟨W2, hup, hM2, hg2⟩ := hM.put Try.underlying58 (by unfold maxLen; omega) hwf (.bool true)
        rw [fB_upd] at hM2
        have hC2 := hC.mark hg2 hM2 (by omega)
        have c1 := hC.plB.cell
        have c2 := hC.blB.cell
        obtain ⟨u, hu⟩ : ∃ u, (pf (b : Int)).getD (.int .i64 0) = u := ⟨_, rfl⟩
        rw [hu] at l1
        have hbp : b < pv.length := by omega
        have c3 := (hC2.bel.cell (p := ⟨G, 1, none⟩) (by simp)).trans hg
        obtain ⟨rb, ro, rfl, hrb, hrc⟩ := h (by omega)
        obtain ⟨A1, k1, r0, hA1⟩ := hrc b hbp
        rw [hG] at hrb
        replace r0 := (hC2.bel.cell (p := ⟨rb, ro + b, none⟩) hrb).trans r0
        have hz1 := hz b hb
        have hin1 := hin b hb
        have hpget := pvN_getD pv b
        have hplen := pvN_length pv b
        have hsucc := fun j => visJ_succ (pl := pl) (pv := pvN pv) (k := k) (b := b) (j := j) (s := s)
        obtain ⟨pi, hpid⟩ : ∃ pi, nthR pv b = pi := ⟨_, rfl⟩
        rw [hpid] at r0 hA1 hz1 hin1 hpget hplen ⊢
        have HC2 := Lib.hid hC2
        have IH := Lib.hid ih
        have HA1 := Lib.hid hA1
        have HPG := Lib.hid hpget
        have HPL := Lib.hid hplen
        have HIN1 := Lib.hid hin1
        have HSU := Lib.hid hsucc
        have tlb : (b : Int) < (pv.length : Int) := by omega
        clear hC hM ih h hg hz hin hPW hP hu hpl hp hsb hM2 hg2 hC2 hrc hpid hA1 hpget hplen hin1 hsucc
        have HN := Lib.hid hn
        clear hn
        go_enter Try.func57, Try.ntmps57
        go_wp2_with fail
        go_loopw [31] (fun i wr => ∃ j : Nat, j ≤ pi.length ∧ i = .int .i64 j ∧ CS W1 G n pb (visJ pl (pvN pv) k b j s) wr) (fun i _ => pi.length - (intOf i).toNat)
        case atStart => exact ⟨0, by omega, rfl, by rw [visJ_zero]; exact HC2.out⟩
        case round =>
          obtain ⟨j, hj, rfl, hC⟩ := hrel
          have HCj := Lib.hid hC
          have c4 := hC.fnB.cell
          by_cases hlt : j < pi.length
          · obtain ⟨b1, off1, hAq, hbl1, hc1⟩ := HA1.out (by omega)
            cases hAq
            rw [hG] at hbl1
            have g := (hC.bel.cell (p := ⟨b1, off1 + j, none⟩) hbl1).trans (hc1 j hlt)
            obtain ⟨x0, x1⟩ := HIN1.out j hlt
            have hgd := HPG.out j hlt
            have hsu := HSU.out j (by rw [HPL.out]; exact hlt)
            obtain ⟨x, hx⟩ : ∃ x, pi.getD j 0 = x := ⟨_, rfl⟩
            rw [hx] at g x0 x1 hgd
            obtain ⟨t, rfl⟩ : ∃ t : Nat, x = (t : Int) := ⟨x.toNat, by omega⟩
            rw [Int.toNat_natCast] at hgd
            rw [hgd] at hsu
            have hck : cnt n (visJ pl (pvN pv) k b j s) ≤ k := by
              have := cnt_mono n (s := upd s b) (s' := visJ pl (pvN pv) k b j s) (fun t ht => visJ_le _ _ _ _ _ _ _ ht)
              omega
            have HCC := Lib.hid (IH.out t _ wr (by omega) hck hC)
            have HSU2 := Lib.hid hsu
            clear hC hc1 hx hgd hsu hck
            go_wp2_with (first | (go_at_call 57; refine HCC.out.mono ?_; rintro e w4 ⟨rfl, hC4⟩; have HC4 := Lib.hid hC4; clear hC4))
            go_roundw
            case rel => exact ⟨j + 1, by omega, by go_num, by rw [HSU2.out]; exact HC4.out⟩
            case measure => simp [intOf]; omega
          · obtain rfl : j = pi.length := by omega
            clear hC
            go_wp2_with fail
            go_end0
            exact ⟨rfl, HCj.out⟩
end Go.Proofs.Ytcbofikjcgdjmaa
