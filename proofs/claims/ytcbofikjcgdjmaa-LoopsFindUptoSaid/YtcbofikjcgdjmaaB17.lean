/- The contract of loops.collect. -/
import Derived.Test.YtcbofikjcgdjmaaB16
namespace Go.Proofs.Ytcbofikjcgdjmaa
set_option linter.unusedVariables false
set_option linter.unusedSimpArgs false
open Go.RowKit Go.Maps

def colK (pl : Nat → Bool) (pv : Nat → List Nat) (n h : Nat) (la : List Nat) : Nat → Nat → Bool
  | 0 => fun t => decide (t = h)
  | k + 1 => vis pl pv n (la.getD k 0) (colK pl pv n h la k)
/-- the blocks of a loop, ascending -/
def colN (pl : Nat → Bool) (pv : Nat → List Nat) (n h : Nat) (la : List Nat) : List Nat := (List.range n).filter (colK pl pv n h la la.length)
theorem own_base {W : World} {base base' : Nat} {e : TypeId} {size n : Nat} {v : Value} {xs : List Value} (h : W.ownsRow base e size v n xs) (hb : base' ≤ base) : W.ownsRow base' e size v n xs := by
  refine ⟨h.1, ?_⟩
  rcases h.2 with hn | ⟨g, cap, cur, hv, hbg, rest⟩
  · exact .inl hn
  · exact .inr ⟨g, cap, cur, hv, Nat.le_trans hb hbg, rest⟩
theorem vis_lt {pl : Nat → Bool} {pv : Nat → List Nat} {n : Nat} (hpl : ∀ t, pl t = true → t < n) : ∀ (k b : Nat) (s : Nat → Bool), (∀ t, s t = true → t < n) → ∀ t, vis pl pv k b s t = true → t < n := by
  intro k
  induction k with
  | zero => intro b s h; exact h
  | succ k ih =>
    intro b s h
    rw [vis]
    split
    · rename_i hc
      have : ∀ (l : List Nat) (s : Nat → Bool), (∀ t, s t = true → t < n) → ∀ t, l.foldl (fun s p => vis pl pv k p s) s t = true → t < n := by
        intro l
        induction l with
        | nil => intro s h; exact h
        | cons x l ihl => intro s h; rw [List.foldl_cons]; exact ihl _ (ih _ _ h)
      refine this _ _ fun t ht => ?_
      unfold upd at ht
      by_cases e : t = b
      · subst e; exact hpl _ hc.1
      · rw [if_neg e] at ht; exact h t ht
    · exact h
theorem colK_lt {pl : Nat → Bool} {pv : Nat → List Nat} {n h : Nat} {la : List Nat} (hpl : ∀ t, pl t = true → t < n) (hh : h < n) : ∀ k t, colK pl pv n h la k t = true → t < n
  | 0, t, ht => by have : t = h := by simpa [colK] using ht
                   omega
  | k + 1, t, ht => vis_lt hpl _ _ _ (colK_lt hpl hh k) t ht
set_option maxRecDepth 100000 in
set_option maxHeartbeats 4000000 in
theorem collect38 (A B : Option Addr) (m c d : Nat) (bs : List Bk) (pv : List (List Int)) (n h : Nat) (LA : Option Addr) (la : List Int) (k : Nat) (w : World) (hb : RV w B pv) (hn : pv.length = n) (hl : n ≤ 1048576) (hh : h < n)
    (hz : ∀ j, j < n → (nthR pv j).length ≤ 1099511627776) (hin : ∀ j, j < n → ∀ q, q < (nthR pv j).length → 0 ≤ (nthR pv j).getD q 0 ∧ (nthR pv j).getD q 0 < n)
    (hla : IV w LA la) (hll : la.length ≤ 1099511627776) (hlin : ∀ q, q < la.length → 0 ≤ la.getD q 0 ∧ la.getD q 0 < n)
    (pb pn : Nat) (pf : Int → Option Value) (hP : HMap w pb pn pf) (pl : Nat → Bool) (hpl : ∀ t : Nat, (pf (t : Int)).isSome = pl t) (hplN : ∀ t, pl t = true → t < n) :
    Calls Try.prog 38 #[.agg #[.slice A m c, .slice B pv.length d], .int .i64 h, .slice LA la.length k, .map (some pb)] w fun e w' =>
      (∃ v, e = .returned v ∧ w'.ownsRow w.heap.size 3 1 v (colN pl (pvN pv) n h (la.map Int.toNat)).length (icells ((colN pl (pvN pv) n h (la.map Int.toNat)).map Int.ofNat))) ∧ Below w.heap.size w w' := by
  have hmm := @run_makeMap Try.prog
  have hwf : wf (h : Int) := wf_of (by omega) (by omega)
  have hsf : ∀ (a : Addr) (f : Fn) (x y : Array Value) (W : World) (m : Mode), (store a (.func f x y) m).run Try.prog W = stored Try.prog W a (.func f x y) m := fun a f x y W m => run_store _ _ _ _ _ rfl
  have HB := Lib.hid hb
  have HN := Lib.hid hn
  have HZ := Lib.hid hz
  have HIN := Lib.hid hin
  have HLA := Lib.hid hla
  have HLIN := Lib.hid hlin
  have HP := Lib.hid hP
  have HPL := Lib.hid hpl
  have HPN := Lib.hid (fun k => colK_lt (pv := pvN pv) (la := la.map Int.toNat) hplN hh k)
  have hbl := hP.lt
  clear hb hn hz hin hla hlin hP hpl hplN
  obtain ⟨Wa, hWa⟩ : ∃ Wa, (w.alloc (.cells #[.slice A m c, .slice B pv.length d] 25)).alloc (.cells #[.map (some pb)] 66) = Wa := ⟨_, rfl⟩
  have hsa : Wa.heap.size = w.heap.size + 2 := by rw [← hWa]; simp
  have hBa : Below w.heap.size w Wa := by rw [← hWa]; exact below_new (below_new (Below.refl _ _) _) _
  have hplB : Bx Wa (w.heap.size + 1) 66 (.map (some pb)) := by
    rw [← hWa]
    have := Bx.new (w.alloc (.cells #[.slice A m c, .slice B pv.length d] 25)) 66 (.map (some pb))
    simpa using this
  have hgc : Wa.cell? ⟨w.heap.size, 1, none⟩ = some (.slice B pv.length d) := by rw [← hWa]; simp
  have hm0 := HMap.made Wa
  rw [hsa] at hm0
  obtain ⟨Wb, hup, hMb, hgb⟩ := hm0.put Try.underlying58 (by unfold maxLen; omega) hwf (.bool true)
  have hf1 : (fun y => if y = (h : Int) then some (.bool true) else (fun _ => none : Int → Option Value) y) = fB (fun t => decide (t = h)) := by
    funext y
    unfold fB
    by_cases e : y = (h : Int)
    · subst e; simp
    · by_cases h0 : 0 ≤ y
      · have : ¬ y.toNat = h := by omega
        simp [e, this]
      · simp [e, h0]
  rw [hf1] at hMb
  have hup' : (Instr.mapUpdate 58 (.map (some (w.heap.size + 1 + 1))) (.int .i64 (h : Int)) (.bool true)).run Try.prog (((w.alloc (.cells #[.slice A m c, .slice B pv.length d] 25)).alloc (.cells #[.map (some pb)] 66)).alloc (.map #[] 0)) = .ok () Wb := by
    rw [hWa]; exact hup
  have hsb : Wb.heap.size = w.heap.size + 3 := by
    have := hm0.put_size Try.underlying58 (by unfold maxLen; omega) hwf hup
    rw [this, World.size_alloc, hsa]
  have HBa := Lib.hid hBa
  have HplB := Lib.hid hplB
  have Hgc := Lib.hid hgc
  have HMb := Lib.hid hMb
  have Hgb := Lib.hid hgb
  have HWa := Lib.hid hWa
  clear hBa hplB hgc hm0 hMb hgb hup hf1 hWa
  have hC0 : CS Wa w.heap.size n pb (fun t => decide (t = h)) ((Wb.alloc (.cells #[.map (some (w.heap.size + 2))] 58)).alloc (.cells #[.func (.func 57) #[] #[.pointer (some ⟨w.heap.size + 1, 0, none⟩), .pointer (some ⟨w.heap.size + 3, 0, none⟩), .pointer (some ⟨w.heap.size, 0, none⟩), .pointer (some ⟨w.heap.size + 4, 0, none⟩)]] 81)) := by
    have hab : Below (w.heap.size + 2) Wa Wb := (((below_new (Below.refl _ Wa) (.map #[] 0)).grown Hgb.out (by simp) (fun k e => by cases e; omega))).mono (by omega)
    refine ⟨?_, ?_, ?_, ⟨1, ?_, ?_⟩, ?_⟩
    · exact ((HplB.out.below hab (by omega)).alloc _).alloc _
    · have := Bx.new Wb 58 (.map (some (w.heap.size + 2)))
      rw [hsb] at this
      exact this.alloc _
    · have := Bx.new (Wb.alloc (.cells #[.map (some (w.heap.size + 2))] 58)) 81 (.func (.func 57) #[] #[.pointer (some ⟨w.heap.size + 1, 0, none⟩), .pointer (some ⟨w.heap.size + 3, 0, none⟩), .pointer (some ⟨w.heap.size, 0, none⟩), .pointer (some ⟨w.heap.size + 4, 0, none⟩)])
      rw [World.size_alloc, hsb] at this
      exact this
    · exact (HMb.out.alloc _).alloc _
    · have := cnt_upd (s := fun _ => false) hh rfl
      rw [cnt_none] at this
      have e : upd (fun _ => false) h = fun t => decide (t = h) := by funext t; unfold upd; split <;> simp [*]
      rw [e] at this
      omega
    · exact (hab.alloc (by omega) _).alloc (by simp; omega) _
  have HC0 := Lib.hid hC0
  have HV := Lib.hid (fun pl' hpl' => visit57 Wa w.heap.size hsa B n pv d (HB.out.step HBa.out) Hgc.out HN.out hl HZ.out HIN.out pb pn pf hbl (HP.out.below HBa.out hbl) pl' hpl' n)
  clear hC0
  go_enter Try.func38, Try.ntmps38
  go_wp2_with fail
  obtain ⟨V0, hV0⟩ : ∃ V0, ((Wb.alloc (.cells #[.map (some (w.heap.size + 2))] 58)).alloc (.cells #[.func (.func 57) #[] #[.pointer (some ⟨w.heap.size + 1, 0, none⟩), .pointer (some ⟨w.heap.size + 3, 0, none⟩), .pointer (some ⟨w.heap.size, 0, none⟩), .pointer (some ⟨w.heap.size + 4, 0, none⟩)]] 81)) = V0 := ⟨_, rfl⟩
  rw [hV0] at HC0
  rw [show ((Wb.alloc (.cells #[.map (some (w.heap.size + 1 + 1))] 58)).alloc (.cells #[.func (.func 57) #[] #[.pointer (some ⟨w.heap.size + 1, 0, none⟩), .pointer (some ⟨w.heap.size + 3, 0, none⟩), .pointer (some ⟨w.heap.size, 0, none⟩), .pointer (some ⟨w.heap.size + 3 + 1, 0, none⟩)]] 81)) = V0 from hV0]
  clear hV0 hup'
  go_loopw [19] (fun i wr => ∃ j : Nat, j ≤ la.length ∧ i = .int .i64 j ∧ CS Wa w.heap.size n pb (colK pl (pvN pv) n h (la.map Int.toNat) j) wr) (fun i _ => la.length - (intOf i).toNat)
  case atStart => exact ⟨0, by omega, rfl, HC0.out⟩
  case round =>
    obtain ⟨j, hj, rfl, hC⟩ := hrel
    have HCj := Lib.hid hC
    have c4 := hC.fnB.cell
    have c5 := hC.blB.cell
    by_cases hlt : j < la.length
    · obtain ⟨b1, off1, rfl, hbl1, hc1⟩ := HLA.out (by omega)
      have g := ((HBa.out.trans (hC.bel.mono (by omega))).cell (p := ⟨b1, off1 + j, none⟩) hbl1).trans (hc1 j hlt)
      obtain ⟨x0, x1⟩ := HLIN.out j hlt
      have hgd : (la.map Int.toNat).getD j 0 = (la.getD j 0).toNat := by
        rw [List.getD_eq_getElem?_getD, List.getElem?_map, List.getD_eq_getElem?_getD, List.getElem?_eq_getElem hlt]; rfl
      have hsu : colK pl (pvN pv) n h (la.map Int.toNat) (j + 1) = vis pl (pvN pv) n ((la.map Int.toNat).getD j 0) (colK pl (pvN pv) n h (la.map Int.toNat) j) := rfl
      obtain ⟨x, hx⟩ : ∃ x, la.getD j 0 = x := ⟨_, rfl⟩
      rw [hx] at g x0 x1 hgd
      obtain ⟨t, rfl⟩ : ∃ t : Nat, x = (t : Int) := ⟨x.toNat, by omega⟩
      rw [Int.toNat_natCast] at hgd
      rw [hgd] at hsu
      have HCC := Lib.hid (HV.out pl HPL.out t _ wr (by omega) (cnt_le _ _) hC)
      have HSU2 := Lib.hid hsu
      clear hC hc1 hx hgd hsu
      go_wp2_with (first | (go_at_call 57; refine HCC.out.mono ?_; rintro e w4 ⟨rfl, hC4⟩; have HC4 := Lib.hid hC4; clear hC4))
      go_roundw
      case rel => exact ⟨j + 1, by omega, by go_num, by rw [HSU2.out]; exact HC4.out⟩
      case measure => simp [intOf]; omega
    · obtain rfl : j = la.length := by omega
      obtain ⟨s, hs⟩ : ∃ s, colK pl (pvN pv) n h (la.map Int.toNat) la.length = s := ⟨_, rfl⟩
      have hsn := HPN.out la.length
      rw [hs] at hC HCj hsn
      have hcol : colN pl (pvN pv) n h (la.map Int.toNat) = (List.range n).filter s := by rw [colN, List.length_map, hs]
      have HCOL := Lib.hid hcol
      obtain ⟨q, hM, hq⟩ := hC.m
      have hpw : (((List.range n).filter s).map Int.ofNat).Pairwise (· < ·) := by
        rw [List.pairwise_map]
        exact (List.Pairwise.filter _ List.pairwise_lt_range).imp fun h => by simpa using h
      have hmem : ∀ x, x ∈ ((List.range n).filter s).map Int.ofNat ↔ (fB s x).isSome = true := fun x => by
        rw [List.mem_map]
        unfold fB
        constructor
        · rintro ⟨t, ht, rfl⟩
          rw [List.mem_filter] at ht
          have : (0 : Int) ≤ Int.ofNat t ∧ s (Int.ofNat t).toNat = true := ⟨Int.natCast_nonneg t, ht.2⟩
          rw [if_pos this]; rfl
        · intro hx
          by_cases hc : 0 ≤ x ∧ s x.toNat = true
          · exact ⟨x.toNat, List.mem_filter.2 ⟨List.mem_range.2 (hsn _ hc.2), hc.2⟩, by show (x.toNat : Int) = x; omega⟩
          · rw [if_neg hc] at hx; cases hx
      have hln : (((List.range n).filter s).map Int.ofNat).length ≤ 1099511627776 := by
        rw [List.length_map]
        exact Nat.le_trans (List.length_filter_le _ _) (by simp; omega)
      have HS35 := Lib.hid (sorted35B (w.heap.size + 2) q (fB s) _ wr hM hpw hmem hln)
      clear hC hM hpw hmem hln hcol hs
      go_wp2_with (first
        | (go_at_call 58; refine (keys58 _ _).mono ?_; rintro e w4 ⟨rfl, rfl⟩)
        | (go_at_call 35; refine HS35.out.mono ?_; rintro e w5 ⟨v, rfl, hown, hb⟩; have HO := Lib.hid hown; have HB5 := Lib.hid hb; clear hown hb))
      go_ret
      rw [HCOL.out]
      have hlow : w.heap.size ≤ wr.heap.size + 1 := by have := HCj.out.bel.size; omega
      refine ⟨⟨v, rfl, own_base (by have := HO.out; rwa [List.length_map] at this) hlow⟩, ?_⟩
      exact (HBa.out.trans (HCj.out.bel.mono (by omega))).trans (HB5.out.mono (by have := HCj.out.bel.size; omega))
end Go.Proofs.Ytcbofikjcgdjmaa
