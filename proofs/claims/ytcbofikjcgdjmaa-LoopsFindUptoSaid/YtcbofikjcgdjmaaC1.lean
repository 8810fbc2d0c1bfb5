/- The contract of next: the successors of a small valid graph. -/
import Derived.Test.YtcbofikjcgdjmaaB24
namespace Go.Proofs.Ytcbofikjcgdjmaa
set_option linter.unusedVariables false
set_option linter.unusedSimpArgs false
open Go.RowKit

/-- the successors of all blocks -/
def nxs (bs : List Bk) (k : Nat) : List (List Int) := (List.range k).map fun i => (nthB bs i).nx
theorem nxs_length (bs : List Bk) (k : Nat) : (nxs bs k).length = k := by simp [nxs]
theorem nxs_at (bs : List Bk) {k j : Nat} (h : j < k) : nthR (nxs bs k) j = (nthB bs j).nx := by
  rw [nthR, nxs, List.getD_eq_getElem?_getD, List.getElem?_map, List.getElem?_range h]; rfl
theorem nxs_succ (bs : List Bk) (k : Nat) : nxs bs (k + 1) = nxs bs k ++ [(nthB bs k).nx] := by simp [nxs, List.range_succ]
/-- a row of slices of the call's own; the slices themselves lie in w0 -/
def SO (w0 W : World) (base : Nat) (v : Value) (xss : List (List Int)) : Prop :=
  ∃ cs : List Value, W.ownsRow base 28 1 v xss.length cs ∧ ∀ j, j < xss.length → ∃ A c, cs[j]? = some (.slice A (nthR xss j).length c) ∧ IV w0 A (nthR xss j)
theorem SO.nil (w0 W : World) (base : Nat) : SO w0 W base (.slice none 0 0) [] := ⟨[], World.ownsRow_nil _ _ _ _, fun j hj => absurd hj (by simp)⟩
theorem nthR_append_left {ls : List (List Int)} {x : List Int} {j : Nat} (h : j < ls.length) : nthR (ls ++ [x]) j = nthR ls j := by
  rw [nthR, nthR, List.getD_eq_getElem?_getD, List.getElem?_append_left h, List.getD_eq_getElem?_getD]
theorem nthR_append_right {ls : List (List Int)} {x : List Int} : nthR (ls ++ [x]) ls.length = x := by
  rw [nthR, List.getD_eq_getElem?_getD, List.getElem?_append_right (Nat.le_refl _), Nat.sub_self]; rfl
theorem SO.snoc {w0 W W1 : World} {base : Nat} {v v' : Value} {xss : List (List Int)} (cs : List Value) (hr : W.ownsRow base 28 1 v xss.length cs)
    (hc : ∀ j, j < xss.length → ∃ A c, cs[j]? = some (.slice A (nthR xss j).length c) ∧ IV w0 A (nthR xss j)) (x : List Int) (A1 : Option Addr) (c1 : Nat)
    (hown : W1.ownsRow base 28 1 v' (xss.length + 1) (cs ++ [.slice A1 x.length c1])) (h1 : IV w0 A1 x) : SO w0 W1 base v' (xss ++ [x]) := by
  have hlen : cs.length = xss.length := by have := hr.1; omega
  refine ⟨_, by rw [List.length_append]; exact hown, fun j hj => ?_⟩
  rw [List.length_append, List.length_singleton] at hj
  by_cases e : j < xss.length
  · rw [nthR_append_left e]
    obtain ⟨B, d, k0, k1⟩ := hc j e
    exact ⟨B, d, by rw [List.getElem?_append_left (by omega), k0], k1⟩
  · obtain rfl : j = xss.length := by omega
    rw [nthR_append_right]
    refine ⟨A1, c1, ?_, h1⟩
    have := getElem?_append_at cs [.slice A1 x.length c1] _ 0 hlen
    exact this
theorem SO.below {w0 W W' : World} {base : Nat} {v : Value} {xss : List (List Int)} (h : SO w0 W base v xss) (hb : Below W.heap.size W W') : SO w0 W' base v xss := by
  obtain ⟨cs, hr, hc⟩ := h
  exact ⟨cs, own_below hr hb, hc⟩
theorem SO.rv {w0 W : World} {base : Nat} {v : Value} {xss : List (List Int)} (h : SO w0 W base v xss) (hb : Below w0.heap.size w0 W) : ∃ A c, v = .slice A xss.length c ∧ xss.length ≤ c ∧ RV W A xss := by
  obtain ⟨cs, hr, hc⟩ := h
  have hl := hr
  rcases hr.2 with ⟨rfl, h0⟩ | ⟨g, cap, cur, rfl, hbg, hg, hnc, hcm, hcs, ht⟩
  · exact ⟨none, 0, by rw [h0], by omega, fun h => by omega⟩
  · refine ⟨_, _, rfl, hnc, fun _ => ⟨g, 0, rfl, (Array.getElem?_eq_some_iff.1 hg).1, fun j hj => ?_⟩⟩
    obtain ⟨A1, c1, h0, h1⟩ := hc j hj
    refine ⟨A1, c1, ?_, h1.step hb⟩
    rw [Nat.zero_add]
    have := hl.cellAt j (by omega)
    rw [h0] at this
    exact this

set_option maxRecDepth 100000 in
set_option maxHeartbeats 4000000 in
theorem next21_no (A B : Option Addr) (bs : List Bk) (pv : List (List Int)) (c d : Nat) (w : World) (h : BV w A bs) (h' : RV w B pv) (hz : GZ bs pv) (hv : 14 < bs.length ∨ validB bs pv = false) :
    Calls Try.prog 21 #[.agg #[.slice A bs.length c, .slice B pv.length d]] w fun e w' => e = .returned (.tuple #[.slice none 0 0, .bool false]) ∧ Below w.heap.size w w' := by
  by_cases h14 : 14 < bs.length
  · have q1 : decide ((14 : Int) < (bs.length : Int)) = true := by simpa using (by omega : (14 : Int) < (bs.length : Int))
    clear h14 h h' hz hv
    go_enter Try.func21, Try.ntmps21
    go_wp2_with fail
    go_ret2
    exact ⟨rfl, below_new (Below.refl _ _) _⟩
  · have q1 : decide ((14 : Int) < (bs.length : Int)) = false := by simpa using (by omega : ¬ (14 : Int) < (bs.length : Int))
    have hv := hv.resolve_left h14
    have HE := Lib.hid (fun W h h' => valid34 A B bs pv c d W h h' hz.len hz.nx hz.edges hz.pv)
    rw [hv] at HE
    have HS := Lib.hid h
    have HT := Lib.hid h'
    clear h h' hz hv h14
    go_enter Try.func21, Try.ntmps21
    go_wp2_with (go_at_call 34; refine (HE.out _ (HS.out.alloc _) (HT.out.alloc _)).mono ?_; rintro e w1 ⟨rfl, hb⟩; have HB := Lib.hid ((below_new (Below.refl _ _) _).trans (hb.mono (by simp))); clear hb)
    go_ret2
    exact ⟨rfl, HB.out⟩

set_option maxRecDepth 100000 in
set_option maxHeartbeats 4000000 in
theorem next21 (A B : Option Addr) (bs : List Bk) (pv : List (List Int)) (c d : Nat) (w : World) (h : BV w A bs) (h' : RV w B pv) (hz : GZ bs pv) (h14 : bs.length ≤ 14) (hv : validB bs pv = true) :
    Calls Try.prog 21 #[.agg #[.slice A bs.length c, .slice B pv.length d]] w fun e w' => (∃ R cap, e = .returned (.tuple #[.slice R bs.length cap, .bool true]) ∧ bs.length ≤ cap ∧ RV w' R (nxs bs bs.length)) ∧ Below w.heap.size w w' := by
  have q1 : decide ((14 : Int) < (bs.length : Int)) = false := by simpa using (by omega : ¬ (14 : Int) < (bs.length : Int))
  have HE := Lib.hid (fun W h h' => valid34 A B bs pv c d W h h' hz.len hz.nx hz.edges hz.pv)
  rw [hv] at HE
  have HS := Lib.hid h
  have HT := Lib.hid h'
  have H14 := Lib.hid h14
  clear h h' hz hv h14
  obtain ⟨i0, hi, hz0, hz1, hz2⟩ := info_parts info28
  go_enter Try.func21, Try.ntmps21
  go_wp2_with (go_at_call 34; refine (HE.out _ (HS.out.alloc _) (HT.out.alloc _)).mono ?_; rintro e W1 ⟨rfl, hb⟩
               have y0 := (hb.cell (p := ⟨w.heap.size, 0, none⟩) (by simp)).trans (cell_new' _ _ #[.slice A bs.length c, .slice B pv.length d] _ _ _ rfl rfl)
               have hg : w.heap.size < W1.heap.size := by have := hb.size; simp at this; omega
               have HB := Lib.hid ((below_new (Below.refl _ _) _).trans (hb.mono (by simp))); clear hb)
  have HY := Lib.hid (show W1.cell? ⟨w.heap.size, 0, none⟩ = some (.slice A bs.length c) from y0)
  have HS1 := Lib.hid (HS.out.step HB.out)
  clear y0
  go_loopw [4, 18] (fun v i wr => ∃ k : Nat, k ≤ bs.length ∧ i = .int .i64 k ∧ SO W1 wr W1.heap.size v (nxs bs k) ∧ Below W1.heap.size W1 wr) (fun _ i _ => bs.length - (intOf i).toNat)
  case atStart => exact ⟨0, by omega, rfl, SO.nil _ _ _, Below.refl _ _⟩
  case round =>
    obtain ⟨k, hk, rfl, hO, hB⟩ := hrel
    have HO := Lib.hid hO
    have HBk := Lib.hid hB
    have y0 := (hB.cell (p := ⟨w.heap.size, 0, none⟩) hg).trans HY.out
    have hszk := hB.size
    clear hO hB
    by_cases hlt : k < bs.length
    · obtain ⟨b, off, rfl, hbl, hc⟩ := (HS1.out) (by omega)
      obtain ⟨A1, c1, g0, g1, g2, hA1⟩ := hc k hlt
      replace g2 := (HBk.out.cell (p := ⟨b, off + k * 3 + 2, none⟩) hbl).trans g2
      obtain ⟨y, hy⟩ : ∃ y, nthB bs k = y := ⟨_, rfl⟩
      rw [hy] at g2 hA1
      have hst : nxs bs (k + 1) = nxs bs k ++ [y.nx] := by rw [nxs_succ, hy]
      obtain ⟨nx, hnx⟩ : ∃ nx, y.nx = nx := ⟨_, rfl⟩
      rw [hnx] at g2 hA1 hst
      have HA := Lib.hid hA1
      have HST := Lib.hid hst
      clear hc g0 g1 hy hA1 hst hnx
      obtain ⟨cs, hr, hcs⟩ := HO.out
      rw [nxs_length] at hr
      have HR := Lib.hid hr
      have HCS := Lib.hid hcs
      have h14 := H14.out
      clear hr hcs
      go_wp2_with (first
        | (at_builtin; refine wpList_append_own _ rfl _ _ 23 rfl W1.heap.size 28 i0 (.slice none 0 0) 1 24 Try.underlying23 hi hz0 hz1 hz2 rfl (by decide) _ _ _ rfl (HR.out.alloc _) ⟨wr.heap.size, 0, none⟩ 1 1 [.slice A1 nx.length c1] rfl rfl (cell_one_new _ _ _) (by simp [Value.oneCell']) (by unfold maxLen; omega) (by omega) (by simp; omega) ?_; intro v' w1 hown' hgrow _
           have HO1 := Lib.hid hown'
           have hb1 := Lib.hid ((below_new HBk.out (.cells #[.slice A1 nx.length c1] 28)).grown hgrow (by simp; omega) (fun q e => (HR.out.lt q e).1))
           clear hown' hgrow))
      go_roundw
      case rel => exact ⟨k + 1, by omega, by go_num, by rw [HST.out]; exact SO.snoc (W := wr) cs (by rw [nxs_length]; exact HR.out) HCS.out nx A1 c1 (by rw [nxs_length]; exact HO1.out) HA.out, hb1.out⟩
      case measure => simp [intOf]; omega
    · obtain rfl : k = bs.length := by omega
      obtain ⟨R, cap, rfl, hcap, hR⟩ := HO.out.rv HBk.out
      have HR := Lib.hid hR
      have hnl := nxs_length bs bs.length
      clear hR
      go_wp2_with fail
      go_ret2
      exact ⟨⟨R, cap, by rw [nxs_length]; rfl, by rw [nxs_length] at hcap; exact hcap, HR.out⟩, HB.out.trans (HBk.out.mono HB.out.size)⟩
end Go.Proofs.Ytcbofikjcgdjmaa
