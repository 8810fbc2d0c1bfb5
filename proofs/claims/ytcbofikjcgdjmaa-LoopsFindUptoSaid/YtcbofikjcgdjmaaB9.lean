/- The contracts of slices.Reverse and slices.Sort on a row of the call's own; dominator.Order. -/
import Derived.Test.YtcbofikjcgdjmaaB8
import Derived.Sort.OwnSortedInts
namespace Go.Proofs.Ytcbofikjcgdjmaa
set_option linter.unusedVariables false
set_option linter.unusedSimpArgs false
open Go.RowKit Go.Sort

theorem IV.of_own_cap {w : World} {base : Nat} {v : Value} {xs : List Int} (h : w.ownsRow base 3 1 v xs.length (icells xs)) : ∃ A c, v = .slice A xs.length c ∧ xs.length ≤ c ∧ IV w A xs := by
  obtain ⟨A, c, hv, hI⟩ := IV.of_own h
  refine ⟨A, c, hv, ?_, hI⟩
  rcases h.2 with ⟨rfl, h0⟩ | ⟨g, cap, cur, rfl, hbg, hg, hnc, _⟩
  · omega
  · cases hv; exact hnc
theorem grow_none (w : World) : grow w #[] = w := by cases w; simp [grow]
theorem reverse47 (v : Value) (os : List Int) (base : Nat) (W : World) (h : W.ownsRow base 3 1 v os.length (icells os)) (hl : os.length ≤ 1099511627776) :
    Calls Try.prog 47 #[v] W fun e w' => e = .returned (.tuple #[]) ∧ w'.ownsRow base 3 1 v os.length (icells os.reverse) ∧ W.grownBy w' v.ownBlock := by
  rcases h.2 with ⟨rfl, h0⟩ | ⟨g, cap, cur, rfl, hbg, hg, hnc, hcm, hcs, ht⟩
  · have : os = [] := List.eq_nil_of_length_eq_zero h0
    subst this
    exact (Try.slices_Reverse_int_empty none 0 W).mono fun e w' h => ⟨h.1, by rw [h.2]; exact World.ownsRow_nil _ _ _ _, by rw [h.2]; exact World.grownBy.refl _ _⟩
  · have hH : Holds (Value.int .i64) W g 0 os.toArray := holds_of_blockI hg (by simpa [icells] using ht)
    refine (Try.slices_Reverse_int g 0 cap os W hH (by omega)).mono fun e w' h => ?_
    obtain ⟨he, n, rfl⟩ := h
    have hgr : grow (putRow (Value.int .i64) (Sort.ahead W n) g 0 os.reverse.toArray) #[] = putRow (Value.int .i64) (Sort.ahead W n) g 0 os.reverse.toArray := grow_none _
    refine ⟨he, ?_, ?_⟩
    · rw [← hgr]
      exact ownsRow_sortedI (by simp) hbg hg (by simpa using hnc) hcm hcs
    · rw [← hgr]
      exact grownBy_sortedI _
theorem sort54 (v : Value) (os : List Int) (base : Nat) (W : World) (h : W.ownsRow base 3 1 v os.length (icells os)) (hl : os.length ≤ 1099511627776) :
    Calls Try.prog 54 #[v] W fun e w' => e = .returned (.tuple #[]) ∧ w'.ownsRow base 3 1 v os.length (icells (os.mergeSort fun x y => decide (x ≤ y))) ∧ W.grownBy w' v.ownBlock := by
  rcases h.2 with ⟨rfl, h0⟩ | ⟨g, cap, cur, rfl, hbg, hg, hnc, hcm, hcs, ht⟩
  · have : os = [] := List.eq_nil_of_length_eq_zero h0
    subst this
    exact (Try.slices_Sort_int_none none 0 W).mono fun e w' h => ⟨h.1, by rw [h.2]; simpa [icells] using World.ownsRow_nil W base 3 1, by rw [h.2]; exact World.grownBy.refl _ _⟩
  · have hH : Holds (Value.int .i64) W g 0 os.toArray := holds_of_blockI hg (by simpa [icells] using ht)
    refine (Try.slices_Sort_int g 0 cap os W hH (Array.getElem?_eq_some_iff.1 hg).1 (by omega)).mono fun e w' h => ?_
    obtain ⟨he, n, obs, rfl⟩ := h
    exact ⟨he, ownsRow_sortedI (by simp) hbg hg hnc hcm hcs, grownBy_sortedI _⟩

/-- the order in which a graph's nodes are left, in reverse -/
def ordN (bs : List Bk) : List Nat := (dfs (nxN bs) bs.length 0 (fun _ => false, [])).2.reverse
theorem info4 : (Try.prog.info? 4).map (fun i => (i.zero, i.size, i.bytes)) = some (some (.bool false), 1, 1) := by kernel_rfl
/-- what makes a graph's sizes such that memory holds them -/
structure GZ (bs : List Bk) (pv : List (List Int)) : Prop where
  len : bs.length ≤ 1048576
  nx : ∀ j, j < bs.length → (nthB bs j).nx.length ≤ 1048576
  edges : (edgK bs bs.length).length ≤ 1099511627776
  pv : ∀ j, j < pv.length → (nthR pv j).length ≤ 1099511627776

theorem okB_at {bs : List Bk} {n : Nat} : ∀ {k j : Nat}, okB bs n k = true → j < k → blkB (endK bs j) (nthB bs j) = true ∧ (nthB bs j).nx.all (inB n) = true
  | k + 1, j, h, hj => by
    rw [okB, Bool.and_eq_true, Bool.and_eq_true] at h
    by_cases e : j = k
    · subst e; exact ⟨h.1.2, h.2⟩
    · exact okB_at h.1.1 (by omega)
theorem validB_okB {bs : List Bk} {pv : List (List Int)} (h : validB bs pv = true) : bs.length ≠ 0 ∧ pv.length = bs.length ∧ okB bs bs.length bs.length = true ∧ prevL bs = pv := by
  unfold validB at h
  simp only [Bool.and_eq_true, decide_eq_true_eq, beq_iff_eq] at h
  exact ⟨h.1.1.1, h.1.1.2, h.1.2, h.2⟩
theorem valid_nx {bs : List Bk} {pv : List (List Int)} (h : validB bs pv = true) : ∀ j, j < bs.length → (nthB bs j).nx.length ≤ 2 := fun j hj => by
  have := (okB_at (validB_okB h).2.2.1 hj).1
  unfold blkB at this
  simp at this
  omega
theorem valid_in {bs : List Bk} {pv : List (List Int)} (h : validB bs pv = true) : ∀ j, j < bs.length → ∀ q, q < (nthB bs j).nx.length → 0 ≤ (nthB bs j).nx.getD q 0 ∧ (nthB bs j).nx.getD q 0 < bs.length := fun j hj q hq => by
  have := (okB_at (validB_okB h).2.2.1 hj).2
  rw [List.all_eq_true] at this
  have := this _ (getD_mem hq)
  unfold inB at this
  simpa using this

theorem DS.start (W1 : World) (G n : Nat) : DS W1 G W1.heap.size n (fun _ => false) [] ((((W1.alloc (.cells (madeCells #[.bool false] n) 4)).alloc (.cells #[.slice (some ⟨W1.heap.size, 0, none⟩) n n] 55)).alloc (.cells #[.slice none 0 0] 28)).alloc
    (.cells #[.func (.func 46) #[] #[.pointer (some ⟨W1.heap.size + 1, 0, none⟩), .pointer (some ⟨G, 0, none⟩), .pointer (some ⟨W1.heap.size + 3, 0, none⟩), .pointer (some ⟨W1.heap.size + 2, 0, none⟩)]] 81)) := by
  have b1 := below_new (Below.refl _ W1) (.cells (madeCells #[.bool false] n) 4)
  refine ⟨?_, ?_, ⟨.slice none 0 0, ?_, World.ownsRow_nil _ _ _ _⟩, ?_, below_new (below_new (below_new b1 _) _) _, by simp⟩
  · have := Bx.new (W1.alloc (.cells (madeCells #[.bool false] n) 4)) 55 (.slice (some ⟨W1.heap.size, 0, none⟩) n n)
    rw [World.size_alloc] at this
    exact (this.alloc _).alloc _
  · have := Bx.new (((W1.alloc (.cells (madeCells #[.bool false] n) 4)).alloc (.cells #[.slice (some ⟨W1.heap.size, 0, none⟩) n n] 55)).alloc (.cells #[.slice none 0 0] 28)) 81 (.func (.func 46) #[] #[.pointer (some ⟨W1.heap.size + 1, 0, none⟩), .pointer (some ⟨G, 0, none⟩), .pointer (some ⟨W1.heap.size + 3, 0, none⟩), .pointer (some ⟨W1.heap.size + 2, 0, none⟩)])
    simp only [World.size_alloc] at this
    exact this
  · have := Bx.new ((W1.alloc (.cells (madeCells #[.bool false] n) 4)).alloc (.cells #[.slice (some ⟨W1.heap.size, 0, none⟩) n n] 55)) 28 (.slice none 0 0)
    simp only [World.size_alloc] at this
    exact this.alloc _
  · exact (((World.rowIs_made W1 (.bool false) n 4).alloc _).alloc _).alloc _
set_option maxRecDepth 100000 in
set_option maxHeartbeats 4000000 in
theorem order26_no (A B : Option Addr) (bs : List Bk) (pv : List (List Int)) (c d : Nat) (w : World) (h : BV w A bs) (h' : RV w B pv) (hz : GZ bs pv) (hv : validB bs pv = false) :
    Calls Try.prog 26 #[.agg #[.slice A bs.length c, .slice B pv.length d]] w fun e w' => e = .returned (.slice none 0 0) ∧ Below w.heap.size w w' := by
  have HE := Lib.hid (fun W h h' => valid34 A B bs pv c d W h h' hz.len hz.nx hz.edges hz.pv)
  rw [hv] at HE
  have HS := Lib.hid h
  have HT := Lib.hid h'
  clear h h' hz hv
  go_enter Try.func26, Try.ntmps26
  go_wp2_with (go_at_call 34; refine (HE.out _ (HS.out.alloc _) (HT.out.alloc _)).mono ?_; rintro e w1 ⟨rfl, hb⟩; have HB := Lib.hid ((below_new (Below.refl _ _) _).trans (hb.mono (by simp))); clear hb)
  go_ret
  exact ⟨rfl, HB.out⟩

set_option maxRecDepth 100000 in
set_option maxHeartbeats 4000000 in
theorem order26 (A B : Option Addr) (bs : List Bk) (pv : List (List Int)) (c d : Nat) (w : World) (h : BV w A bs) (h' : RV w B pv) (hz : GZ bs pv) (hv : validB bs pv = true) :
    Calls Try.prog 26 #[.agg #[.slice A bs.length c, .slice B pv.length d]] w fun e w' => (∃ R cap, e = .returned (.slice R (ordN bs).length cap) ∧ (ordN bs).length ≤ cap ∧ IV w' R ((ordN bs).map Int.ofNat)) ∧ Below w.heap.size w w' := by
  have HE := Lib.hid (fun W h h' => valid34 A B bs pv c d W h h' hz.len hz.nx hz.edges hz.pv)
  rw [hv] at HE
  have HS := Lib.hid h
  have HT := Lib.hid h'
  have HV := Lib.hid hv
  have HNX := Lib.hid (valid_nx hv)
  have HIN := Lib.hid (valid_in hv)
  have hl := hz.len
  have h0 := (validB_okB hv).1
  obtain ⟨i4, hi4, hy0, hy1, hy2⟩ := info_parts info4
  have hsf : ∀ (a : Addr) (f : Fn) (x y : Array Value) (W : World) (m : Mode), (store a (.func f x y) m).run Try.prog W = stored Try.prog W a (.func f x y) m := fun a f x y W m => run_store _ _ _ _ _ rfl
  clear h h' hz hv
  go_enter Try.func26, Try.ntmps26
  go_wp2_with (first
    | (go_at_call 34; refine (HE.out _ (HS.out.alloc _) (HT.out.alloc _)).mono ?_; rintro e W1 ⟨rfl, hb⟩
       have HB := Lib.hid ((below_new (Below.refl _ _) (.cells #[.slice A bs.length c, .slice B pv.length d] 25)).trans (hb.mono (by simp)))
       have cG := (hb.cell (p := ⟨w.heap.size, 0, none⟩) (by simp)).trans (show _ = some (.slice A bs.length c) by simp)
       have hGN : w.heap.size < W1.heap.size := by have := hb.size; simp at this; omega
       have hv46 := visit46 W1 W1.heap.size rfl w.heap.size hGN A bs c (HS.out.step HB.out) cG hl HNX.out HIN.out bs.length 0 bs.length (fun _ => false) [] _ (by omega) rfl (cnt_le _ _) (by rw [cnt_none]; simp) hl (DS.start W1 w.heap.size bs.length)
       have H46 := Lib.hid hv46
       clear hb hv46)
    | (go_at_call 46; refine H46.out.mono ?_; rintro e w2 ⟨rfl, hD, hm⟩
       obtain ⟨v, hv, hown⟩ := hD.outB
       have cv := hv.cell
       have HM2 := Lib.hid hm
       have HV2 := Lib.hid hv
       have HD2 := Lib.hid hD
       have HO2 := Lib.hid hown
       have hoc : (List.map Int.ofNat (dfs (nxN bs) bs.length 0 (fun _ => false, [])).2).length ≤ 1099511627776 := by rw [List.length_map]; have := hm; omega
       have hown' : w2.ownsRow (W1.heap.size + 4) 3 1 v (List.map Int.ofNat (dfs (nxN bs) bs.length 0 (fun _ => false, [])).2).length (icells (List.map Int.ofNat (dfs (nxN bs) bs.length 0 (fun _ => false, [])).2)) := by rw [List.length_map]; exact hown
       have H47 := Lib.hid (reverse47 v _ (W1.heap.size + 4) w2 hown' hoc)
       clear hv hown hm hD hoc hown')
    | (go_at_call 47; refine H47.out.mono ?_; rintro e w3 ⟨rfl, hown3, hg3⟩
       have hv3 := HV2.out.grown hg3 (own_ne HO2.out (by omega))
       have cv3 := hv3.cell
       have HO3 := Lib.hid hown3
       have HG3 := Lib.hid hg3
       clear hown3 hg3 hv3)
    | (at_make; refine wpList_make_row _ rfl _ _ 55 rfl 4 i4 (.bool false) Try.underlying55 hi4 hy0 hy1 rfl .i64 .i64 bs.length rfl rfl (by rw [hy2]; omega) (by omega) ?_))
  go_ret
  have h3 := HO3.out
  rw [← List.map_reverse] at h3
  obtain ⟨R, cap, rfl, hcap, hI⟩ := IV.of_own_cap (xs := (ordN bs).map Int.ofNat) (by simpa [ordN] using h3)
  refine ⟨⟨R, cap, by rw [List.length_map]; rfl, by simpa using hcap, hI⟩, ?_⟩
  have hb2 : Below w.heap.size w w2 := HB.out.trans (HD2.out.bel.mono HB.out.size)
  exact hb2.grown HG3.out hb2.size (fun k e => by have := (HO2.out.lt k e).1; have := HB.out.size; omega)
end Go.Proofs.Ytcbofikjcgdjmaa
