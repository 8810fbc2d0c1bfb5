/- slices.Sort, slices.Compact, slices.DeleteFunc (of zero) and slices.Contains on a row of integers that the call owns. -/
import Derived.Test.YtgjpenhfechhcaaA14
import Derived.Test.YtgjpenhfechhcaaShelfP
import Derived.Sort.OwnSortedInts
namespace Go.Proofs.Ytgjpenhfechhcaa
set_option linter.unusedVariables false
set_option linter.unusedSimpArgs false
open Go.RowKit Go.Sort Go.Proofs.YtgjpenhfechhcaaW.PrintWords Go.Proofs.YtgjpenhfechhcaaW.PrintLast Go.Proofs.YtgjpenhfechhcaaW.PrintMore
open PIsaDecodes

theorem own_cut {w : World} {base g cap n m : Nat} {xs ys : List Value} (h : w.ownsRow base 3 1 (.slice (some ⟨g, 0, none⟩) n cap) n (xs ++ ys)) (hm : xs.length = m) :
    w.ownsRow base 3 1 (.slice (some ⟨g, 0, none⟩) m cap) m xs := by
  obtain ⟨h1, h2⟩ := h
  rcases h2 with ⟨h0, _⟩ | ⟨g', cap', cur, hv, hb, hg, hn, hc, hs, ht⟩
  · cases h0
  · cases hv
    simp at h1
    refine ⟨by omega, .inr ⟨g, cap, cur, rfl, hb, hg, by omega, hc, hs, ?_⟩⟩
    have : cur.toList.take (m * 1) = (cur.toList.take (n * 1)).take m := by rw [List.take_take]; congr 1; omega
    rw [this, ht, ← hm, List.take_left']
    rfl
/-- a row written over, and cut -/
theorem put_own {w : World} {base g cap q : Nat} {cur : Array Value} {zs ys rest : List Int} {os : Array Obj} (hb : w.heap[g]? = some (.cells cur 3 (0, 0))) (hbase : base ≤ g)
    (h1 : zs.length ≤ cap) (h2 : cap ≤ maxLen) (h3 : cur.size = cap * 1) (hl : (ys ++ rest).length = zs.length) :
    (grow (putRow (Value.int .i64) (Sort.ahead w q) g 0 (ys ++ rest).toArray) os).ownsRow base 3 1 (.slice (some ⟨g, 0, none⟩) ys.length cap) ys.length (ys.map (Value.int .i64)) := by
  have h := ownsRow_sortedI (base := base) (n := q) (os := os) (ss := zs) (ts := ys ++ rest) hl hbase hb h1 h2 h3
  rw [List.map_append] at h
  exact own_cut h (by simp)
theorem put_below {w : World} {base g q : Nat} {d : Array Int} {os : Array Obj} (hg : base ≤ g) (hw : base ≤ w.heap.size) : Below base w (grow (putRow (Value.int .i64) (Sort.ahead w q) g 0 d) os) := by
  have h := grownBy_sortedI (w := w) (g := g) (n := q) (os := os) d
  exact ⟨h.os, h.tape, h.output, h.size, fun k hk => h.block k (by omega) (by intro e; cases e; omega)⟩
theorem own_holds {w : World} {g : Nat} {zs : List Int} {cur : Array Value} (hb : w.heap[g]? = some (.cells cur 3 (0, 0))) (ht : cur.toList.take (zs.length * 1) = zs.map (Value.int .i64)) : Holds (Value.int .i64) w g 0 zs.toArray :=
  holds_of_blockI hb (by simpa using ht)

theorem sort_own (base : Nat) (v : Value) (zs : List Int) (w : World) (h : w.ownsRow base 3 1 v zs.length (zs.map (Value.int .i64))) (hl : zs.length < 4611686018427387904) (hw : base ≤ w.heap.size) :
    Calls Try.prog 57 #[v] w fun e w' => e = .returned (.tuple #[]) ∧ (w'.ownsRow base 3 1 v zs.length ((zs.mergeSort fun x y => decide (x ≤ y)).map (Value.int .i64)) ∧ Below base w w') := by
  obtain ⟨h1, h2⟩ := h
  rcases h2 with ⟨rfl, hn⟩ | ⟨g, cap, cur, rfl, hb, hg, hn, hc, hs, ht⟩
  · have hz : zs = [] := List.length_eq_zero_iff.1 hn
    subst hz
    refine (Any.slices_Sort_int_none Try.laysSort none 0 w).mono ?_
    rintro e w' ⟨rfl, rfl⟩
    exact ⟨rfl, ⟨by simp, .inl ⟨rfl, rfl⟩⟩, Below.refl _ _⟩
  · refine (Any.slices_Sort_int Try.laysSort g 0 cap zs w (own_holds hg ht) (Array.getElem?_eq_some_iff.1 hg).1 hl).mono ?_
    rintro e w' ⟨rfl, n, os, rfl⟩
    have hp := put_own (base := base) (q := n) (zs := zs) (ys := zs.mergeSort fun x y => decide (x ≤ y)) (rest := []) (os := os) hg hb hn hc hs (by simp)
    rw [List.append_nil, List.length_mergeSort] at hp
    exact ⟨rfl, hp, put_below hb hw⟩

theorem compact_len : ∀ zs : List Int, (Lib.compact zs).length ≤ zs.length := by
  intro zs
  unfold Lib.compact Lib.compactUpTo
  have := List.length_filter_le (Lib.keeps zs.toArray) (List.range zs.length)
  simpa using this

theorem compact_own (base : Nat) (v : Value) (zs : List Int) (w : World) (h : w.ownsRow base 3 1 v zs.length (zs.map (Value.int .i64))) (hl : zs.length < 4611686018427387904) (hw : base ≤ w.heap.size) :
    Calls Try.prog 58 #[v] w fun e w' => ∃ v', e = .returned v' ∧ (w'.ownsRow base 3 1 v' (Lib.compact zs).length ((Lib.compact zs).map (Value.int .i64)) ∧ Below base w w') := by
  obtain ⟨h1, h2⟩ := h
  rcases h2 with ⟨rfl, hn⟩ | ⟨g, cap, cur, rfl, hb, hg, hn, hc, hs, ht⟩
  · have hz : zs = [] := List.length_eq_zero_iff.1 hn
    subst hz
    refine (Any.slices_Compact_int_empty Try.laysCompact none 0 w).mono ?_
    rintro e w' ⟨rfl, rfl⟩
    exact ⟨_, rfl, ⟨rfl, .inl ⟨rfl, rfl⟩⟩, Below.refl _ _⟩
  · refine (Any.slices_Compact_int Try.laysCompact g 0 cap zs w (own_holds hg ht) (by omega) hn).mono ?_
    rintro e w' ⟨rfl, q, rfl⟩
    have hp := put_own (base := base) (q := q) (zs := zs) (ys := Lib.compact zs) (rest := List.replicate (zs.length - (Lib.compact zs).length) 0) (os := #[]) hg hb hn hc hs (by have := compact_len zs; simp; omega)
    rw [grow_empty] at hp
    have hb2 := put_below (w := w) (q := q) (d := (Lib.compact zs ++ List.replicate (zs.length - (Lib.compact zs).length) 0).toArray) (os := #[]) hb hw
    rw [grow_empty] at hb2
    exact ⟨_, rfl, hp, hb2⟩

theorem gives60 (x : Int) (W : World) : FnGives Try.prog 60 #[] #[.int .i64 x] (.bool (x == 0)) W := by
  show Calls Try.prog 60 #[.int .i64 x] W _
  go_enter Try.func60, Try.ntmps60
  go_wp2
  all_goals (go_ret; exact ⟨by simp_all, 0, rfl⟩)

theorem delete_nil (w : World) : Calls Try.prog 59 #[.slice none 0 0, .func (.func 60) #[] #[]] w fun e w' => e = .returned (.slice none 0 0) ∧ w' = w := by
  have H := Lib.hid (fun W => AnyE.slices_IndexFunc_empty Try.laysIndexFunc none 0 (.func (.func 60) #[] #[]) W)
  go_enter Try.func59, Try.ntmps59
  go_wp2_with fail
  refine (H.out _).mono ?_
  rintro e w1 ⟨rfl, rfl⟩
  go_wp2_with fail
  go_ret
  exact ⟨rfl, rfl⟩

theorem delete_own (base : Nat) (v : Value) (zs : List Int) (w : World) (h : w.ownsRow base 3 1 v zs.length (zs.map (Value.int .i64))) (hl : zs.length < 4611686018427387904) (hw : base ≤ w.heap.size) :
    Calls Try.prog 59 #[v, .func (.func 60) #[] #[]] w fun e w' => ∃ v', e = .returned v' ∧ (w'.ownsRow base 3 1 v' (zs.filter fun x => !(x == 0)).length ((zs.filter fun x => !(x == 0)).map (Value.int .i64)) ∧ Below base w w') := by
  obtain ⟨h1, h2⟩ := h
  rcases h2 with ⟨rfl, hn⟩ | ⟨g, cap, cur, rfl, hb, hg, hn, hc, hs, ht⟩
  · have hz : zs = [] := List.length_eq_zero_iff.1 hn
    subst hz
    refine (delete_nil w).mono ?_
    rintro e w' ⟨rfl, rfl⟩
    exact ⟨_, rfl, ⟨rfl, .inl ⟨rfl, rfl⟩⟩, Below.refl _ _⟩
  · have eg : ∀ args w, (callFunc 60 args).run Try.prog w = .ok (.enter 60 args) w := enters_of Try.func60 (by kernel_rfl) rfl
    have hp0 := AnyE.slices_DeleteFunc Try.laysDelete (Value.int .i64) (fun _ => rfl) (fun x => x == 0) 60 #[] eg 0 Try.zeroValue3 g 0 cap zs.toArray w
      (fun W x _ => gives60 x W) (fun n os dk x _ => gives60 x _) (own_holds hg ht) (by simp; omega) (by simpa using hn)
    simp only [List.size_toArray] at hp0
    refine hp0.mono ?_
    rintro e w' ⟨rfl, q, rfl⟩
    have hp := put_own (base := base) (q := q) (zs := zs) (ys := zs.filter fun x => !(x == 0)) (rest := List.replicate (zs.length - (zs.filter fun x => !(x == 0)).length) 0) (os := #[]) hg hb hn hc hs (by have := List.length_filter_le (fun x : Int => !(x == 0)) zs; simp at this ⊢; omega)
    rw [grow_empty] at hp
    have hb2 := put_below (w := w) (q := q) (d := ((zs.filter fun x => !(x == 0)) ++ List.replicate (zs.length - (zs.filter fun x => !(x == 0)).length) 0).toArray) (os := #[]) hb hw
    rw [grow_empty] at hb2
    exact ⟨_, rfl, hp, hb2⟩
end Go.Proofs.Ytgjpenhfechhcaa
