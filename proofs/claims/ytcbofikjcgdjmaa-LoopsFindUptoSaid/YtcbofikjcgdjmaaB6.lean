/- The contract of cfg.Valid: the matrix that it makes and what it answers. -/
import Derived.Test.YtcbofikjcgdjmaaB5
namespace Go.Proofs.Ytcbofikjcgdjmaa
set_option linter.unusedVariables false
set_option linter.unusedSimpArgs false
open Go.RowKit

theorem own_cell {W : World} {base : Nat} {e : TypeId} {size n : Nat} {v : Value} {xs : List Value} (h : W.ownsRow base e size v n xs) {q : Nat} (hq : v.ownBlock = some q) : ∃ cur, W.heap[q]? = some (.cells cur e (0, 0)) := by
  rcases h.2 with ⟨rfl, _⟩ | ⟨g, cap, cur, rfl, _, hg, _⟩
  · simp [Value.ownBlock] at hq
  · simp [Value.ownBlock] at hq; subst hq; exact ⟨cur, hg⟩
theorem own_succ {W : World} {base : Nat} {e : TypeId} {size n : Nat} {v : Value} {xs : List Value} (h : W.ownsRow base e size v (n + 1) xs) : ∃ g cap, v = .slice (some ⟨g, 0, none⟩) (n + 1) cap := by
  rcases h.2 with ⟨_, h0⟩ | ⟨g, cap, cur, rfl, _⟩
  · omega
  · exact ⟨g, cap, rfl⟩
theorem rowIs_below {W W' : World} {b : Nat} {t : TypeId} {n : Nat} {f : Nat → Value} (h : W.rowIs b t n f) (hb : Below W.heap.size W W') : W'.rowIs b t n f := h.of_block (hb.block b h.lt)
theorem below_new' {n : Nat} {w w' : World} (hn : n ≤ w'.heap.size) (h : Below n w w') (o : Obj) : Below n w (w'.alloc o) := h.alloc hn o
def icells (xs : List Int) : List Value := xs.map (Value.int .i64)
/-- block P holds n slices of numbers, each nil or in a row of its own -/
def Mat (W : World) (base P n : Nat) (f : Nat → List Int) : Prop :=
  ∃ v : Nat → Value, W.rowIs P 28 n v ∧ base ≤ P ∧ (∀ t, t < n → W.ownsRow base 3 1 (v t) (f t).length (icells (f t))) ∧ (∀ s t, s < n → t < n → s ≠ t → (v s).ownBlock = none ∨ (v s).ownBlock ≠ (v t).ownBlock)
theorem Mat.below {W W' : World} {base P n : Nat} {f : Nat → List Int} (h : Mat W base P n f) (hb : Below W.heap.size W W') : Mat W' base P n f := by
  obtain ⟨v, h1, h2, h3, h4⟩ := h
  exact ⟨v, rowIs_below h1 hb, h2, fun t ht => own_below (h3 t ht) hb, h4⟩
theorem Mat.alloc {W : World} {base P n : Nat} {f : Nat → List Int} (h : Mat W base P n f) (o : Obj) : Mat (W.alloc o) base P n f := h.below (below_new (Below.refl _ _) o)
theorem Mat.congr {W : World} {base P n : Nat} {f g : Nat → List Int} (h : Mat W base P n f) (e : ∀ t, t < n → f t = g t) : Mat W base P n g := by
  obtain ⟨v, h1, h2, h3, h4⟩ := h
  exact ⟨v, h1, h2, fun t ht => by rw [← e t ht]; exact h3 t ht, h4⟩
theorem madeCells_nil (n : Nat) (W : World) (base : Nat) (hb : base ≤ W.heap.size) : Mat (W.alloc (.cells (madeCells #[.slice none 0 0] n) 28)) base W.heap.size n (fun _ => []) := by
  refine ⟨fun _ => .slice none 0 0, World.rowIs_made W _ n 28, hb, fun t ht => ?_, fun s t _ _ _ => .inl rfl⟩
  exact World.ownsRow_nil _ _ _ _
/-- the way back behind an append to one of the slices -/
theorem Mat.put {W W' W1 : World} {base P n : Nat} {f : Nat → List Int} {v : Nat → Value} (h1 : W.rowIs P 28 n v) (h2 : base ≤ P) (h3 : ∀ t, t < n → W.ownsRow base 3 1 (v t) (f t).length (icells (f t))) (h4 : ∀ s t, s < n → t < n → s ≠ t → (v s).ownBlock = none ∨ (v s).ownBlock ≠ (v t).ownBlock)
    {t : Nat} (ht : t < n) (hb : Below W.heap.size W W') (hg : W'.grownBy W1 (v t).ownBlock) {v' : Value} {xs : List Int} (hown : W1.ownsRow base 3 1 v' xs.length (icells xs)) (hloc : v'.ownBlock = (v t).ownBlock ∨ v'.ownBlock = some W'.heap.size) :
    W1.rowIs P 28 n v ∧ Mat (W1.setCell ⟨P, t, none⟩ v') base P n (fun s => if s = t then xs else f s) := by
  have r1 := rowIs_below h1 hb
  have hP : some P ≠ (v t).ownBlock := fun e => by
    obtain ⟨cur, hc⟩ := own_cell (h3 t ht) e.symm
    obtain ⟨cur', hc', _⟩ := h1
    rw [hc] at hc'; simp at hc'
  have r2 := r1.of_block (hg.block P r1.lt hP)
  have keep : ∀ {u : Value} {m : Nat} {ys : List Value}, W1.ownsRow base 3 1 u m ys → (W1.setCell ⟨P, t, none⟩ v').ownsRow base 3 1 u m ys := fun {u m ys} hu => by
    refine ⟨hu.1, ?_⟩
    rcases hu.2 with hn | ⟨g, cap, cur, hv, hbg, hgc, rest⟩
    · exact .inl hn
    · refine .inr ⟨g, cap, cur, hv, hbg, ?_, rest⟩
      refine (Below.heap_setCell W1 ⟨P, t, none⟩ v' g ?_).trans hgc
      intro e
      obtain ⟨cur', hc', _⟩ := r2
      have e' : g = P := e
      rw [e', hc'] at hgc
      simp at hgc
  refine ⟨r2, fun s => if s = t then v' else v s, r2.set t v', h2, fun s hs => ?_, fun s u hs hu hne => ?_⟩
  · by_cases e : s = t
    · subst e; simp only [if_pos]; exact keep hown
    · simp only [if_neg e]
      have hs1 := own_below (h3 s hs) hb
      exact keep (hs1.kept hg (h4 s t hs ht e))
  · have hlt : ∀ q, q < n → ∀ k, (v q).ownBlock = some k → k < W'.heap.size := fun q hq k hk => by
      have := ((own_below (h3 q hq) hb).lt k hk).2
      exact this
    by_cases e : s = t
    · subst e
      have hu' : ¬ u = s := fun e => hne e.symm
      simp only [if_pos, if_neg hu']
      by_cases hv' : v'.ownBlock = none
      · exact .inl hv'
      · refine .inr fun e2 => ?_
        rcases hloc with hl | hl
        · rcases h4 u s hu hs (fun e => hne e.symm) with h | h
          · rw [h] at e2; exact hv' e2
          · exact h (e2.symm.trans hl)
        · rw [hl] at e2
          exact absurd (hlt u hu _ e2.symm) (by omega)
    · simp only [if_neg e]
      by_cases e' : u = t
      · subst e'
        simp only [if_pos]
        rcases hloc with hl | hl
        · rw [hl]; exact h4 s u hs hu hne
        · by_cases hn : (v s).ownBlock = none
          · exact .inl hn
          · refine .inr fun e2 => ?_
            rw [hl] at e2
            exact absurd (hlt s hs _ e2) (by omega)
      · simp only [if_neg e']
        exact h4 s u hs hu hne
theorem nthR_map {n : Nat} (f : Nat → List Int) {j : Nat} (h : j < n) : nthR ((List.range n).map f) j = f j := by
  rw [nthR, List.getD_eq_getElem?_getD, List.getElem?_map, List.getElem?_range h]; rfl
theorem icells_length (xs : List Int) : (icells xs).length = xs.length := by simp [icells]
theorem icells_snoc (xs : List Int) (x : Int) : icells (xs ++ [x]) = icells xs ++ [.int .i64 x] := by simp [icells]
theorem IV.of_own {w : World} {base : Nat} {v : Value} {xs : List Int} (h : w.ownsRow base 3 1 v xs.length (icells xs)) : ∃ A c, v = .slice A xs.length c ∧ IV w A xs := by
  have hl := h
  rcases h.2 with ⟨rfl, h0⟩ | ⟨g, cap, cur, rfl, hbg, hg, hnc, hcm, hcs, ht⟩
  · have : xs = [] := List.eq_nil_of_length_eq_zero h0
    subst this
    exact ⟨none, 0, rfl, IV.nil _ _⟩
  · refine ⟨_, _, rfl, fun _ => ⟨g, 0, rfl, (Array.getElem?_eq_some_iff.1 hg).1, fun j hj => ?_⟩⟩
    have h1 := hl.cellAt j (by omega)
    rw [Nat.zero_add, h1, icells, List.getElem?_map, List.getD_eq_getElem?_getD, List.getElem?_eq_getElem hj]; rfl
/-- .. read -/
theorem Mat.rv {W : World} {base P n : Nat} {f : Nat → List Int} (h : Mat W base P n f) : RV W (some ⟨P, 0, none⟩) ((List.range n).map f) := fun _ => by
  obtain ⟨v, h1, h2, h3, h4⟩ := h
  refine ⟨P, 0, rfl, h1.lt, fun j hj => ?_⟩
  have hj' : j < n := by simpa using hj
  obtain ⟨A, c, hv, hI⟩ := IV.of_own (h3 j hj')
  rw [nthR_map f hj']
  refine ⟨A, c, ?_, hI⟩
  rw [Nat.zero_add, h1.cell hj', hv]

/-- the sources of the edges to t, in the list's order -/
def pvOf (es : List (Int × Int)) (t : Int) : List Int := (es.filter fun e => e.2 == t).map (·.1)
theorem pvOf_snoc (es : List (Int × Int)) (k x t : Int) : pvOf (es ++ [(k, x)]) t = if x = t then pvOf es t ++ [k] else pvOf es t := by
  unfold pvOf
  rw [List.filter_append, List.map_append]
  by_cases h : x = t
  · rw [if_pos h, List.filter_cons, if_pos (by simpa using h)]; rfl
  · rw [if_neg h, List.filter_cons, if_neg (by simpa using h)]; simp
theorem pvOf_length (es : List (Int × Int)) (t : Int) : (pvOf es t).length ≤ es.length := by
  unfold pvOf; rw [List.length_map]; exact List.length_filter_le _ _
/-- where the first k blocks end -/
def endK (bs : List Bk) : Nat → Int
  | 0 => 0
  | k + 1 => (nthB bs k).to
def blkB (e : Int) (b : Bk) : Bool := !(decide (b.fr < e) || decide (b.to ≤ b.fr) || decide (2 < b.nx.length) || (decide (b.nx.length = 2) && decide (b.nx.getD 0 0 = b.nx.getD 1 0)))
def inB (n : Nat) (t : Int) : Bool := decide (0 ≤ t) && decide (t < n)
def okB (bs : List Bk) (n : Nat) : Nat → Bool
  | 0 => true
  | k + 1 => okB bs n k && blkB (endK bs k) (nthB bs k) && (nthB bs k).nx.all (inB n)
def prevL (bs : List Bk) : List (List Int) := (List.range bs.length).map fun t : Nat => pvOf (edgK bs bs.length) (t : Int)
def validB (bs : List Bk) (pv : List (List Int)) : Bool := decide (bs.length ≠ 0) && decide (pv.length = bs.length) && okB bs bs.length bs.length && (prevL bs == pv)
theorem okB_mono {bs : List Bk} {n a b : Nat} (h : a ≤ b) (hf : okB bs n a = false) : okB bs n b = false := by
  induction h with
  | refl => exact hf
  | step _ ih => rw [okB, ih]; rfl
theorem validB_no {bs : List Bk} {pv : List (List Int)} {k : Nat} (h : k ≤ bs.length) (hf : okB bs bs.length k = false) : validB bs pv = false := by
  rw [validB, okB_mono h hf]; simp
theorem okB_blk {bs : List Bk} {n k : Nat} (h : blkB (endK bs k) (nthB bs k) = false) : okB bs n (k + 1) = false := by rw [okB, h]; simp
theorem okB_nx {bs : List Bk} {n k j : Nat} (hj : j < (nthB bs k).nx.length) (h : inB n ((nthB bs k).nx.getD j 0) = false) : okB bs n (k + 1) = false := by
  have : (nthB bs k).nx.all (inB n) = false := by
    rw [Bool.eq_false_iff]
    intro ha
    rw [List.all_eq_true] at ha
    rw [ha _ (getD_mem hj)] at h
    cases h
  rw [okB, this, Bool.and_false]
theorem okB_yes {bs : List Bk} {n k : Nat} (h0 : okB bs n k = true) (h1 : blkB (endK bs k) (nthB bs k) = true) (h2 : ∀ j, j < (nthB bs k).nx.length → inB n ((nthB bs k).nx.getD j 0) = true) : okB bs n (k + 1) = true := by
  rw [okB, h0, h1]
  rw [Bool.true_and, Bool.true_and, List.all_eq_true]
  intro x hx
  obtain ⟨j, hj, rfl⟩ := List.mem_iff_getElem.1 hx
  have := h2 j hj
  rwa [List.getD_eq_getElem?_getD, List.getElem?_eq_getElem hj] at this
theorem info28 : (Try.prog.info? 28).map (fun i => (i.zero, i.size, i.bytes)) = some (some (.slice none 0 0), 1, 24) := by kernel_rfl
theorem info3r : (Try.prog.info? 3).map (fun i => (i.zero, i.size, i.bytes)) = some (some (.int .i64 0), 1, 8) := by kernel_rfl

set_option maxRecDepth 100000 in
set_option maxHeartbeats 4000000 in
theorem valid34_zero (A B : Option Addr) (m c d : Nat) (w : World) :
    Calls Try.prog 34 #[.agg #[.slice A 0 c, .slice B m d]] w fun e w' => e = .returned (.bool false) ∧ Below w.heap.size w w' := by
  go_enter Try.func34, Try.ntmps34
  go_wp2_with fail
  go_ret
  exact ⟨rfl, below_new (Below.refl _ _) _⟩
set_option maxRecDepth 100000 in
set_option maxHeartbeats 4000000 in
theorem valid34_len (A B : Option Addr) (n m c d : Nat) (hn : n ≠ 0) (hm : m ≠ n) (w : World) :
    Calls Try.prog 34 #[.agg #[.slice A n c, .slice B m d]] w fun e w' => e = .returned (.bool false) ∧ Below w.heap.size w w' := by
  have q1 : ((n : Int) == 0) = false := by simpa using hn
  have q2 : ((m : Int) != (n : Int)) = true := by simp; omega
  go_enter Try.func34, Try.ntmps34
  go_wp2_with fail
  go_ret
  exact ⟨rfl, below_new (Below.refl _ _) _⟩


set_option maxRecDepth 100000 in
set_option maxHeartbeats 8000000 in
theorem valid34_main (A B : Option Addr) (bs : List Bk) (pv : List (List Int)) (c d : Nat) (w : World) (h : BV w A bs) (h' : RV w B pv) (hn : bs.length ≠ 0) (hl : bs.length ≤ 1048576) (hlen : pv.length = bs.length) (hz : ∀ j, j < bs.length → (nthB bs j).nx.length ≤ 1048576) (hm : (edgK bs bs.length).length ≤ 1099511627776) (hz' : ∀ j, j < pv.length → (nthR pv j).length ≤ 1099511627776) :
    Calls Try.prog 34 #[.agg #[.slice A bs.length c, .slice B bs.length d]] w fun e w' => e = .returned (.bool (validB bs pv)) ∧ Below w.heap.size w w' := by
  have HS0 := Lib.hid (h.alloc (.cells #[.slice A bs.length c, .slice B bs.length d] 25))
  have HT0 := Lib.hid (h'.alloc (.cells #[.slice A bs.length c, .slice B bs.length d] 25))
  have HS := Lib.hid h
  have HT := Lib.hid h'
  have HZ := Lib.hid hz
  have HZ' := Lib.hid hz'
  have HM := Lib.hid hm
  have HL := Lib.hid hlen
  have q1 : ((bs.length : Int) == 0) = false := by simpa using hn
  have q2 : ((bs.length : Int) != (bs.length : Int)) = false := by simp
  clear h h' hz hm hz' hlen
  obtain ⟨i0, hi, hz0, hz1, hz2⟩ := info_parts info28
  obtain ⟨i1, hj', hy0, hy1, hy2⟩ := info_parts info3r
  go_enter Try.func34, Try.ntmps34
  go_wp2_with (first
    | (at_make; refine wpList_make_row _ rfl _ _ 23 rfl 28 i0 (.slice none 0 0) Try.underlying23 hi hz0 hz1 rfl .i64 .i64 bs.length rfl rfl (by rw [hz2]; omega) (by omega) ?_))
  obtain ⟨W0, hW0⟩ : ∃ W0, (w.alloc (.cells #[.slice A bs.length c, .slice B bs.length d] 25)).alloc (.cells (madeCells #[.slice none 0 0] bs.length) 28) = W0 := ⟨_, rfl⟩
  have hs0 : W0.heap.size = w.heap.size + 2 := by rw [← hW0]; simp
  have HB0 := Lib.hid (show Below w.heap.size w W0 by rw [← hW0]; exact below_new (below_new (Below.refl _ _) _) _)
  have HM0 := Lib.hid (show Mat W0 (w.heap.size + 1) (w.heap.size + 1) bs.length (fun _ => []) by
    rw [← hW0]
    have := madeCells_nil bs.length (w.alloc (.cells #[.slice A bs.length c, .slice B bs.length d] 25)) (w.heap.size + 1) (by simp)
    simpa using this)
  have y0 : W0.cell? ⟨w.heap.size, 0, none⟩ = some (.slice A bs.length c) := by rw [← hW0]; simp
  have y1 : W0.cell? ⟨w.heap.size, 1, none⟩ = some (.slice B bs.length d) := by rw [← hW0]; simp
  rw [hW0]
  clear hW0 HS0 HT0
  have Y0 := Lib.hid y0
  have Y1 := Lib.hid y1
  go_wp2_with fail
  clear y0 y1
  go_loopw [5, 27] (fun e i wr => ∃ k : Nat, k ≤ bs.length ∧ i = .int .i64 k ∧ e = .int .i64 (endK bs k) ∧ okB bs bs.length k = true ∧ Mat wr (w.heap.size + 1) (w.heap.size + 1) bs.length (fun t => pvOf (edgK bs k) t) ∧ Below (w.heap.size + 1) W0 wr) (fun _ i _ => bs.length - (intOf i).toNat)
  case atStart => exact ⟨0, by omega, rfl, rfl, rfl, HM0.out, Below.refl _ _⟩
  case round =>
    obtain ⟨k, hk, rfl, rfl, hok, hM, hB⟩ := hrel
    have HOK := Lib.hid hok
    have HMk := Lib.hid hM
    have HB := Lib.hid hB
    have HBw := Lib.hid (HB0.out.trans (hB.mono (by omega)))
    have y0 := (hB.cell (p := ⟨w.heap.size, 0, none⟩) (by simp)).trans Y0.out
    have y1 := (hB.cell (p := ⟨w.heap.size, 1, none⟩) (by simp)).trans Y1.out
    clear hok hM hB
    by_cases hlt : k < bs.length
    · obtain ⟨b, off, rfl, hbl, hc⟩ := HS.out (by omega)
      obtain ⟨A1, c1, g0, g1, g2, hA1⟩ := hc k hlt
      replace g0 := (HBw.out.cell (p := ⟨b, off + k * 3, none⟩) hbl).trans g0
      replace g1 := (HBw.out.cell (p := ⟨b, off + k * 3 + 1, none⟩) hbl).trans g1
      replace g2 := (HBw.out.cell (p := ⟨b, off + k * 3 + 2, none⟩) hbl).trans g2
      have hz := HZ.out k hlt
      have hmm := Nat.le_trans (edgK_mono bs (show k + 1 ≤ bs.length by omega)) HM.out
      have hno := fun hf => validB_no (bs := bs) (pv := pv) (show k + 1 ≤ bs.length by omega) hf
      have hblk := okB_blk (bs := bs) (n := bs.length) (k := k)
      have hnx := fun j => okB_nx (bs := bs) (n := bs.length) (k := k) (j := j)
      have hyes := okB_yes (bs := bs) (n := bs.length) (k := k) HOK.out
      have hend : endK bs (k + 1) = (nthB bs k).to := rfl
      have hedg : edgK bs (k + 1) = edgK bs k ++ (nthB bs k).nx.map fun t => ((k : Int), t) := rfl
      clear hc
      obtain ⟨y, hy⟩ : ∃ y, nthB bs k = y := ⟨_, rfl⟩
      rw [hy] at g0 g1 g2 hA1 hz hblk hnx hyes hend hedg
      clear hy
      obtain ⟨fr, to, nx⟩ := y
      dsimp only at g0 g1 g2 hA1 hz hblk hnx hyes hend hedg
      rw [hedg, List.length_append, List.length_map] at hmm
      obtain ⟨e, he⟩ : ∃ e, endK bs k = e := ⟨_, rfl⟩
      rw [he] at hblk hyes
      simp only [he]
      clear he
      have HA := Lib.hid hA1
      have HNO := Lib.hid hno
      have HBLK := Lib.hid hblk
      have HNX := Lib.hid hnx
      have HYES := Lib.hid hyes
      have HEND := Lib.hid hend
      have HEDG := Lib.hid hedg
      clear hA1 hno hblk hnx hyes hend hedg
      by_cases f1 : fr < e
      · have d1 : decide (fr < e) = true := decide_eq_true f1
        have HR := Lib.hid (HNO.out (HBLK.out (by simp only [blkB, d1]; rfl)))
        clear f1
        go_wp2_with fail
        go_quiet (fail)
        go_wp2_with fail
        go_ret
        exact ⟨ret_b HR.out.symm, below_drewN (below_new HBw.out _) _⟩
      by_cases f2 : to ≤ fr
      · have d1 : decide (fr < e) = false := decide_eq_false f1
        have d2 : decide (to ≤ fr) = true := decide_eq_true f2
        have HR := Lib.hid (HNO.out (HBLK.out (by simp only [blkB, d1, d2]; rfl)))
        clear f1 f2
        go_wp2_with fail
        go_quiet (fail)
        go_wp2_with fail
        go_ret
        exact ⟨ret_b HR.out.symm, below_drewN (below_new HBw.out _) _⟩
      by_cases f3 : 2 < nx.length
      · have d1 : decide (fr < e) = false := decide_eq_false f1
        have d2 : decide (to ≤ fr) = false := decide_eq_false f2
        have d3 : decide ((2 : Int) < (nx.length : Int)) = true := decide_eq_true (by omega)
        have d3' : decide (2 < nx.length) = true := by simpa using f3
        have HR := Lib.hid (HNO.out (HBLK.out (by simp only [blkB, d1, d2, d3']; rfl)))
        clear f1 f2 f3 d3'
        go_wp2_with fail
        go_quiet (fail)
        go_wp2_with fail
        go_ret
        exact ⟨ret_b HR.out.symm, below_drewN (below_new HBw.out _) _⟩
      by_cases f4 : nx.length = 2
      · obtain ⟨b1, off1, rfl, hbl1, hc⟩ := HA.out (by omega)
        have hbl1' := Nat.lt_of_lt_of_le hbl1 HBw.out.size
        have g3 : wr.cell? ⟨b1, off1, none⟩ = some (.int .i64 (nx.getD 0 0)) := (HBw.out.cell (p := ⟨b1, off1, none⟩) hbl1).trans (hc 0 (by omega))
        have g4 := (HBw.out.cell (p := ⟨b1, off1 + 1, none⟩) hbl1).trans (hc 1 (by omega))
        clear hc
        obtain ⟨z0, hz0'⟩ : ∃ z0, nx.getD 0 0 = z0 := ⟨_, rfl⟩
        obtain ⟨z1, hz1'⟩ : ∃ z1, nx.getD 1 0 = z1 := ⟨_, rfl⟩
        rw [hz0'] at g3
        rw [hz1'] at g4
        have HZ0 := Lib.hid hz0'
        have HZ1 := Lib.hid hz1'
        clear hz0' hz1'
        have d1 : decide (fr < e) = false := decide_eq_false f1
        have d2 : decide (to ≤ fr) = false := decide_eq_false f2
        have d3 : decide ((2 : Int) < (nx.length : Int)) = false := decide_eq_false (by omega)
        have d3' : decide (2 < nx.length) = false := by simpa using f3
        have d4 : ((nx.length : Int) == 2) = true := by simp [f4]
        have d4' : decide (nx.length = 2) = true := by simp [f4]
        have i0' : (0 : Int) < (nx.length : Int) := by omega
        have i1' : (1 : Int) < (nx.length : Int) := by omega
        by_cases f5 : z0 = z1
        · have d5 : (z0 == z1) = true := by simpa using f5
          have HR := Lib.hid (HNO.out (HBLK.out (by simp only [blkB, d1, d2, d3', d4', HZ0.out, HZ1.out, decide_eq_true f5]; rfl)))
          clear f1 f2 f3 f5 d3' d4'
          go_wp2_with fail
          go_quiet (fail)
          go_wp2_with fail
          go_ret
          exact ⟨ret_b HR.out.symm, below_drewN (below_new HBw.out _) _⟩
        · have d5 : (z0 == z1) = false := by simpa using f5
          have HR := Lib.hid (HYES.out (by simp only [blkB, d1, d2, d3', d4', HZ0.out, HZ1.out, decide_eq_false f5]; rfl))
          clear f1 f2 f3 f5 d3' d4' f4
          go_wp2_with fail
          go_quiet (fail)
          have HM1 := Lib.hid ((HMk.out.alloc (.cells #[.int .i64 fr, .int .i64 to, .slice (some ⟨b1, off1, none⟩) nx.length c1] 63)).below (below_drewN (Below.refl _ _) nq))
          have HB1 := Lib.hid (below_drewN (below_new' (by have := HB0.out.size; have := HB.out.size; omega) HB.out (.cells #[.int .i64 fr, .int .i64 to, .slice (some ⟨b1, off1, none⟩) nx.length c1] 63)) nq)
          go_wp2_with fail
          go_loopw [71] (fun i W => ∃ j : Nat, j ≤ nx.length ∧ i = .int .i64 j ∧ (∀ q, q < j → inB bs.length (nx.getD q 0) = true) ∧ Mat W (w.heap.size + 1) (w.heap.size + 1) bs.length (fun t => pvOf (edgJ bs nx k j) t) ∧ Below (w.heap.size + 1) W0 W) (fun i _ => nx.length - (intOf i).toNat)
          case atStart => exact ⟨0, by omega, rfl, fun q h => absurd h (by omega), by simp only [edgJ_zero]; exact HM1.out, HB1.out⟩
          case round =>
            obtain ⟨j, hj, rfl, hall, hM, hB⟩ := hrel
            have HAL := Lib.hid hall
            have HM2 := Lib.hid hM
            have HB2 := Lib.hid hB
            have HBw2 := Lib.hid (HB0.out.trans (hB.mono (by omega)))
            clear hall hM hB
            by_cases hjt : j < nx.length
            · obtain ⟨b2, off2, hA2, hbl2, hc⟩ := HA.out (by omega)
              have g := (HBw2.out.cell (p := ⟨b2, off2 + j, none⟩) hbl2).trans (hc j hjt)
              clear hc
              cases hA2
              have hnx := HNX.out j hjt
              obtain ⟨x, hx⟩ : ∃ x, nx.getD j 0 = x := ⟨_, rfl⟩
              rw [hx] at g hnx
              have HX := Lib.hid hx
              have HNX2 := Lib.hid hnx
              clear hx hnx
              by_cases e1 : x < 0
              · have p1 : decide (x < 0) = true := decide_eq_true e1
                have HR2 := Lib.hid (HNO.out (HNX2.out (by unfold inB; rw [decide_eq_false (by omega)]; rfl)))
                clear e1
                go_wp2_with fail
                go_ret
                exact ⟨ret_b HR2.out.symm, HBw2.out⟩
              by_cases e2 : (bs.length : Int) ≤ x
              · have p1 : decide (x < 0) = false := decide_eq_false e1
                have p2 : decide ((bs.length : Int) ≤ x) = true := decide_eq_true e2
                have HR2 := Lib.hid (HNO.out (HNX2.out (by unfold inB; rw [decide_eq_false (show ¬ x < (bs.length : Int) by omega)]; simp)))
                clear e1 e2
                go_wp2_with fail
                go_ret
                exact ⟨ret_b HR2.out.symm, HBw2.out⟩
              obtain ⟨t, rfl⟩ : ∃ t : Nat, x = (t : Int) := ⟨x.toNat, by omega⟩
              have ht : t < bs.length := by omega
              have p1 : decide ((t : Int) < 0) = false := decide_eq_false e1
              have p2 : decide ((bs.length : Int) ≤ (t : Int)) = false := decide_eq_false e2
              have hsu := edgJ_succ (bs := bs) (k := k) hjt
              rw [HX.out] at hsu
              have HSU := Lib.hid hsu
              clear hsu e1 e2
              have hlen := Nat.le_trans (pvOf_length (edgJ bs nx k j) t) (Nat.le_of_eq (edgJ_length (bs := bs) (k := k) hj))
              obtain ⟨v, h1, h2, h3, h4⟩ := HM2.out
              have hown := h3 t ht
              have cu := h1.cell ht
              have H1 := Lib.hid h1
              have H3 := Lib.hid h3
              have H4 := Lib.hid h4
              have hsz2 := HB2.out.size
              obtain ⟨u, hu⟩ : ∃ u, v t = u := ⟨_, rfl⟩
              obtain ⟨ps, hps⟩ : ∃ ps, pvOf (edgJ bs nx k j) t = ps := ⟨_, rfl⟩
              rw [hu] at hown cu
              dsimp only at hown
              rw [hps] at hown hlen
              have HU := Lib.hid hu
              have HPS := Lib.hid hps
              clear h1 h3 h4 hu hps
              go_wp2_with (first
                | (at_builtin; refine wpList_append_own_at _ rfl _ _ 28 rfl (w.heap.size + 1) 3 i1 (.int .i64 0) 1 8 Try.underlying28 hj' hy0 hy1 hy2 rfl (by decide) _ _ _ rfl (hown.alloc _) ⟨wr.heap.size, 0, none⟩ 1 1 [.int .i64 k] rfl rfl (cell_one_new _ _ _) (by simp [Value.oneCell']) (by unfold maxLen; omega) (by omega) (by simp; omega) ?_; intro v' w1 hown' hgrow hnil' hloc
                   obtain ⟨g', cap', rfl⟩ := own_succ hown'
                   have hput := Mat.put H1.out h2 H3.out H4.out ht (below_new (Below.refl _ _) (.cells #[.int .i64 k] 3)) (by rw [HU.out]; exact hgrow) (v' := _) (xs := ps ++ [(k : Int)]) (by rw [icells_snoc, List.length_append]; exact hown') (by rw [HU.out]; exact hloc)
                   have c2 := hput.1.cell ht
                   have f2 := hput.1.frozen t
                   have HPUT := Lib.hid hput.2
                   have HB3 := Lib.hid ((below_new' (by have := HB0.out.size; omega) HB2.out (.cells #[.int .i64 k] 3)).grown hgrow (by simp; omega) (fun q e => (hown.lt q e).1))
                   clear hput hown' hgrow hnil' hloc))
              go_roundw
              case rel =>
                refine ⟨j + 1, by omega, by go_num, fun q hq => ?_, HPUT.out.congr fun s hs => ?_, HB3.out.setCell (p := ⟨w.heap.size + 1, t, none⟩) (Nat.le_refl _) _⟩
                · by_cases e : q = j
                  · subst e; rw [HX.out]; unfold inB; rw [decide_eq_true (by omega), decide_eq_true (by omega)]; rfl
                  · exact HAL.out q (by omega)
                · show (if s = t then ps ++ [(k : Int)] else pvOf (edgJ bs nx k j) s) = pvOf (edgJ bs nx k (j + 1)) s
                  rw [HSU.out, pvOf_snoc]
                  by_cases e : s = t
                  · subst e; rw [if_pos rfl, if_pos rfl, HPS.out]
                  · rw [if_neg e, if_neg (by omega)]
              case measure => simp [intOf]; omega
            · obtain rfl : j = nx.length := by omega
              have HYS := Lib.hid (HR.out HAL.out)
              go_wp2_with fail
              go_roundw
              case rel => exact ⟨k + 1, by omega, by go_num, by rw [HEND.out], HYS.out, by have := HM2.out; rw [edgJ_all] at this; rw [HEDG.out]; exact this, HB2.out⟩
              case measure => simp [intOf]; omega
      · have d1 : decide (fr < e) = false := decide_eq_false f1
        have d2 : decide (to ≤ fr) = false := decide_eq_false f2
        have d3 : decide ((2 : Int) < (nx.length : Int)) = false := decide_eq_false (by omega)
        have d3' : decide (2 < nx.length) = false := by simpa using f3
        have d4 : ((nx.length : Int) == 2) = false := by simp; omega
        have d4' : decide (nx.length = 2) = false := by simp [f4]
        have HR := Lib.hid (HYES.out (by simp only [blkB, d1, d2, d3', d4']; rfl))
        clear f1 f2 f3 f4 d3' d4'
        go_wp2_with fail
        go_quiet (fail)
        have HM1 := Lib.hid ((HMk.out.alloc (.cells #[.int .i64 fr, .int .i64 to, .slice A1 nx.length c1] 63)).below (below_drewN (Below.refl _ _) nq))
        have HB1 := Lib.hid (below_drewN (below_new' (by have := HB0.out.size; have := HB.out.size; omega) HB.out (.cells #[.int .i64 fr, .int .i64 to, .slice A1 nx.length c1] 63)) nq)
        go_wp2_with fail
        go_loopw [71] (fun i W => ∃ j : Nat, j ≤ nx.length ∧ i = .int .i64 j ∧ (∀ q, q < j → inB bs.length (nx.getD q 0) = true) ∧ Mat W (w.heap.size + 1) (w.heap.size + 1) bs.length (fun t => pvOf (edgJ bs nx k j) t) ∧ Below (w.heap.size + 1) W0 W) (fun i _ => nx.length - (intOf i).toNat)
        case atStart => exact ⟨0, by omega, rfl, fun q h => absurd h (by omega), by simp only [edgJ_zero]; exact HM1.out, HB1.out⟩
        case round =>
          obtain ⟨j, hj, rfl, hall, hM, hB⟩ := hrel
          have HAL := Lib.hid hall
          have HM2 := Lib.hid hM
          have HB2 := Lib.hid hB
          have HBw2 := Lib.hid (HB0.out.trans (hB.mono (by omega)))
          clear hall hM hB
          by_cases hjt : j < nx.length
          · obtain ⟨b2, off2, hA2, hbl2, hc⟩ := HA.out (by omega)
            have g := (HBw2.out.cell (p := ⟨b2, off2 + j, none⟩) hbl2).trans (hc j hjt)
            clear hc
            cases hA2
            have hnx := HNX.out j hjt
            obtain ⟨x, hx⟩ : ∃ x, nx.getD j 0 = x := ⟨_, rfl⟩
            rw [hx] at g hnx
            have HX := Lib.hid hx
            have HNX2 := Lib.hid hnx
            clear hx hnx
            by_cases e1 : x < 0
            · have p1 : decide (x < 0) = true := decide_eq_true e1
              have HR2 := Lib.hid (HNO.out (HNX2.out (by unfold inB; rw [decide_eq_false (by omega)]; rfl)))
              clear e1
              go_wp2_with fail
              go_ret
              exact ⟨ret_b HR2.out.symm, HBw2.out⟩
            by_cases e2 : (bs.length : Int) ≤ x
            · have p1 : decide (x < 0) = false := decide_eq_false e1
              have p2 : decide ((bs.length : Int) ≤ x) = true := decide_eq_true e2
              have HR2 := Lib.hid (HNO.out (HNX2.out (by unfold inB; rw [decide_eq_false (show ¬ x < (bs.length : Int) by omega)]; simp)))
              clear e1 e2
              go_wp2_with fail
              go_ret
              exact ⟨ret_b HR2.out.symm, HBw2.out⟩
            obtain ⟨t, rfl⟩ : ∃ t : Nat, x = (t : Int) := ⟨x.toNat, by omega⟩
            have ht : t < bs.length := by omega
            have p1 : decide ((t : Int) < 0) = false := decide_eq_false e1
            have p2 : decide ((bs.length : Int) ≤ (t : Int)) = false := decide_eq_false e2
            have hsu := edgJ_succ (bs := bs) (k := k) hjt
            rw [HX.out] at hsu
            have HSU := Lib.hid hsu
            clear hsu e1 e2
            have hlen := Nat.le_trans (pvOf_length (edgJ bs nx k j) t) (Nat.le_of_eq (edgJ_length (bs := bs) (k := k) hj))
            obtain ⟨v, h1, h2, h3, h4⟩ := HM2.out
            have hown := h3 t ht
            have cu := h1.cell ht
            have H1 := Lib.hid h1
            have H3 := Lib.hid h3
            have H4 := Lib.hid h4
            have hsz2 := HB2.out.size
            obtain ⟨u, hu⟩ : ∃ u, v t = u := ⟨_, rfl⟩
            obtain ⟨ps, hps⟩ : ∃ ps, pvOf (edgJ bs nx k j) t = ps := ⟨_, rfl⟩
            rw [hu] at hown cu
            dsimp only at hown
            rw [hps] at hown hlen
            have HU := Lib.hid hu
            have HPS := Lib.hid hps
            clear h1 h3 h4 hu hps
            go_wp2_with (first
              | (at_builtin; refine wpList_append_own_at _ rfl _ _ 28 rfl (w.heap.size + 1) 3 i1 (.int .i64 0) 1 8 Try.underlying28 hj' hy0 hy1 hy2 rfl (by decide) _ _ _ rfl (hown.alloc _) ⟨wr.heap.size, 0, none⟩ 1 1 [.int .i64 k] rfl rfl (cell_one_new _ _ _) (by simp [Value.oneCell']) (by unfold maxLen; omega) (by omega) (by simp; omega) ?_; intro v' w1 hown' hgrow hnil' hloc
                 obtain ⟨g', cap', rfl⟩ := own_succ hown'
                 have hput := Mat.put H1.out h2 H3.out H4.out ht (below_new (Below.refl _ _) (.cells #[.int .i64 k] 3)) (by rw [HU.out]; exact hgrow) (v' := _) (xs := ps ++ [(k : Int)]) (by rw [icells_snoc, List.length_append]; exact hown') (by rw [HU.out]; exact hloc)
                 have c2 := hput.1.cell ht
                 have f2 := hput.1.frozen t
                 have HPUT := Lib.hid hput.2
                 have HB3 := Lib.hid ((below_new' (by have := HB0.out.size; omega) HB2.out (.cells #[.int .i64 k] 3)).grown hgrow (by simp; omega) (fun q e => (hown.lt q e).1))
                 clear hput hown' hgrow hnil' hloc))
            go_roundw
            case rel =>
              refine ⟨j + 1, by omega, by go_num, fun q hq => ?_, HPUT.out.congr fun s hs => ?_, HB3.out.setCell (p := ⟨w.heap.size + 1, t, none⟩) (Nat.le_refl _) _⟩
              · by_cases e : q = j
                · subst e; rw [HX.out]; unfold inB; rw [decide_eq_true (by omega), decide_eq_true (by omega)]; rfl
                · exact HAL.out q (by omega)
              · show (if s = t then ps ++ [(k : Int)] else pvOf (edgJ bs nx k j) s) = pvOf (edgJ bs nx k (j + 1)) s
                rw [HSU.out, pvOf_snoc]
                by_cases e : s = t
                · subst e; rw [if_pos rfl, if_pos rfl, HPS.out]
                · rw [if_neg e, if_neg (by omega)]
            case measure => simp [intOf]; omega
          · obtain rfl : j = nx.length := by omega
            have HYS := Lib.hid (HR.out HAL.out)
            go_wp2_with fail
            go_roundw
            case rel => exact ⟨k + 1, by omega, by go_num, by rw [HEND.out], HYS.out, by have := HM2.out; rw [edgJ_all] at this; rw [HEDG.out]; exact this, HB2.out⟩
            case measure => simp [intOf]; omega
    · obtain rfl : k = bs.length := by omega
      have hpv : RV wr (some ⟨w.heap.size + 1, 0, none⟩) (prevL bs) := HMk.out.rv
      have hll : (prevL bs).length = bs.length := by simp [prevL]
      have hzz : ∀ j, j < (prevL bs).length → (nthR (prevL bs) j).length ≤ 1099511627776 := fun j hj => by
        rw [hll] at hj
        rw [prevL, nthR_map (fun t : Nat => pvOf (edgK bs bs.length) (t : Int)) hj]
        exact Nat.le_trans (pvOf_length _ _) HM.out
      have hE := equalFunc50 (some ⟨w.heap.size + 1, 0, none⟩) B (prevL bs) pv bs.length d wr hpv (HT.out.step HBw.out) (by omega) (by rw [HL.out]; omega) hzz HZ'.out
      rw [hll, HL.out] at hE
      have hv : validB bs pv = (prevL bs == pv) := by
        rw [validB, HOK.out, decide_eq_true hn, decide_eq_true HL.out]; rfl
      have HV := Lib.hid hv
      have HE := Lib.hid hE
      clear hpv hzz hE hv
      go_wp2_with (go_at_call 50; refine HE.out.mono ?_; rintro e w1 ⟨rfl, hb⟩; have HB3 := Lib.hid (HBw.out.trans (hb.mono HBw.out.size)); clear hb)
      go_ret
      exact ⟨ret_b HV.out.symm, HB3.out⟩

/-- what cfg.Valid answers -/
theorem valid34 (A B : Option Addr) (bs : List Bk) (pv : List (List Int)) (c d : Nat) (w : World) (h : BV w A bs) (h' : RV w B pv) (hl : bs.length ≤ 1048576) (hz : ∀ j, j < bs.length → (nthB bs j).nx.length ≤ 1048576) (hm : (edgK bs bs.length).length ≤ 1099511627776) (hz' : ∀ j, j < pv.length → (nthR pv j).length ≤ 1099511627776) :
    Calls Try.prog 34 #[.agg #[.slice A bs.length c, .slice B pv.length d]] w fun e w' => e = .returned (.bool (validB bs pv)) ∧ Below w.heap.size w w' := by
  by_cases hn : bs.length = 0
  · have hv : validB bs pv = false := by rw [validB, decide_eq_false (by simpa using hn)]; simp
    rw [hn, hv]
    exact valid34_zero A B pv.length c d w
  · by_cases hlen : pv.length = bs.length
    · rw [hlen]
      exact valid34_main A B bs pv c d w h h' hn hl hlen hz hm hz'
    · have hv : validB bs pv = false := by rw [validB, decide_eq_false hlen]; simp
      rw [hv]
      exact valid34_len A B bs.length pv.length c d hn hlen w

end Go.Proofs.Ytcbofikjcgdjmaa
