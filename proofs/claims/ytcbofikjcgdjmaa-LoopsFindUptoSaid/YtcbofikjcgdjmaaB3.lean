/- How graphs and lists of edges lie in memory; the contract of Edges. -/
import Derived.Test.YtcbofikjcgdjmaaB2
import Derived.Maps.AppendAt
import Derived.Laws.OwnMore
namespace Go.Proofs.Ytcbofikjcgdjmaa
set_option linter.unusedVariables false
set_option linter.unusedSimpArgs false
open Go.RowKit

/-- a block of a graph -/
structure Bk where
  fr : Int
  to : Int
  nx : List Int
instance : Inhabited Bk := ⟨⟨0, 0, []⟩⟩
def nthB (l : List Bk) (i : Nat) : Bk := l.getD i default
def nthR (l : List (List Int)) (i : Nat) : List Int := l.getD i []
/-- the three cells of a block from the cell o of the row b on -/
def BC (w : World) (b o : Nat) (x : Bk) : Prop :=
  ∃ A c, w.cell? ⟨b, o, none⟩ = some (.int .i64 x.fr) ∧ w.cell? ⟨b, o + 1, none⟩ = some (.int .i64 x.to) ∧ w.cell? ⟨b, o + 2, none⟩ = some (.slice A x.nx.length c) ∧ IV w A x.nx
theorem BC.step {w w' : World} {b o : Nat} {x : Bk} (h : BC w b o x) (hlt : b < w.heap.size) (hb : Below w.heap.size w w') : BC w' b o x := by
  obtain ⟨A, c, h0, h1, h2, hA⟩ := h
  exact ⟨A, c, (hb.cell (p := ⟨b, o, none⟩) hlt).trans h0, (hb.cell (p := ⟨b, o + 1, none⟩) hlt).trans h1, (hb.cell (p := ⟨b, o + 2, none⟩) hlt).trans h2, hA.step hb⟩
def BV (w : World) (A : Option Addr) (bs : List Bk) : Prop :=
  0 < bs.length → ∃ b off, A = some ⟨b, off, none⟩ ∧ b < w.heap.size ∧ ∀ j, j < bs.length → BC w b (off + j * 3) (nthB bs j)
theorem BV.step {w w' : World} {A : Option Addr} {bs : List Bk} (h : BV w A bs) (hb : Below w.heap.size w w') : BV w' A bs := fun hp => by
  obtain ⟨b, off, hA, hlt, hc⟩ := h hp
  exact ⟨b, off, hA, Nat.lt_of_lt_of_le hlt hb.size, fun j hj => (hc j hj).step hlt hb⟩
theorem BV.alloc {w : World} {A : Option Addr} {bs : List Bk} (h : BV w A bs) (o : Obj) : BV (w.alloc o) A bs := h.step ((Below.refl _ _).alloc (Nat.le_refl _) o)
/-- behind the address A lie the slices xss -/
def RV (w : World) (A : Option Addr) (xss : List (List Int)) : Prop :=
  0 < xss.length → ∃ b off, A = some ⟨b, off, none⟩ ∧ b < w.heap.size ∧ ∀ j, j < xss.length → ∃ A' c', w.cell? ⟨b, off + j, none⟩ = some (.slice A' (nthR xss j).length c') ∧ IV w A' (nthR xss j)
theorem RV.step {w w' : World} {A : Option Addr} {xss : List (List Int)} (h : RV w A xss) (hb : Below w.heap.size w w') : RV w' A xss := fun hp => by
  obtain ⟨b, off, hA, hlt, hc⟩ := h hp
  refine ⟨b, off, hA, Nat.lt_of_lt_of_le hlt hb.size, fun j hj => ?_⟩
  obtain ⟨A', c', h0, h1⟩ := hc j hj
  exact ⟨A', c', (hb.cell (p := ⟨b, off + j, none⟩) hlt).trans h0, h1.step hb⟩
theorem RV.alloc {w : World} {A : Option Addr} {xss : List (List Int)} (h : RV w A xss) (o : Obj) : RV (w.alloc o) A xss := h.step ((Below.refl _ _).alloc (Nat.le_refl _) o)
/-- a list of edges -/
def nthE (l : List (Int × Int)) (i : Nat) : Int × Int := l.getD i (0, 0)
def EV (w : World) (A : Option Addr) (es : List (Int × Int)) : Prop :=
  0 < es.length → ∃ b off, A = some ⟨b, off, none⟩ ∧ b < w.heap.size ∧ ∀ j, j < es.length → w.cell? ⟨b, off + j * 2, none⟩ = some (.int .i64 (nthE es j).1) ∧ w.cell? ⟨b, off + j * 2 + 1, none⟩ = some (.int .i64 (nthE es j).2)
theorem EV.step {w w' : World} {A : Option Addr} {es : List (Int × Int)} (h : EV w A es) (hb : Below w.heap.size w w') : EV w' A es := fun hp => by
  obtain ⟨b, off, hA, hlt, hc⟩ := h hp
  exact ⟨b, off, hA, Nat.lt_of_lt_of_le hlt hb.size, fun j hj => ⟨(hb.cell (p := ⟨b, off + j * 2, none⟩) hlt).trans (hc j hj).1, (hb.cell (p := ⟨b, off + j * 2 + 1, none⟩) hlt).trans (hc j hj).2⟩⟩
theorem EV.alloc {w : World} {A : Option Addr} {es : List (Int × Int)} (h : EV w A es) (o : Obj) : EV (w.alloc o) A es := h.step ((Below.refl _ _).alloc (Nat.le_refl _) o)
def ecells (es : List (Int × Int)) : List Value := es.flatMap fun p => [.int .i64 p.1, .int .i64 p.2]
theorem ecells_length (es : List (Int × Int)) : (ecells es).length = es.length * 2 := by
  induction es with
  | nil => rfl
  | cons p ps ih => simp only [ecells, List.flatMap_cons, List.length_append, List.length_cons, List.length_nil] at ih ⊢; omega
theorem ecells_at : ∀ (es : List (Int × Int)) (j : Nat), j < es.length → (ecells es)[j * 2]? = some (.int .i64 (nthE es j).1) ∧ (ecells es)[j * 2 + 1]? = some (.int .i64 (nthE es j).2)
  | [], j, h => absurd h (by simp)
  | p :: ps, 0, _ => ⟨rfl, rfl⟩
  | p :: ps, j + 1, h => by
    have ih := ecells_at ps j (by simpa using h)
    have e1 : (j + 1) * 2 = j * 2 + 1 + 1 := by omega
    rw [e1]
    exact ih
theorem ecells_snoc (es : List (Int × Int)) (p : Int × Int) : ecells (es ++ [p]) = ecells es ++ [.int .i64 p.1, .int .i64 p.2] := by simp [ecells]
/-- a row of the call's own stands in every later world that turned nothing below -/
theorem own_below {W W' : World} {base : Nat} {e : TypeId} {size n : Nat} {v : Value} {xs : List Value} (h : W.ownsRow base e size v n xs) (hb : Below W.heap.size W W') : W'.ownsRow base e size v n xs := by
  refine ⟨h.1, ?_⟩
  rcases h.2 with hn | ⟨g, cap, cur, hv, hbg, hg, rest⟩
  · exact .inl hn
  · exact .inr ⟨g, cap, cur, hv, hbg, (hb.block g (Array.getElem?_eq_some_iff.1 hg).1).trans hg, rest⟩
/-- what a row of edges of the call's own is, read -/
theorem EV.of_own {w : World} {base : Nat} {v : Value} {es : List (Int × Int)} (h : w.ownsRow base 35 2 v es.length (ecells es)) : ∃ A c, v = .slice A es.length c ∧ EV w A es := by
  have hl := h
  rcases h.2 with ⟨rfl, h0⟩ | ⟨g, cap, cur, rfl, hbg, hg, hnc, hcm, hcs, ht⟩
  · have : es = [] := List.eq_nil_of_length_eq_zero h0
    subst this
    exact ⟨none, 0, rfl, fun h => absurd h (by simp)⟩
  · refine ⟨_, _, rfl, fun _ => ⟨g, 0, rfl, (Array.getElem?_eq_some_iff.1 hg).1, fun j hj => ?_⟩⟩
    have h1 := hl.cellAt (j * 2) (by omega)
    have h2 := hl.cellAt (j * 2 + 1) (by omega)
    rw [(ecells_at es j hj).1] at h1
    rw [(ecells_at es j hj).2] at h2
    simp only [Nat.zero_add]
    exact ⟨h1, h2⟩

/-- the edges of the first k blocks -/
def edgK (bs : List Bk) : Nat → List (Int × Int)
  | 0 => []
  | k + 1 => edgK bs k ++ (nthB bs k).nx.map fun t => ((k : Int), t)
theorem edgK_mono (bs : List Bk) {a b : Nat} (h : a ≤ b) : (edgK bs a).length ≤ (edgK bs b).length := by
  induction h with
  | refl => exact Nat.le_refl _
  | step _ ih => rw [edgK, List.length_append]; omega
/-- the edges of the first k blocks and the first j of block k -/
def edgJ (bs : List Bk) (nx : List Int) (k j : Nat) : List (Int × Int) := edgK bs k ++ (nx.take j).map fun t => ((k : Int), t)
theorem edgJ_zero (bs : List Bk) (nx : List Int) (k : Nat) : edgJ bs nx k 0 = edgK bs k := by simp [edgJ]
theorem edgJ_all (bs : List Bk) (nx : List Int) (k : Nat) : edgJ bs nx k nx.length = edgK bs k ++ nx.map fun t => ((k : Int), t) := by simp [edgJ]
theorem edgJ_length {bs : List Bk} {nx : List Int} {k j : Nat} (h : j ≤ nx.length) : (edgJ bs nx k j).length = (edgK bs k).length + j := by simp [edgJ]; omega
theorem edgJ_succ {bs : List Bk} {nx : List Int} {k j : Nat} (h : j < nx.length) : edgJ bs nx k (j + 1) = edgJ bs nx k j ++ [((k : Int), nx.getD j 0)] := by
  rw [edgJ, edgJ, take_succ_getD h]; simp
theorem info35 : (Try.prog.info? 35).map (fun i => (i.zero, i.size, i.bytes)) = some (some (.agg #[.int .i64 0, .int .i64 0]), 2, 16) := by kernel_rfl
theorem cell_two_new (w : World) (x y : Value) (t : TypeId) : ∀ j u, [x, y][j]? = some u → (w.alloc (.cells #[x, y] t)).cell? ((⟨w.heap.size, 0, none⟩ : Addr).add j) = some u := by
  intro j u hj
  match j, hj with
  | 0, hj => simp at hj; subst hj; simp [Addr.add]
  | 1, hj => simp at hj; subst hj; simp [Addr.add]

set_option maxRecDepth 100000 in
set_option maxHeartbeats 4000000 in
theorem edges15 (A B : Option Addr) (bs : List Bk) (m c d : Nat) (w : World) (h : BV w A bs) (hl : bs.length ≤ 1099511627776) (hz : ∀ j, j < bs.length → (nthB bs j).nx.length ≤ 1099511627776) (hm : (edgK bs bs.length).length ≤ 1099511627776) :
    Calls Try.prog 15 #[.agg #[.slice A bs.length c, .slice B m d]] w fun e w' => (∃ R cap, e = .returned (.slice R (edgK bs bs.length).length cap) ∧ EV w' R (edgK bs bs.length)) ∧ Below w.heap.size w w' := by
  have HS0 := Lib.hid (h.alloc (.cells #[.slice A bs.length c, .slice B m d] 25))
  have HZ := Lib.hid hz
  have HM := Lib.hid hm
  clear h hz hm
  obtain ⟨i0, hi, hz0, hz1, hz2⟩ := info_parts info35
  go_enter Try.func15, Try.ntmps15
  go_wp2_with fail
  obtain ⟨W0, hW0⟩ : ∃ W0, w.alloc (.cells #[.slice A bs.length c, .slice B m d] 25) = W0 := ⟨_, rfl⟩
  have HB0 : Below w.heap.size w W0 := by rw [← hW0]; exact below_new (Below.refl _ _) _
  have HS := Lib.hid (show BV W0 A bs by rw [← hW0]; exact HS0.out)
  rw [hW0]
  clear hW0 HS0
  have HB0 := Lib.hid HB0
  go_loopw [3, 11] (fun v i wr => ∃ k : Nat, k ≤ bs.length ∧ i = .int .i64 k ∧ wr.ownsRow W0.heap.size 35 2 v (edgK bs k).length (ecells (edgK bs k)) ∧ Below W0.heap.size W0 wr) (fun _ i _ => bs.length - (intOf i).toNat)
  case atStart => exact ⟨0, by omega, rfl, World.ownsRow_nil _ _ _ _, Below.refl _ _⟩
  case round =>
    obtain ⟨k, hk, rfl, hown, hB⟩ := hrel
    have HO := Lib.hid hown
    have HB := Lib.hid hB
    clear hown hB
    by_cases hlt : k < bs.length
    · obtain ⟨b, off, rfl, hbl, hc⟩ := HS.out (by omega)
      obtain ⟨A1, c1, g0, g1, g2, hA1⟩ := hc k hlt
      replace g0 := (HB.out.cell (p := ⟨b, off + k * 3, none⟩) hbl).trans g0
      replace g1 := (HB.out.cell (p := ⟨b, off + k * 3 + 1, none⟩) hbl).trans g1
      replace g2 := (HB.out.cell (p := ⟨b, off + k * 3 + 2, none⟩) hbl).trans g2
      have hz := HZ.out k hlt
      have hm := Nat.le_trans (edgK_mono bs (show k + 1 ≤ bs.length by omega)) HM.out
      clear hc
      obtain ⟨y, hy⟩ : ∃ y, nthB bs k = y := ⟨_, rfl⟩
      have hst : edgK bs (k + 1) = edgK bs k ++ y.nx.map fun t => ((k : Int), t) := by rw [edgK, hy]
      rw [hy] at g0 g1 g2 hA1 hz
      clear hy
      obtain ⟨fr, to, nx⟩ := y
      dsimp only at g0 g1 g2 hA1 hz hst
      rw [hst, List.length_append, List.length_map] at hm
      have HA := Lib.hid hA1
      have HST := Lib.hid hst
      clear hA1 hst
      go_wp2_with fail
      go_loopw [3, 19] (fun v i W => ∃ j : Nat, j ≤ nx.length ∧ i = .int .i64 j ∧ W.ownsRow W0.heap.size 35 2 v (edgJ bs nx k j).length (ecells (edgJ bs nx k j)) ∧ Below W0.heap.size W0 W) (fun _ i _ => nx.length - (intOf i).toNat)
      case atStart => exact ⟨0, by omega, rfl, by rw [edgJ_zero]; exact HO.out.alloc _, below_new HB.out _⟩
      case round =>
        obtain ⟨j, hj, rfl, hown, hB⟩ := hrel
        have HO' := Lib.hid hown
        have HB' := Lib.hid hB
        clear hown hB
        by_cases hjt : j < nx.length
        · obtain ⟨b1, off1, rfl, hbl1, hc⟩ := HA.out (by omega)
          have g := (HB'.out.cell (p := ⟨b1, off1 + j, none⟩) hbl1).trans (hc j hjt)
          clear hc
          obtain ⟨y, hy⟩ : ∃ y, nx.getD j 0 = y := ⟨_, rfl⟩
          rw [hy] at g
          have hs := edgJ_succ (bs := bs) (k := k) hjt
          rw [hy] at hs
          have HSU := Lib.hid hs
          clear hy hs
          have hlen := edgJ_length (bs := bs) (k := k) hj
          have hown := HO'.out
          have hsz := HB'.out.size
          go_wp2_with (first
            | (at_builtin; refine wpList_append_own _ rfl _ _ 33 rfl W0.heap.size 35 i0 (.agg #[.int .i64 0, .int .i64 0]) 2 16 Try.underlying33 hi hz0 hz1 hz2 rfl (by decide) _ _ _ rfl (hown.alloc _) ⟨wr.heap.size, 0, none⟩ 1 1 [.int .i64 k, .int .i64 y] rfl rfl (cell_two_new _ _ _ _) (by simp [Value.oneCell']) (by unfold maxLen; omega) (by omega) (by simp; omega) ?_; intro v' w1 hown' hgrow hnil'))
          have hb1 := (below_new HB'.out (.cells #[.int .i64 k, .int .i64 y] 35)).grown hgrow (by simp; omega) (fun q e => (hown.lt q e).1)
          go_roundw
          case rel => exact ⟨j + 1, by omega, by go_num, by rw [HSU.out, List.length_append, ecells_snoc]; exact hown', hb1⟩
          case measure => simp [intOf]; omega
        · obtain rfl : j = nx.length := by omega
          go_wp2_with fail
          go_roundw
          case rel => exact ⟨k + 1, by omega, by go_num, by have := HO'.out; rw [edgJ_all] at this; rw [HST.out]; exact this, HB'.out⟩
          case measure => simp [intOf]; omega
    · obtain rfl : k = bs.length := by omega
      obtain ⟨R, cap, rfl, hE⟩ := EV.of_own HO.out
      go_wp2_with fail
      go_ret
      exact ⟨⟨R, cap, rfl, hE⟩, HB0.out.trans (HB.out.mono HB0.out.size)⟩
end Go.Proofs.Ytcbofikjcgdjmaa
