/- The contracts of same, Entries, Exits and their closures. -/
import Derived.Test.YtcbofikjcgdjmaaB3
import Derived.Shelf.Abstract
import Derived.Laws.StructEq
import Derived.ChangeKeysEq
namespace Go.Proofs.Ytcbofikjcgdjmaa
set_option linter.unusedVariables false
set_option linter.unusedSimpArgs false
open Go.RowKit

theorem take_succ_nthE {es : List (Int × Int)} {k : Nat} (h : k < es.length) : es.take (k + 1) = es.take k ++ [nthE es k] := by
  rw [List.take_add_one, List.getElem?_eq_getElem h, nthE, List.getD_eq_getElem?_getD, List.getElem?_eq_getElem h]; rfl

/-- the closure of Entries, over a box that holds a loop -/
def BoxLp (W : World) (b : Nat) (x : Lp) : Prop := b < W.heap.size ∧ LC W b 0 x
theorem BoxLp.step {w w' : World} {b : Nat} {x : Lp} (h : BoxLp w b x) (hb : Below w.heap.size w w') : BoxLp w' b x := ⟨Nat.lt_of_lt_of_le h.1 hb.size, h.2.step h.1 hb⟩
def entP (x : Lp) (a b : Int) : Bool := b == x.hd && !x.bl.contains a
def exiP (x : Lp) (a b : Int) : Bool := x.bl.contains a && !x.bl.contains b

set_option maxRecDepth 100000 in
set_option maxHeartbeats 4000000 in
theorem entries32 (x : Lp) (hz : x.bl.length ≤ 1099511627776) (q : Nat) (a b : Int) (w : World) (h : BoxLp w q x) :
    Calls Try.prog 32 #[.int .i64 a, .int .i64 b, .pointer (some ⟨q, 0, none⟩)] w fun e w' => e = .returned (.bool (entP x a b)) ∧ Below w.heap.size w w' := by
  obtain ⟨hq, A1, c1, B1, d1, g0, g1, g2, g3, hA1, hB1⟩ := h
  obtain ⟨hd, bl, la, pa⟩ := x
  dsimp only at g0 g1 g2 g3 hA1 hz
  have HA := Lib.hid hA1
  have H1 := Lib.hid (fun W => contains30 A1 bl c1 a W)
  clear hA1 hB1
  obtain ⟨r, hr⟩ : ∃ r, bl.contains a = r := ⟨_, rfl⟩
  have HR := Lib.hid hr
  simp only [hr] at H1
  clear hr
  by_cases hh : b = hd
  · have q1 : (b == hd) = true := by simpa using hh
    have hp : entP ⟨hd, bl, la, pa⟩ a b = !r := by simp only [entP]; rw [q1, HR.out]; rfl
    have HP := Lib.hid hp
    clear hp hh
    go_enter Try.func32, Try.ntmps32
    go_wp2_with (go_at_call 30; refine (H1.out _ HA.out hz).mono ?_; rintro e w1 ⟨rfl, rfl⟩)
    go_ret
    exact ⟨ret_b HP.out.symm, Below.refl _ _⟩
  · have q1 : (b == hd) = false := by simpa using hh
    have hp : entP ⟨hd, bl, la, pa⟩ a b = false := by simp only [entP]; rw [q1]; rfl
    have HP := Lib.hid hp
    clear hp hh
    go_enter Try.func32, Try.ntmps32
    go_wp2_with fail
    go_ret
    exact ⟨ret_b HP.out.symm, Below.refl _ _⟩
set_option maxRecDepth 100000 in
set_option maxHeartbeats 4000000 in
theorem exits33 (x : Lp) (hz : x.bl.length ≤ 1099511627776) (q : Nat) (a b : Int) (w : World) (h : BoxLp w q x) :
    Calls Try.prog 33 #[.int .i64 a, .int .i64 b, .pointer (some ⟨q, 0, none⟩)] w fun e w' => e = .returned (.bool (exiP x a b)) ∧ Below w.heap.size w w' := by
  obtain ⟨hq, A1, c1, B1, d1, g0, g1, g2, g3, hA1, hB1⟩ := h
  obtain ⟨hd, bl, la, pa⟩ := x
  dsimp only at g0 g1 g2 g3 hA1 hz
  have HA := Lib.hid hA1
  have H1 := Lib.hid (fun W => contains30 A1 bl c1 a W)
  have H2 := Lib.hid (fun W => contains30 A1 bl c1 b W)
  clear hA1 hB1
  obtain ⟨r, hr⟩ : ∃ r, bl.contains a = r := ⟨_, rfl⟩
  have HR := Lib.hid hr
  simp only [hr] at H1
  clear hr
  obtain ⟨s, hs⟩ : ∃ s, bl.contains b = s := ⟨_, rfl⟩
  have HS := Lib.hid hs
  simp only [hs] at H2
  clear hs
  have hp : exiP ⟨hd, bl, la, pa⟩ a b = (r && !s) := by simp only [exiP]; rw [HR.out, HS.out]
  have HP := Lib.hid hp
  clear hp
  cases r with
  | true =>
    go_enter Try.func33, Try.ntmps33
    go_wp2_with (first
      | (go_at_call_of 30 (Value.int .i64 a); refine (H1.out _ HA.out hz).mono ?_; rintro e w1 ⟨rfl, rfl⟩)
      | (go_at_call_of 30 (Value.int .i64 b); refine (H2.out _ HA.out hz).mono ?_; rintro e w1 ⟨rfl, rfl⟩))
    go_ret
    exact ⟨ret_b HP.out.symm, Below.refl _ _⟩
  | false =>
    go_enter Try.func33, Try.ntmps33
    go_wp2_with (first
      | (go_at_call_of 30 (Value.int .i64 a); refine (H1.out _ HA.out hz).mono ?_; rintro e w1 ⟨rfl, rfl⟩)
      | (go_at_call_of 30 (Value.int .i64 b); refine (H2.out _ HA.out hz).mono ?_; rintro e w1 ⟨rfl, rfl⟩))
    go_ret
    exact ⟨ret_b HP.out.symm, Below.refl _ _⟩

set_option maxRecDepth 100000 in
set_option maxHeartbeats 4000000 in
theorem edges31 (g : Nat) (lb : Array Value) (eg : ∀ args w, (callFunc g args).run Try.prog w = .ok (.enter g args) w) (p : Int → Int → Bool)
    (A B : Option Addr) (bs : List Bk) (m c d : Nat) (w : World) (h : BV w A bs) (hl : bs.length ≤ 1099511627776) (hz : ∀ j, j < bs.length → (nthB bs j).nx.length ≤ 1099511627776) (hm : (edgK bs bs.length).length ≤ 1099511627776)
    (hp : ∀ (W : World) (x y : Int), Below w.heap.size w W → Calls Try.prog g (#[.int .i64 x, .int .i64 y] ++ lb) W fun e w' => e = .returned (.bool (p x y)) ∧ Below W.heap.size W w') :
    Calls Try.prog 31 #[.agg #[.slice A bs.length c, .slice B m d], .func (.func g) #[] lb] w fun e w' => (∃ R cap, e = .returned (.slice R ((edgK bs bs.length).filter fun q => p q.1 q.2).length cap) ∧ EV w' R ((edgK bs bs.length).filter fun q => p q.1 q.2)) ∧ Below w.heap.size w w' := by
  have HE := Lib.hid (fun W h => edges15 A B bs m c d W h hl hz hm)
  obtain ⟨es, hes⟩ : ∃ es, edgK bs bs.length = es := ⟨_, rfl⟩
  rw [hes] at hm HE ⊢
  have HS := Lib.hid h
  have HP := Lib.hid hp
  clear h hz hp hes
  obtain ⟨i0, hi, hz0, hz1, hz2⟩ := info_parts info35
  go_enter Try.func31, Try.ntmps31
  go_wp2_with (go_at_call 15; refine (HE.out _ (HS.out.alloc _)).mono ?_; rintro e W0 ⟨⟨R, cap, rfl, hE⟩, hB0⟩)
  have HB0 := Lib.hid ((below_new (Below.refl w.heap.size w) _).trans (hB0.mono (by simp)))
  have HE0 := Lib.hid hE
  clear hE hB0 HE HS
  go_loopw [5, 11] (fun v i wr => ∃ k : Nat, k ≤ es.length ∧ i = .int .i64 k ∧ wr.ownsRow W0.heap.size 35 2 v ((es.take k).filter fun q => p q.1 q.2).length (ecells ((es.take k).filter fun q => p q.1 q.2)) ∧ Below W0.heap.size W0 wr) (fun _ i _ => es.length - (intOf i).toNat)
  case atStart => exact ⟨0, by omega, rfl, World.ownsRow_nil _ _ _ _, Below.refl _ _⟩
  case round =>
    obtain ⟨k, hk, rfl, hown, hB⟩ := hrel
    have HO := Lib.hid hown
    have HB := Lib.hid hB
    clear hown hB
    by_cases hlt : k < es.length
    · obtain ⟨b, off, rfl, hbl, hc⟩ := HE0.out (by omega)
      have g0 := (HB.out.cell (p := ⟨b, off + k * 2, none⟩) hbl).trans (hc k hlt).1
      have g1 := (HB.out.cell (p := ⟨b, off + k * 2 + 1, none⟩) hbl).trans (hc k hlt).2
      clear hc
      have hst : (es.take (k + 1)).filter (fun q => p q.1 q.2) = (es.take k).filter (fun q => p q.1 q.2) ++ [nthE es k].filter (fun q => p q.1 q.2) := by rw [take_succ_nthE hlt, List.filter_append]
      obtain ⟨⟨x, y⟩, hy⟩ : ∃ y, nthE es k = y := ⟨_, rfl⟩
      rw [hy] at g0 g1 hst
      clear hy
      dsimp only at g0 g1
      have hcall := HP.out (wr.alloc (.cells #[.int .i64 x, .int .i64 y] 35)) x y (HB0.out.trans ((below_new HB.out _).mono HB0.out.size))
      have hfl : ((es.take k).filter fun q => p q.1 q.2).length ≤ es.length := Nat.le_trans (List.length_filter_le _ _) (by simp; omega)
      cases hpx : p x y with
      | true =>
        rw [hpx] at hcall
        rw [List.filter_cons, if_pos (by simpa using hpx), List.filter_nil] at hst
        have HST := Lib.hid hst
        have HC := Lib.hid hcall
        clear hst hcall
        have hsz := HB.out.size
        go_wp2_with (first
          | (go_at_fn g; refine HC.out.mono ?_; rintro e w1 ⟨rfl, hb1⟩
             have x0 := (hb1.cell (p := ⟨wr.heap.size, 0, none⟩) (by simp)).trans (show _ = some (.int .i64 x) by simp)
             have x1 := (hb1.cell (p := ⟨wr.heap.size, 1, none⟩) (by simp)).trans (show _ = some (.int .i64 y) by simp)
             have hown := own_below (HO.out.alloc _) hb1
             have hs1 : wr.heap.size + 1 ≤ w1.heap.size := by have := hb1.size; simpa using this
             have HB1 := Lib.hid ((below_new HB.out _).trans (hb1.mono (by simp; omega)))
             clear hb1)
          | (at_builtin; refine wpList_append_own _ rfl _ _ 33 rfl W0.heap.size 35 i0 (.agg #[.int .i64 0, .int .i64 0]) 2 16 Try.underlying33 hi hz0 hz1 hz2 rfl (by decide) _ _ _ rfl (hown.alloc _) ⟨w1.heap.size, 0, none⟩ 1 1 [.int .i64 x, .int .i64 y] rfl rfl (cell_two_new _ _ _ _) (by simp [Value.oneCell']) (by unfold maxLen; omega) (by omega) (by simp; omega) ?_; intro v' w2 hown' hgrow hnil'
             have HB2 := Lib.hid ((below_new HB1.out _).grown hgrow (by simp; omega) (fun q e => (hown.lt q e).1))))
        go_roundw
        case rel => exact ⟨k + 1, by omega, by go_num, by rw [HST.out, List.length_append, ecells_snoc]; exact hown', HB2.out⟩
        case measure => simp [intOf]; omega
      | false =>
        rw [hpx] at hcall
        rw [List.filter_cons, if_neg (by simpa using hpx), List.filter_nil, List.append_nil] at hst
        have HST := Lib.hid hst
        have HC := Lib.hid hcall
        clear hst hcall
        have hsz := HB.out.size
        go_wp2_with (first
          | (go_at_fn g; refine HC.out.mono ?_; rintro e w1 ⟨rfl, hb1⟩
             have hown := own_below (HO.out.alloc _) hb1
             have HB1 := Lib.hid ((below_new HB.out _).trans (hb1.mono (by simp; omega)))
             clear hb1))
        go_roundw
        case rel => exact ⟨k + 1, by omega, by go_num, by rw [HST.out]; exact hown, HB1.out⟩
        case measure => simp [intOf]; omega
    · obtain rfl : k = es.length := by omega
      have HO2 := HO.out
      rw [List.take_length] at HO2
      obtain ⟨R', cap', rfl, hE⟩ := EV.of_own HO2
      have HE := Lib.hid hE
      clear hE HO HO2
      go_wp2_with fail
      go_ret
      exact ⟨⟨R', cap', rfl, HE.out⟩, HB0.out.trans (HB.out.mono HB0.out.size)⟩

theorem BoxLp.new (W : World) (x : Lp) (A1 B1 : Option Addr) (c1 d1 : Nat) (q : TypeId) (h1 : IV W A1 x.bl) (h2 : IV W B1 x.la) : BoxLp (W.alloc (.cells #[.int .i64 x.hd, .slice A1 x.bl.length c1, .slice B1 x.la.length d1, .int .i64 x.pa] q)) W.heap.size x :=
  ⟨by simp, ⟨A1, c1, B1, d1, by simp, by simp, by simp, by simp, h1.alloc _, h2.alloc _⟩⟩

set_option maxRecDepth 100000 in
set_option maxHeartbeats 4000000 in
theorem entries17 (A B : Option Addr) (bs : List Bk) (m c d : Nat) (x : Lp) (A1 B1 : Option Addr) (c1 d1 : Nat) (w : World) (h : BV w A bs) (hl : bs.length ≤ 1099511627776) (hz : ∀ j, j < bs.length → (nthB bs j).nx.length ≤ 1099511627776) (hm : (edgK bs bs.length).length ≤ 1099511627776)
    (hx : x.bl.length ≤ 1099511627776) (h1 : IV w A1 x.bl) (h2 : IV w B1 x.la) :
    Calls Try.prog 17 #[.agg #[.slice A bs.length c, .slice B m d], .agg #[.int .i64 x.hd, .slice A1 x.bl.length c1, .slice B1 x.la.length d1, .int .i64 x.pa]] w fun e w' => (∃ R cap, e = .returned (.slice R ((edgK bs bs.length).filter fun q => entP x q.1 q.2).length cap) ∧ EV w' R ((edgK bs bs.length).filter fun q => entP x q.1 q.2)) ∧ Below w.heap.size w w' := by
  have HS := Lib.hid h
  have HX := Lib.hid (fun W (hb : Below w.heap.size w W) q => BoxLp.new W x A1 B1 c1 d1 q (h1.step hb) (h2.step hb))
  have HE := Lib.hid (fun W lb h hp => edges31 32 lb (enters_of Try.func32 (by kernel_rfl) rfl) (entP x) A B bs m c d W h hl hz hm hp)
  have HC := Lib.hid (entries32 x hx)
  clear h h1 h2 hz hm
  go_enter Try.func17, Try.ntmps17
  go_wp2_with (first
    | (go_at_call 31; refine (HE.out _ _ ((HS.out.alloc _).alloc _) (fun W a b hb => ?_)).mono ?_))
  · have hbx := HX.out (w.alloc (.cells #[.slice A bs.length c, .slice B m d] 25)) (below_new (Below.refl _ _) _) 30
    have := HC.out _ a b W (hbx.step hb)
    simpa using this
  · rintro e w1 ⟨⟨R, cap, rfl, hE⟩, hB⟩
    have HB := Lib.hid hB
    have HE1 := Lib.hid hE
    clear hB hE
    go_wp2_with fail
    go_ret
    exact ⟨⟨R, cap, rfl, HE1.out⟩, (below_new (below_new (Below.refl _ _) _) _).trans (HB.out.mono (by simp; omega))⟩

set_option maxRecDepth 100000 in
set_option maxHeartbeats 4000000 in
theorem exits18 (A B : Option Addr) (bs : List Bk) (m c d : Nat) (x : Lp) (A1 B1 : Option Addr) (c1 d1 : Nat) (w : World) (h : BV w A bs) (hl : bs.length ≤ 1099511627776) (hz : ∀ j, j < bs.length → (nthB bs j).nx.length ≤ 1099511627776) (hm : (edgK bs bs.length).length ≤ 1099511627776)
    (hx : x.bl.length ≤ 1099511627776) (h1 : IV w A1 x.bl) (h2 : IV w B1 x.la) :
    Calls Try.prog 18 #[.agg #[.slice A bs.length c, .slice B m d], .agg #[.int .i64 x.hd, .slice A1 x.bl.length c1, .slice B1 x.la.length d1, .int .i64 x.pa]] w fun e w' => (∃ R cap, e = .returned (.slice R ((edgK bs bs.length).filter fun q => exiP x q.1 q.2).length cap) ∧ EV w' R ((edgK bs bs.length).filter fun q => exiP x q.1 q.2)) ∧ Below w.heap.size w w' := by
  have HS := Lib.hid h
  have HX := Lib.hid (fun W (hb : Below w.heap.size w W) q => BoxLp.new W x A1 B1 c1 d1 q (h1.step hb) (h2.step hb))
  have HE := Lib.hid (fun W lb h hp => edges31 33 lb (enters_of Try.func33 (by kernel_rfl) rfl) (exiP x) A B bs m c d W h hl hz hm hp)
  have HC := Lib.hid (exits33 x hx)
  clear h h1 h2 hz hm
  go_enter Try.func18, Try.ntmps18
  go_wp2_with (first
    | (go_at_call 31; refine (HE.out _ _ ((HS.out.alloc _).alloc _) (fun W a b hb => ?_)).mono ?_))
  · have hbx := HX.out (w.alloc (.cells #[.slice A bs.length c, .slice B m d] 25)) (below_new (Below.refl _ _) _) 30
    have := HC.out _ a b W (hbx.step hb)
    simpa using this
  · rintro e w1 ⟨⟨R, cap, rfl, hE⟩, hB⟩
    have HB := Lib.hid hB
    have HE1 := Lib.hid hE
    clear hB hE
    go_wp2_with fail
    go_ret
    exact ⟨⟨R, cap, rfl, HE1.out⟩, (below_new (below_new (Below.refl _ _) _) _).trans (HB.out.mono (by simp; omega))⟩

theorem info3 : (Try.prog.info? 3).map (fun i => (i.zero, i.size, i.bytes)) = some (some (.int .i64 0), 1, 8) := by kernel_rfl
theorem equalIn35 (n : Nat) (x y x' y' : Int) (w : World) : (Op.equalIn (n + 2) 35 (.agg #[.int .i64 x, .int .i64 y]) (.agg #[.int .i64 x', .int .i64 y'])).run Try.prog w = .ok (x == x' && y == y') w := by
  obtain ⟨i, hi, _, _, _⟩ := info_parts info3
  have hc : Try.prog.cellsOf 3 = 1 := by kernel_rfl
  have u3 := Try.underlying3
  rw [run_equalIn_array w (n + 1) _ _ Try.underlying35 hi, hc]
  simp only [List.range, List.range.loop, Op.eqItems]
  go_simp
  by_cases h1 : x = x' <;> by_cases h2 : y = y' <;> simp [h1, h2]
theorem run_eql35 (x y x' y' : Int) (w : World) : (binOp .eql 35 (.agg #[.int .i64 x, .int .i64 y]) (.agg #[.int .i64 x', .int .i64 y'])).run Try.prog w = .ok (.bool (x == x' && y == y')) w := by
  rw [run_eql_struct, show (10000 : Nat) = 9998 + 2 from rfl, equalIn35]; rfl
theorem run_neq35 (x y x' y' : Int) (w : World) : (binOp .neq 35 (.agg #[.int .i64 x, .int .i64 y]) (.agg #[.int .i64 x', .int .i64 y'])).run Try.prog w = .ok (.bool (!(x == x' && y == y'))) w := by
  rw [run_neq_struct, show (10000 : Nat) = 9998 + 2 from rfl, equalIn35]; rfl
set_option maxRecDepth 100000 in
set_option maxHeartbeats 4000000 in
theorem same16 (A B : Option Addr) (es fs : List (Int × Int)) (c d : Nat) (w : World) (h : EV w A es) (h' : EV w B fs) (hl : es.length ≤ 1099511627776) (hl' : fs.length ≤ 1099511627776) :
    Calls Try.prog 16 #[.slice A es.length c, .slice B fs.length d] w fun e w' => e = .returned (.bool (es == fs)) ∧ Below w.heap.size w w' := by
  have HS := Lib.hid h
  have HT := Lib.hid h'
  clear h h'
  by_cases hne : es.length = fs.length
  · have HE := Lib.hid hne
    rw [← hne]
    rw [← hne] at hl'
    clear hne
    go_enter Try.func16, Try.ntmps16
    go_wp2_with fail
    go_loopw [13] (fun i wr => ∃ k : Nat, k ≤ es.length ∧ i = .int .i64 k ∧ es.take k = fs.take k ∧ Below w.heap.size w wr) (fun i _ => es.length - (intOf i).toNat)
    case atStart => exact ⟨0, by omega, rfl, rfl, Below.refl _ _⟩
    case round =>
      obtain ⟨k, hk, rfl, hx, hB⟩ := hrel
      have HX := Lib.hid hx
      have HB := Lib.hid hB
      clear hx hB
      by_cases hlt : k < es.length
      · obtain ⟨b, off, rfl, hbl, hc⟩ := (HS.out.step HB.out) (by omega)
        obtain ⟨g0, g1⟩ := hc k hlt
        clear hc
        obtain ⟨b', off', rfl, hbl', hc⟩ := (HT.out.step HB.out) (by have := HE.out; omega)
        obtain ⟨f0, f1⟩ := hc k (by have := HE.out; omega)
        clear hc HS HT
        have hts := take_succ_nthE hlt
        have htf := take_succ_nthE (es := fs) (k := k) (by have := HE.out; omega)
        obtain ⟨⟨x, y⟩, hy⟩ : ∃ y, nthE es k = y := ⟨_, rfl⟩
        rw [hy] at g0 g1 hts
        obtain ⟨⟨x', y'⟩, hy'⟩ : ∃ y, nthE fs k = y := ⟨_, rfl⟩
        rw [hy'] at f0 f1 htf
        dsimp only at g0 g1 f0 f1
        have HY := Lib.hid hts
        have HZ := Lib.hid htf
        clear hy hy' hts htf
        have hne := fun W => run_neq35 x y x' y' W
        by_cases hq : x = x' ∧ y = y'
        · have hr : (x == x' && y == y') = true := by simp [hq.1, hq.2]
          have HQ := Lib.hid hq
          clear hq
          simp only [hr, Bool.not_true] at hne
          go_wp2_with fail
          go_quiet (fail)
          go_wp2_with fail
          go_roundw
          case rel => exact ⟨k + 1, by omega, by go_num, by rw [HY.out, HZ.out, HX.out, HQ.out.1, HQ.out.2], below_drewN HB.out _⟩
          case measure => simp [intOf]; omega
        · have hr : (x == x' && y == y') = false := by
            rw [Bool.eq_false_iff]; intro h; simp at h; exact hq h
          have HQ := Lib.hid hq
          clear hq
          simp only [hr, Bool.not_false] at hne
          go_wp2_with fail
          go_quiet (fail)
          go_wp2_with fail
          go_ret
          refine ⟨ret_b ?_, below_drewN HB.out _⟩
          symm
          rw [beq_eq_false_iff_ne]
          intro e
          have h1 := HY.out
          have h2 := HZ.out
          rw [e] at h1
          rw [h1] at h2
          simp at h2
          exact HQ.out h2
      · obtain rfl : k = es.length := by omega
        go_wp2_with fail
        go_ret
        refine ⟨ret_b ?_, HB.out⟩
        symm
        have := HX.out
        rw [List.take_length, HE.out, List.take_length] at this
        rw [this]; simp
  · have hb : ((es.length : Int) != (fs.length : Int)) = true := by simp; omega
    have HE := Lib.hid hne
    clear hne
    go_enter Try.func16, Try.ntmps16
    go_wp2_with fail
    go_ret
    refine ⟨ret_b ?_, Below.refl _ _⟩
    symm
    rw [beq_eq_false_iff_ne]
    exact fun e => HE.out (by rw [e])
end Go.Proofs.Ytcbofikjcgdjmaa
