/- Entries, its result in a block of its own. -/
import Derived.Test.YtcbofikjcgdjmaaC5
namespace Go.Proofs.Ytcbofikjcgdjmaa
set_option linter.unusedVariables false
set_option linter.unusedSimpArgs false
open Go.RowKit

/-- an address in a block from n on -/
def Fresh (n : Nat) (A : Option Addr) : Prop := ∀ p, A = some p → n ≤ p.block
theorem Fresh.mono {n m : Nat} {A : Option Addr} (h : Fresh n A) (hm : m ≤ n) : Fresh m A := fun p e => Nat.le_trans hm (h p e)
theorem EV.of_own_fresh {w : World} {base : Nat} {v : Value} {es : List (Int × Int)} (h : w.ownsRow base 35 2 v es.length (ecells es)) : ∃ A c, v = .slice A es.length c ∧ EV w A es ∧ Fresh base A := by
  obtain ⟨A, c, rfl, hE⟩ := EV.of_own h
  refine ⟨A, c, rfl, hE, fun p e => ?_⟩
  subst e
  rcases h.2 with ⟨e, _⟩ | ⟨g, cap, cur, e, hbg, _⟩
  · cases e
  · cases e; exact hbg

set_option maxRecDepth 100000 in
set_option maxHeartbeats 4000000 in
theorem edges31o (g : Nat) (lb : Array Value) (eg : ∀ args w, (callFunc g args).run Try.prog w = .ok (.enter g args) w) (p : Int → Int → Bool)
    (A B : Option Addr) (bs : List Bk) (m c d : Nat) (w : World) (h : BV w A bs) (hl : bs.length ≤ 1099511627776) (hz : ∀ j, j < bs.length → (nthB bs j).nx.length ≤ 1099511627776) (hm : (edgK bs bs.length).length ≤ 1099511627776)
    (hp : ∀ (W : World) (x y : Int), Below w.heap.size w W → Calls Try.prog g (#[.int .i64 x, .int .i64 y] ++ lb) W fun e w' => e = .returned (.bool (p x y)) ∧ Below W.heap.size W w') :
    Calls Try.prog 31 #[.agg #[.slice A bs.length c, .slice B m d], .func (.func g) #[] lb] w fun e w' => (∃ R cap, e = .returned (.slice R ((edgK bs bs.length).filter fun q => p q.1 q.2).length cap) ∧ EV w' R ((edgK bs bs.length).filter fun q => p q.1 q.2) ∧ Fresh w.heap.size R) ∧ Below w.heap.size w w' := by
  have HE := Lib.hid (fun W h => edges15 A B bs m c d W h hl hz hm)
  obtain ⟨es, hes⟩ : ∃ es, edgK bs bs.length = es := ⟨_, rfl⟩
  rw [hes] at hm HE ⊢
  have HS := Lib.hid h
  have HP := Lib.hid hp
  clear h hz hp hes
  obtain ⟨i0, hi, hz0, hz1, hz2⟩ := info_parts info35
  go_enter Try.func31, Try.ntmps31
  go_wp2_with (go_at_call 15; refine (HE.out _ (HS.out.alloc _)).mono ?_; rintro e W0 ⟨⟨R, cap, rfl, hE⟩, hB0⟩)
  have HB0 := Lib.hid ((below_new (Below.refl w.heap.size w) _).trans (hB0.mono (by simp)))
  have HE0 := Lib.hid hE
  clear hE hB0 HE HS
  go_loopw [5, 11] (fun v i wr => ∃ k : Nat, k ≤ es.length ∧ i = .int .i64 k ∧ wr.ownsRow W0.heap.size 35 2 v ((es.take k).filter fun q => p q.1 q.2).length (ecells ((es.take k).filter fun q => p q.1 q.2)) ∧ Below W0.heap.size W0 wr) (fun _ i _ => es.length - (intOf i).toNat)
  case atStart => exact ⟨0, by omega, rfl, World.ownsRow_nil _ _ _ _, Below.refl _ _⟩
  case round =>
    obtain ⟨k, hk, rfl, hown, hB⟩ := hrel
    have HO := Lib.hid hown
    have HB := Lib.hid hB
    clear hown hB
    by_cases hlt : k < es.length
    · obtain ⟨b, off, rfl, hbl, hc⟩ := HE0.out (by omega)
      have g0 := (HB.out.cell (p := ⟨b, off + k * 2, none⟩) hbl).trans (hc k hlt).1
      have g1 := (HB.out.cell (p := ⟨b, off + k * 2 + 1, none⟩) hbl).trans (hc k hlt).2
      clear hc
      have hst : (es.take (k + 1)).filter (fun q => p q.1 q.2) = (es.take k).filter (fun q => p q.1 q.2) ++ [nthE es k].filter (fun q => p q.1 q.2) := by rw [take_succ_nthE hlt, List.filter_append]
      obtain ⟨⟨x, y⟩, hy⟩ : ∃ y, nthE es k = y := ⟨_, rfl⟩
      rw [hy] at g0 g1 hst
      clear hy
      dsimp only at g0 g1
      have hcall := HP.out (wr.alloc (.cells #[.int .i64 x, .int .i64 y] 35)) x y (HB0.out.trans ((below_new HB.out _).mono HB0.out.size))
      have hfl : ((es.take k).filter fun q => p q.1 q.2).length ≤ es.length := Nat.le_trans (List.length_filter_le _ _) (by simp; omega)
      cases hpx : p x y with
      | true =>
        rw [hpx] at hcall
        rw [List.filter_cons, if_pos (by simpa using hpx), List.filter_nil] at hst
        have HST := Lib.hid hst
        have HC := Lib.hid hcall
        clear hst hcall
        have hsz := HB.out.size
        go_wp2_with (first
          | (go_at_fn g; refine HC.out.mono ?_; rintro e w1 ⟨rfl, hb1⟩
             have x0 := (hb1.cell (p := ⟨wr.heap.size, 0, none⟩) (by simp)).trans (show _ = some (.int .i64 x) by simp)
             have x1 := (hb1.cell (p := ⟨wr.heap.size, 1, none⟩) (by simp)).trans (show _ = some (.int .i64 y) by simp)
             have hown := own_below (HO.out.alloc _) hb1
             have hs1 : wr.heap.size + 1 ≤ w1.heap.size := by have := hb1.size; simpa using this
             have HB1 := Lib.hid ((below_new HB.out _).trans (hb1.mono (by simp; omega)))
             clear hb1)
          | (at_builtin; refine wpList_append_own _ rfl _ _ 33 rfl W0.heap.size 35 i0 (.agg #[.int .i64 0, .int .i64 0]) 2 16 Try.underlying33 hi hz0 hz1 hz2 rfl (by decide) _ _ _ rfl (hown.alloc _) ⟨w1.heap.size, 0, none⟩ 1 1 [.int .i64 x, .int .i64 y] rfl rfl (cell_two_new _ _ _ _) (by simp [Value.oneCell']) (by unfold maxLen; omega) (by omega) (by simp; omega) ?_; intro v' w2 hown' hgrow hnil'
             have HB2 := Lib.hid ((below_new HB1.out _).grown hgrow (by simp; omega) (fun q e => (hown.lt q e).1))))
        go_roundw
        case rel => exact ⟨k + 1, by omega, by go_num, by rw [HST.out, List.length_append, ecells_snoc]; exact hown', HB2.out⟩
        case measure => simp [intOf]; omega
      | false =>
        rw [hpx] at hcall
        rw [List.filter_cons, if_neg (by simpa using hpx), List.filter_nil, List.append_nil] at hst
        have HST := Lib.hid hst
        have HC := Lib.hid hcall
        clear hst hcall
        have hsz := HB.out.size
        go_wp2_with (first
          | (go_at_fn g; refine HC.out.mono ?_; rintro e w1 ⟨rfl, hb1⟩
             have hown := own_below (HO.out.alloc _) hb1
             have HB1 := Lib.hid ((below_new HB.out _).trans (hb1.mono (by simp; omega)))
             clear hb1))
        go_roundw
        case rel => exact ⟨k + 1, by omega, by go_num, by rw [HST.out]; exact hown, HB1.out⟩
        case measure => simp [intOf]; omega
    · obtain rfl : k = es.length := by omega
      have HO2 := HO.out
      rw [List.take_length] at HO2
      obtain ⟨R', cap', rfl, hE, hF⟩ := EV.of_own_fresh HO2
      have HFR := Lib.hid hF
      have HE := Lib.hid hE
      clear hE HO HO2 hF
      go_wp2_with fail
      go_ret
      exact ⟨⟨R', cap', rfl, HE.out, HFR.out.mono HB0.out.size⟩, HB0.out.trans (HB.out.mono HB0.out.size)⟩

set_option maxRecDepth 100000 in
set_option maxHeartbeats 4000000 in
theorem entries17o (A B : Option Addr) (bs : List Bk) (m c d : Nat) (x : Lp) (A1 B1 : Option Addr) (c1 d1 : Nat) (w : World) (h : BV w A bs) (hl : bs.length ≤ 1099511627776) (hz : ∀ j, j < bs.length → (nthB bs j).nx.length ≤ 1099511627776) (hm : (edgK bs bs.length).length ≤ 1099511627776)
    (hx : x.bl.length ≤ 1099511627776) (h1 : IV w A1 x.bl) (h2 : IV w B1 x.la) :
    Calls Try.prog 17 #[.agg #[.slice A bs.length c, .slice B m d], .agg #[.int .i64 x.hd, .slice A1 x.bl.length c1, .slice B1 x.la.length d1, .int .i64 x.pa]] w fun e w' => (∃ R cap, e = .returned (.slice R ((edgK bs bs.length).filter fun q => entP x q.1 q.2).length cap) ∧ EV w' R ((edgK bs bs.length).filter fun q => entP x q.1 q.2) ∧ Fresh w.heap.size R) ∧ Below w.heap.size w w' := by
  have HS := Lib.hid h
  have HX := Lib.hid (fun W (hb : Below w.heap.size w W) q => BoxLp.new W x A1 B1 c1 d1 q (h1.step hb) (h2.step hb))
  have HE := Lib.hid (fun W lb h hp => edges31o 32 lb (enters_of Try.func32 (by kernel_rfl) rfl) (entP x) A B bs m c d W h hl hz hm hp)
  have HC := Lib.hid (entries32 x hx)
  clear h h1 h2 hz hm
  go_enter Try.func17, Try.ntmps17
  go_wp2_with (first
    | (go_at_call 31; refine (HE.out _ _ ((HS.out.alloc _).alloc _) (fun W a b hb => ?_)).mono ?_))
  · have hbx := HX.out (w.alloc (.cells #[.slice A bs.length c, .slice B m d] 25)) (below_new (Below.refl _ _) _) 30
    have := HC.out _ a b W (hbx.step hb)
    simpa using this
  · rintro e w1 ⟨⟨R, cap, rfl, hE, hF⟩, hB⟩
    have HFR := Lib.hid (hF.mono (show w.heap.size ≤ _ by simp; omega))
    have HB := Lib.hid hB
    have HE1 := Lib.hid hE
    clear hB hE hF
    go_wp2_with fail
    go_ret
    exact ⟨⟨R, cap, rfl, HE1.out, HFR.out⟩, (below_new (below_new (Below.refl _ _) _) _).trans (HB.out.mono (by simp; omega))⟩

theorem Bex.setC {n b : Nat} {W W' : World} (h : Bex n b W W') (i : Nat) (v : Value) : Bex n b W (W'.setCell ⟨b, i, none⟩ v) :=
  ⟨h.os, h.tape, h.output, by have := h.size; simp; omega, fun k hk hne => (Below.heap_setCell W' ⟨b, i, none⟩ v k hne).trans (h.block k hk hne)⟩
theorem Bex.cellN {n b : Nat} {W W' : World} (h : Bex n b W W') {p : Addr} (hp : p.block < n) (hne : p.block ≠ b) : W'.cell? p = W.cell? p := World.cell?_of_block (h.block p.block hp hne)
theorem Bex.alloc {n b : Nat} {W W' : World} (h : Bex n b W W') (hn : n ≤ W'.heap.size) (o : Obj) : Bex n b W (W'.alloc o) := h.then (below_new (Below.refl _ _) o) hn
section
variable {V W W' : World} {N pp pe pr n : Nat} {p e r : Nat → Nat}
theorem W3.setP' (h : W3 V N pp pe pr n p e r W) (i v : Nat) (x : Int) (hx : x = (v : Int)) : W3 V N pp pe pr n (updN p i v) e r (W.setCell ⟨pp, i, none⟩ (.int .i64 x)) := by subst hx; exact h.setP i v
theorem W3.setE' (h : W3 V N pp pe pr n p e r W) (i v : Nat) (x : Int) (hx : x = (v : Int)) : W3 V N pp pe pr n p (updN e i v) r (W.setCell ⟨pe, i, none⟩ (.int .i64 x)) := by subst hx; exact h.setE i v
theorem W3.setR' (h : W3 V N pp pe pr n p e r W) (i v : Nat) (x : Int) (hx : x = (v : Int)) : W3 V N pp pe pr n p e (updN r i v) (W.setCell ⟨pr, i, none⟩ (.int .i64 x)) := by subst hx; exact h.setR i v
theorem W3.congr {p' e' r' : Nat → Nat} (h : W3 V N pp pe pr n p e r W) (hp : ∀ i, p i = p' i) (he : ∀ i, e i = e' i) (hr : ∀ i, r i = r' i) : W3 V N pp pe pr n p' e' r' W := by
  obtain rfl : p = p' := funext hp
  obtain rfl : e = e' := funext he
  obtain rfl : r = r' := funext hr
  exact h
theorem W3.bv (h : W3 V V.heap.size pp pe pr n p e r W) {A : Option Addr} {xs : List Int} (hI : IV V A xs) : IV W A xs := hI.step h.bel
end
theorem updN_self (f : Nat → Nat) (k : Nat) (i : Nat) : updN f k (f k + 0) i = f i := by unfold updN; split <;> simp [*]
theorem updN_at (f : Nat → Nat) (k v : Nat) : updN f k v k = v := by simp [updN]
end Go.Proofs.Ytcbofikjcgdjmaa
