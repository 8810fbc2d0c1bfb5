/- The contract of found: the loops of a small reducible graph; Find on any graph. -/
import Derived.Test.YtcbofikjcgdjmaaC1
import Derived.Test.YtcbofikjcgdjmaaG6
namespace Go.Proofs.Ytcbofikjcgdjmaa
set_option linter.unusedVariables false
set_option linter.unusedSimpArgs false
open Go.RowKit

/-- Find comes to an end on every graph -/
theorem find20_any (A B : Option Addr) (bs : List Bk) (pv : List (List Int)) (c d : Nat) (w : World) (h : BV w A bs) (h' : RV w B pv) (hz : GZ bs pv) :
    Calls Try.prog 20 #[.agg #[.slice A bs.length c, .slice B pv.length d]] w fun e w' => ∃ (L : Option Addr) (n cap : Nat) (q k : Int), e = .returned (.tuple #[.slice L n cap, .int .i64 q, .int .i64 k]) ∧
      (k = 0 ↔ validB bs pv = true ∧ Rdc bs) ∧ (k = 0 → q = -1 ∧ n = (lsF bs pv).length ∧ LV w' L (lsF bs pv)) ∧ Below w.heap.size w w' := by
  cases hv : validB bs pv with
  | false => exact (find20_no A B bs pv c d w h h' hz hv).mono fun e w' hh => ⟨none, 0, 0, -1, _, hh.1, ⟨fun e => by omega, fun e => by simp at e⟩, fun e => by omega, hh.2⟩
  | true =>
    obtain ⟨f, R, hR, hdom⟩ := tree_ok hv
    refine (find20_main A B bs pv c d w h h' hz hv f R hR).mono fun e w' hh => ?_
    obtain ⟨h1, h2, h3⟩ := hh
    cases hE : findE bs R with
    | some q => 
      refine ⟨none, 0, 0, q.2, 16, h1 q hE, ⟨fun e => by omega, fun e => ?_⟩, fun e => by omega, h3⟩
      have := (findE_none hv hdom).2 e.2
      rw [hE] at this; cases this
    | none =>
      obtain ⟨L, cap, he, hL⟩ := h2 hE
      exact ⟨L, _, cap, -1, 0, he, ⟨fun _ => ⟨rfl, (findE_none hv hdom).1 hE⟩, fun _ => rfl⟩, fun _ => ⟨rfl, rfl, hL⟩, h3⟩
theorem next21_any (A B : Option Addr) (bs : List Bk) (pv : List (List Int)) (c d : Nat) (w : World) (h : BV w A bs) (h' : RV w B pv) (hz : GZ bs pv) :
    Calls Try.prog 21 #[.agg #[.slice A bs.length c, .slice B pv.length d]] w fun e w' => ∃ (R : Option Addr) (n cap : Nat) (ok : Bool), e = .returned (.tuple #[.slice R n cap, .bool ok]) ∧
      (ok = true ↔ bs.length ≤ 14 ∧ validB bs pv = true) ∧ (ok = true → n = bs.length ∧ bs.length ≤ cap ∧ RV w' R (nxs bs bs.length)) ∧ Below w.heap.size w w' := by
  by_cases h14 : 14 < bs.length
  · exact (next21_no A B bs pv c d w h h' hz (.inl h14)).mono fun e w' hh => ⟨none, 0, 0, false, hh.1, ⟨(fun e => by cases e), fun e => by omega⟩, (fun e => by cases e), hh.2⟩
  cases hv : validB bs pv with
  | false => exact (next21_no A B bs pv c d w h h' hz (.inr hv)).mono fun e w' hh => ⟨none, 0, 0, false, hh.1, ⟨(fun e => by cases e), fun e => by cases e.2⟩, (fun e => by cases e), hh.2⟩
  | true =>
    refine (next21 A B bs pv c d w h h' hz (by omega) hv).mono fun e w' hh => ?_
    obtain ⟨⟨R, cap, he, hc, hR⟩, hb⟩ := hh
    exact ⟨R, _, cap, true, he, ⟨fun _ => ⟨by omega, rfl⟩, fun _ => rfl⟩, fun _ => ⟨rfl, hc, hR⟩, hb⟩
set_option maxRecDepth 100000 in
set_option maxHeartbeats 4000000 in
theorem found19 (A B : Option Addr) (bs : List Bk) (pv : List (List Int)) (c d : Nat) (w : World) (h : BV w A bs) (h' : RV w B pv) (hz : GZ bs pv) :
    Calls Try.prog 19 #[.agg #[.slice A bs.length c, .slice B pv.length d]] w fun e w' =>
      ((∃ R n cap L m cap', e = .returned (.tuple #[.slice R n cap, .slice L m cap', .bool false])) ∨
      (bs.length ≤ 14 ∧ validB bs pv = true ∧ Rdc bs ∧ ∃ R cap L cap', e = .returned (.tuple #[.slice R bs.length cap, .slice L (lsF bs pv).length cap', .bool true]) ∧ bs.length ≤ cap ∧ RV w' R (nxs bs bs.length) ∧ LV w' L (lsF bs pv))) ∧ Below w.heap.size w w' := by
  have HF := Lib.hid (fun W h h' => find20_any A B bs pv c d W h h' hz)
  have HS := Lib.hid h
  have HT := Lib.hid h'
  have HN := Lib.hid (fun W h h' => next21_any A B bs pv c d W h h' hz)
  clear h h' hz
  go_enter Try.func19, Try.ntmps19
  go_wp2_with (first
    | (go_at_call 21; refine (HN.out _ (HS.out.alloc _) (HT.out.alloc _)).mono ?_; rintro e W1 ⟨R, n, cap, ok, rfl, hok, hR, hb⟩
       have y0 := (hb.cell (p := ⟨w.heap.size, 0, none⟩) (by simp)).trans (cell_new' _ _ #[.slice A bs.length c, .slice B pv.length d] _ _ _ rfl rfl)
       have y1 := (hb.cell (p := ⟨w.heap.size, 1, none⟩) (by simp)).trans (cell_new' _ _ #[.slice A bs.length c, .slice B pv.length d] _ _ _ rfl rfl)
       have hg : w.heap.size < W1.heap.size := by have := hb.size; simp at this; omega
       have HOK := Lib.hid hok
       have HR := Lib.hid hR
       have HB1 := Lib.hid (below_through hb)
       clear hb hok hR)
    | (go_at_call 20; refine (HF.out _ (HS.out.step HB1.out) (HT.out.step HB1.out)).mono ?_; rintro e W2 ⟨L, m, cap', q, k, rfl, hk, hL, hb⟩
       have HK := Lib.hid hk
       have HL := Lib.hid hL
       have HB2 := Lib.hid hb
       clear hk hL hb))
  · go_ret3
    rename_i hh
    have hb := HB1.out.trans (HB2.out.mono HB1.out.size)
    by_cases hk : k = 0
    · have h1 := HOK.out.1 hh
      have h2 := HK.out.1 hk
      obtain ⟨rfl, hcap, hRV⟩ := HR.out hh
      obtain ⟨_, rfl, hLV⟩ := HL.out hk
      subst hk
      exact ⟨.inr ⟨h1.1, h1.2, h2.2, R, cap, L, cap', rfl, hcap, hRV.step HB2.out, hLV⟩, hb⟩
    · have : (k == 0) = false := by simpa using hk
      refine ⟨.inl ⟨R, n, cap, L, m, cap', ?_⟩, hb⟩
      rw [← this]
      rfl
  · go_ret3
    exact ⟨.inl ⟨R, n, cap, L, m, cap', rfl⟩, HB1.out.trans (HB2.out.mono HB1.out.size)⟩
end Go.Proofs.Ytcbofikjcgdjmaa
