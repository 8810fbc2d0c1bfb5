/- The contract of Reach. -/
import Derived.Test.YtcbofikjcgdjmaaD1
import Derived.Test.YtcbofikjcgdjmaaB20
namespace Go.Proofs.Ytcbofikjcgdjmaa
set_option linter.unusedVariables false
set_option linter.unusedSimpArgs false
open Go.RowKit

def nxR (xss : List (List Int)) (j : Nat) : List Nat := (nthR xss j).map Int.toNat
/-- a row of marks in block q -/
def BR (W : World) (q n : Nat) (s : Nat → Bool) : Prop := W.rowIs q 4 n (fun t => .bool (s t))
theorem BR.put {W : World} {q n : Nat} {s : Nat → Bool} (h : BR W q n s) (t : Nat) : BR (W.setCell ⟨q, t, none⟩ (.bool true)) q n (upd s t) :=
  (World.rowIs.set h t _).congr fun j _ => by unfold upd; by_cases e : j = t <;> simp [e]
theorem BR.below {W W' : World} {q n : Nat} {s : Nat → Bool} (h : BR W q n s) (hb : Below W.heap.size W W') : BR W' q n s := rowIs_below h hb
theorem BR.congr {W : World} {q n : Nat} {s s' : Nat → Bool} (h : BR W q n s) (e : ∀ t, t < n → s t = s' t) : BR W q n s' := World.rowIs.congr h fun j hj => by rw [e j hj]
set_option maxRecDepth 100000 in
set_option maxHeartbeats 8000000 in
theorem reach28 (A : Option Addr) (xss : List (List Int)) (c n : Nat) (skip : Int) (w : World) (h : RV w A xss) (hn : xss.length = n) (h0 : n ≠ 0) (hl : n ≤ 1048576) (hz : ∀ j, j < n → (nthR xss j).length ≤ 1048576) (hin : ∀ j, j < n → ∀ t, t ∈ nthR xss j → 0 ≤ t ∧ t < n) :
    Calls Try.prog 28 #[.slice A n c, .int .i64 skip] w fun e w' => e = .returned (.slice (some ⟨w.heap.size, 0, none⟩) n n) ∧ BR w' w.heap.size n (reF (nxR xss) skip n) ∧ Below w.heap.size w w' := by
  have HS := Lib.hid h
  have HZ := Lib.hid hz
  have HIN := Lib.hid hin
  have HNL := Lib.hid hn
  have hmk := run_make_row' (P := Try.prog) 55 4 (.bool false) 1 Try.underlying55 info4 rfl .i64 .i64 n (by omega) (by omega)
  have HM := Lib.hid (World.rowIs_made w (.bool false) n 4)
  clear h hz hin hn
  have n0 : ((n : Int) == 0) = false := by simpa using h0
  by_cases hs : skip = 0
  · subst hs
    go_enter Try.func28, Try.ntmps28
    go_wp2_with fail
    go_ret
    exact ⟨rfl, World.rowIs.congr HM.out (fun i hi => by unfold reF; rw [if_pos (.inr rfl)]), below_new (Below.refl _ _) _⟩
  have s0 : (skip == 0) = false := by simpa using hs
  have hF : reF (nxR xss) skip n = reR (nxR xss) skip n n := by unfold reF; rw [if_neg (by omega)]
  have HFF := Lib.hid hF
  have hm0 : BR (w.alloc (.cells ((madeCells #[.bool false] n).setIfInBounds 0 (.bool true)) 4)) w.heap.size n (reR (nxR xss) skip n 0) := by
    have hsz : ((madeCells #[Value.bool false] n).setIfInBounds 0 (.bool true)).size = n := by simp [size_madeCells]
    have := World.rowIs_alloc w ((madeCells #[Value.bool false] n).setIfInBounds 0 (.bool true)) 4 (fun t => .bool (upd (fun _ => false) 0 t)) (fun i hi => by
      rw [hsz] at hi
      rw [Array.getElem?_setIfInBounds]
      by_cases e : i = 0
      · subst e; simp [upd, size_madeCells, hi]
      · have e' : ¬ 0 = i := fun h => e h.symm
        rw [if_neg e']
        simp [madeCells, hi, Nat.mod_one, upd, e])
    rw [hsz] at this
    exact this
  have HM0 := Lib.hid hm0
  have HB0 := Lib.hid (show Below w.heap.size w (w.alloc (.cells ((madeCells #[.bool false] n).setIfInBounds 0 (.bool true)) 4)) from below_new (Below.refl _ _) _)
  clear hm0
  have c0 := World.rowIs.cell HM.out (i := 0) (by omega)
  have f0 := World.rowIs.frozen HM.out 0
  have n1 : 0 < n := by omega
  clear hF hs h0
  go_enter Try.func28, Try.ntmps28
  go_wp2_with fail
  clear c0 f0
  obtain ⟨W0, hW0⟩ : ∃ W0, w.alloc (.cells ((madeCells #[.bool false] n).setIfInBounds 0 (.bool true)) 4) = W0 := ⟨_, rfl⟩
  rw [hW0] at HM0 HB0
  rw [hW0]
  clear hW0
  go_loopw [6] (fun i wr => ∃ r : Nat, r ≤ n ∧ i = .int .i64 r ∧ BR wr w.heap.size n (reR (nxR xss) skip n r) ∧ Below w.heap.size w wr) (fun i _ => n - (intOf i).toNat)
  case atStart => exact ⟨0, by omega, rfl, HM0.out, HB0.out⟩
  case round =>
    obtain ⟨r, hr, rfl, hM, hB⟩ := hrel
    rename World => W1
    have HM1 := Lib.hid hM
    have HB1 := Lib.hid hB
    clear hM hB
    by_cases hrt : r < n
    · go_wp2_with fail
      go_loopw [7] (fun i wr => ∃ j : Nat, j ≤ n ∧ i = .int .i64 j ∧ BR wr w.heap.size n (reI (nxR xss) skip (reR (nxR xss) skip n r) j) ∧ Below w.heap.size w wr) (fun i _ => n - (intOf i).toNat)
      case atStart => exact ⟨0, by omega, rfl, HM1.out, HB1.out⟩
      case round =>
        obtain ⟨j, hj, rfl, hM, hB⟩ := hrel
        rename World => W2
        have HM2 := Lib.hid hM
        have HB2 := Lib.hid hB
        clear hM hB
        by_cases hjt : j < n
        · obtain ⟨b, off, rfl, hbl, hc⟩ := HS.out (by have := HNL.out; omega)
          obtain ⟨A1, c1, g0, hA1⟩ := hc j (by have := HNL.out; omega)
          have hz1 := HZ.out j hjt
          have hin1 := HIN.out j hjt
          have hst : reI (nxR xss) skip (reR (nxR xss) skip n r) (j + 1) = reK (nxR xss j) skip j (reI (nxR xss) skip (reR (nxR xss) skip n r) j) (nxR xss j).length := rfl
          have hxl : (nxR xss j).length = (nthR xss j).length := by simp [nxR]
          have hxg : ∀ q, q < (nthR xss j).length → (nxR xss j).getD q 0 = ((nthR xss j).getD q 0).toNat := fun q hq => by
            rw [nxR, List.getD_eq_getElem?_getD, List.getElem?_map, List.getD_eq_getElem?_getD, List.getElem?_eq_getElem hq]; rfl
          obtain ⟨s0', hs0⟩ : ∃ s, reI (nxR xss) skip (reR (nxR xss) skip n r) j = s := ⟨_, rfl⟩
          rw [hs0] at hst HM2
          obtain ⟨ys, hys⟩ : ∃ ys, nxR xss j = ys := ⟨_, rfl⟩
          rw [hys] at hst hxl hxg
          obtain ⟨xs, hxs⟩ : ∃ xs, nthR xss j = xs := ⟨_, rfl⟩
          rw [hxs] at hz1 hin1 hxl hxg g0 hA1
          have HST := Lib.hid hst
          have HXL := Lib.hid hxl
          have HXG := Lib.hid hxg
          have HIN1 := Lib.hid hin1
          have HA := Lib.hid hA1
          have HG := Lib.hid g0
          clear hc hst hxl hxg hin1 hA1 g0 hs0 hys hxs
          go_wp2_with fail
          go_loopw [8] (fun i wr => ∃ k : Nat, k ≤ xs.length ∧ i = .int .i64 k ∧ BR wr w.heap.size n (reK ys skip j s0' k) ∧ Below w.heap.size w wr) (fun i _ => xs.length - (intOf i).toNat)
          case atStart => exact ⟨0, by omega, rfl, HM2.out, HB2.out⟩
          case round =>
            obtain ⟨k, hk, rfl, hM, hB⟩ := hrel
            rename World => W3
            have HM3 := Lib.hid hM
            have HB3 := Lib.hid hB
            have g0 := (hB.cell (p := ⟨b, off + j, none⟩) hbl).trans HG.out
            clear hM hB
            by_cases hkt : k < xs.length
            · obtain ⟨b1, o1, rfl, hb1, hcx⟩ := HA.out (by omega)
              have gx := (HB3.out.cell (p := ⟨b1, o1 + k, none⟩) hb1).trans (hcx k hkt)
              have hm := HIN1.out _ (getD_mem hkt)
              have hxg := HXG.out k hkt
              obtain ⟨x, hx⟩ : ∃ x, xs.getD k 0 = x := ⟨_, rfl⟩
              rw [hx] at gx hm hxg
              obtain ⟨t, rfl⟩ : ∃ t : Nat, x = (t : Int) := ⟨x.toNat, by omega⟩
              rw [Int.toNat_natCast] at hxg
              have htn : t < n := by omega
              have hsu : reK ys skip j s0' (k + 1) = if reK ys skip j s0' k j && decide ((ys.getD k 0 : Int) ≠ skip) then upd (reK ys skip j s0' k) (ys.getD k 0) else reK ys skip j s0' k := rfl
              rw [hxg] at hsu
              have cj := World.rowIs.cell HM3.out hjt
              have ct := World.rowIs.cell HM3.out htn
              have ft := World.rowIs.frozen HM3.out t
              obtain ⟨rj, hrj⟩ : ∃ rj, reK ys skip j s0' k j = rj := ⟨_, rfl⟩
              rw [hrj] at hsu cj
              obtain ⟨ut, hut⟩ : ∃ ut, Value.bool (reK ys skip j s0' k t) = ut := ⟨_, rfl⟩
              rw [hut] at ct
              have HSU := Lib.hid hsu
              clear hcx hx hxg hsu hrj hut
              cases rj with
              | false =>
                go_wp2_with fail
                go_roundw
                case rel => exact ⟨k + 1, by omega, by go_num, by rw [HSU.out]; exact HM3.out, HB3.out⟩
                case measure => simp [intOf]; omega
              | true =>
                by_cases e : (t : Int) = skip
                · have e1 : ((t : Int) != skip) = false := by simpa using e
                  have HE := Lib.hid e
                  clear e
                  go_wp2_with fail
                  go_roundw
                  case rel => exact ⟨k + 1, by omega, by go_num, by rw [HSU.out, if_neg (by simp [HE.out])]; exact HM3.out, HB3.out⟩
                  case measure => simp [intOf]; omega
                · have e1 : ((t : Int) != skip) = true := by simpa using e
                  have HE := Lib.hid e
                  clear e
                  go_wp2_with fail
                  go_roundw
                  case rel => exact ⟨k + 1, by omega, by go_num, by rw [HSU.out, if_pos (by simp [HE.out])]; exact HM3.out.put t, HB3.out.setCell (p := ⟨w.heap.size, t, none⟩) (Nat.le_refl _) _⟩
                  case measure => simp [intOf]; omega
            · obtain rfl : k = xs.length := by omega
              go_wp2_with fail
              go_roundw
              case rel => exact ⟨j + 1, by omega, by go_num, by rw [HST.out, HXL.out]; exact HM3.out, HB3.out⟩
              case measure => simp [intOf]; omega
        · obtain rfl : j = n := by omega
          go_wp2_with fail
          go_roundw
          case rel => exact ⟨r + 1, by omega, by go_num, HM2.out, HB2.out⟩
          case measure => simp [intOf]; omega
    · obtain rfl : r = n := by omega
      go_wp2_with fail
      go_ret
      exact ⟨rfl, by rw [HFF.out]; exact HM1.out, HB1.out⟩
end Go.Proofs.Ytcbofikjcgdjmaa
