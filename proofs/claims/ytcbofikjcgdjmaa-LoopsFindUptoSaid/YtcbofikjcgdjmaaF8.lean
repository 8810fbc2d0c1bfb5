/- The contract of the reference's Contains, with the world as it is afterwards. -/
import Derived.Test.YtcbofikjcgdjmaaF6
import Derived.Shelf.SlSortCmp.QuietGrown
namespace Go.Proofs.Ytcbofikjcgdjmaa
set_option linter.unusedVariables false
set_option linter.unusedSimpArgs false
open Go.RowKit Go.Sort

theorem drewN_grow (w : World) (os : Array Obj) (n : Nat) : (grow w os).drewN n = grow (w.drewN n) os := rfl
theorem grow_below (w : World) (n : Nat) (os : Array Obj) : Below w.heap.size w (grow (w.drewN n) os) :=
  ⟨rfl, rfl, rfl, by rw [size_grow]; exact Nat.le_add_right _ _, fun k hk => heap_grow_old (w.drewN n) os hk⟩
set_option maxRecDepth 100000 in
set_option maxHeartbeats 4000000 in
theorem contains44g (A1 A2 B1 B2 : Option Addr) (c1 c2 d1 d2 n1 n2 : Nat) (p1 p2 hd1 hd2 : Int) (bl1 bl2 : List Int) (w : World) (h1 : IV w A1 bl1) (h2 : IV w A2 bl2) (hz1 : bl1.length ≤ 1099511627776) (hz2 : bl2.length ≤ 1099511627776) :
    Calls Try.prog 44 #[.agg #[.int .i64 hd1, .slice A1 bl1.length c1, .slice B1 n1 d1, .int .i64 p1], .agg #[.int .i64 hd2, .slice A2 bl2.length c2, .slice B2 n2 d2, .int .i64 p2]] w fun e w' =>
      e = .returned (.bool (bl2.all (fun b => bl1.contains b) && !decide (hd1 = hd2))) ∧ ∃ q os', w' = grow (w.drewN q) os' := by
  have HS := Lib.hid h1
  have HT := Lib.hid h2
  have HP := Lib.hid (fun x W h => position41 A1 bl1 c1 x W h hz1)
  have HI := Lib.hid (fun x => posOf_iff bl1 x)
  obtain ⟨W0, hW0⟩ : ∃ W0, W0 = ((w.alloc (.cells #[.int .i64 hd1, .slice A1 bl1.length c1, .slice B1 n1 d1, .int .i64 p1] 50)).alloc (.cells #[.int .i64 hd2, .slice A2 bl2.length c2, .slice B2 n2 d2, .int .i64 p2] 50)) := ⟨_, rfl⟩
  have HB0 := Lib.hid (show Below w.heap.size w W0 by rw [hW0]; exact below_new (below_new (Below.refl _ _) _) _)
  have z0 : W0.cell? ⟨w.heap.size, 0, none⟩ = some (.int .i64 hd1) := by rw [hW0]; simp
  have z1 : W0.cell? ⟨w.heap.size, 1, none⟩ = some (.slice A1 bl1.length c1) := by rw [hW0]; simp
  have y0 : W0.cell? ⟨w.heap.size + 1, 0, none⟩ = some (.int .i64 hd2) := by rw [hW0]; simp
  have y1 : W0.cell? ⟨w.heap.size + 1, 1, none⟩ = some (.slice A2 bl2.length c2) := by rw [hW0]; simp
  have Z := Lib.hid (show ∀ W, Below (w.heap.size + 2) W0 W → W.cell? ⟨w.heap.size, 0, none⟩ = some (.int .i64 hd1) ∧ W.cell? ⟨w.heap.size, 1, none⟩ = some (.slice A1 bl1.length c1) ∧ W.cell? ⟨w.heap.size + 1, 0, none⟩ = some (.int .i64 hd2) ∧ W.cell? ⟨w.heap.size + 1, 1, none⟩ = some (.slice A2 bl2.length c2) from fun W hb =>
    ⟨(hb.cell (p := ⟨w.heap.size, 0, none⟩) (by show w.heap.size < w.heap.size + 2; omega)).trans z0, (hb.cell (p := ⟨w.heap.size, 1, none⟩) (by show w.heap.size < w.heap.size + 2; omega)).trans z1, (hb.cell (p := ⟨w.heap.size + 1, 0, none⟩) (by show w.heap.size + 1 < w.heap.size + 2; omega)).trans y0, (hb.cell (p := ⟨w.heap.size + 1, 1, none⟩) (by show w.heap.size + 1 < w.heap.size + 2; omega)).trans y1⟩)
  have HZ0 := Lib.hid (show W0.heap.size = w.heap.size + 2 by rw [hW0]; simp)
  have HW := Lib.hid hW0
  clear h1 h2 z0 z1 y0 y1 hW0
  go_enter Try.func44, Try.ntmps44
  go_wp2_with fail
  go_loopw [5] (fun i wr => ∃ k : Nat, k ≤ bl2.length ∧ i = .int .i64 k ∧ (bl2.take k).all (fun b => bl1.contains b) = true ∧ ∃ m, wr = W0.drewN m) (fun i _ => bl2.length - (intOf i).toNat)
  case atStart => exact ⟨0, by omega, rfl, rfl, 0, HW.out.symm⟩
  case round =>
    obtain ⟨k, hk, rfl, hall, m, hWr⟩ := hrel
    have hB : Below (w.heap.size + 2) W0 _ := (below_drewN (Below.refl _ W0) m)
    rw [← hWr] at hB
    have HWR := Lib.hid hWr
    clear hWr
    have HALL := Lib.hid hall
    have HB := Lib.hid hB
    obtain ⟨z0, z1, y0, y1⟩ := Z.out _ hB
    clear hall hB
    by_cases hkt : k < bl2.length
    · obtain ⟨b1, o1, rfl, hb1, hcx⟩ := HT.out (by omega)
      have gx := (((HB0.out.trans (HB.out.mono (by omega)))).cell (p := ⟨b1, o1 + k, none⟩) hb1).trans (hcx k hkt)
      have htk : bl2.take (k + 1) = bl2.take k ++ [bl2.getD k 0] := by rw [List.take_add_one, List.getElem?_eq_getElem hkt]; simp [List.getD_eq_getElem?_getD, List.getElem?_eq_getElem hkt]
      have hmem : bl2.getD k 0 ∈ bl2 := getD_mem hkt
      obtain ⟨x, hx⟩ : ∃ x, bl2.getD k 0 = x := ⟨_, rfl⟩
      rw [hx] at gx htk hmem
      have HTK := Lib.hid htk
      have HM := Lib.hid hmem
      have hix := HI.out x
      have HPx := Lib.hid (fun W h => HP.out x W h)
      obtain ⟨p, hp⟩ : ∃ p, posOf bl1 x = p := ⟨_, rfl⟩
      rw [hp] at hix
      simp only [hp] at HPx
      have HIX := Lib.hid hix
      clear hcx hx htk hmem hix hp
      by_cases e : p < 0
      · have q1 : decide (p < 0) = true := decide_eq_true e
        have HE := Lib.hid (show ¬ x ∈ bl1 from fun h => by have := HIX.out.2 h; omega)
        clear e
        go_wp2_with fail
        go_quiet (first | (go_at_call 41; refine Calls.quiet_of_same (HPx.out _ ?_); exact (HS.out.step (HB0.out.trans (HB.out.mono (by omega)))).drewN _))
        go_wp2_with fail
        go_ret
        refine ⟨ret_b ?_, ⟨_, _, by rw [HWR.out, HW.out, alloc_eq_grow, alloc_eq_grow, grow_grow, World.drewN_drewN, drewN_grow]⟩⟩
        symm
        rw [Bool.and_eq_false_iff]
        left
        rw [List.all_eq_false]
        exact ⟨x, HM.out, by simpa using HE.out⟩
      · have q1 : decide (p < 0) = false := decide_eq_false e
        have HE := Lib.hid (show x ∈ bl1 from HIX.out.1 (by omega))
        clear e
        go_wp2_with fail
        go_quiet (first | (go_at_call 41; refine Calls.quiet_of_same (HPx.out _ ?_); exact (HS.out.step (HB0.out.trans (HB.out.mono (by omega)))).drewN _))
        go_wp2_with fail
        go_roundw
        case rel => exact ⟨k + 1, by omega, by go_num, by rw [HTK.out, List.all_append, HALL.out]; simp [HE.out], ⟨_, by rw [HWR.out, World.drewN_drewN]⟩⟩
        case measure => simp [intOf]; omega
    · obtain rfl : k = bl2.length := by omega
      go_wp2_with fail
      go_ret
      refine ⟨ret_b ?_, ⟨_, _, by rw [HWR.out, HW.out, alloc_eq_grow, alloc_eq_grow, grow_grow, drewN_grow]⟩⟩
      have := HALL.out
      rw [List.take_length] at this
      rw [this]
      by_cases e : hd1 = hd2 <;> simp [e, bne]
end Go.Proofs.Ytcbofikjcgdjmaa
