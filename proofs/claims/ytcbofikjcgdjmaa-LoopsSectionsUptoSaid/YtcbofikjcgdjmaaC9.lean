/- The walk of LoopsSections. -/
import Derived.Test.YtcbofikjcgdjmaaC8
import Derived.Test.YtcbofikjcgdjmaaC2
import Derived.Test.YtcbofikjcgdjmaaC0
namespace Go.Proofs.Ytcbofikjcgdjmaa
set_option linter.unusedVariables false
set_option linter.unusedSimpArgs false
open Go.RowKit Go.Maps

theorem edgK_len {bs : List Bk} (h : ∀ j, j < bs.length → (nthB bs j).nx.length ≤ 2) : ∀ k, k ≤ bs.length → (edgK bs k).length ≤ 2 * k
  | 0, _ => by simp [edgK]
  | k + 1, hk => by
    have := edgK_len h k (by omega)
    have := h k (by omega)
    rw [edgK, List.length_append, List.length_map]; omega
theorem fB_empty : (fun _ => none : Int → Option Value) = fB (fun _ => false) := by
  funext y; unfold fB; simp
def remB (s : Nat → Bool) (b : Nat) : Nat → Bool := fun t => if t = b then false else s t
theorem fB_rem (s : Nat → Bool) (b : Nat) : (fun y => if y = (b : Int) then none else fB s y) = fB (remB s b) := by
  funext y
  unfold fB remB
  by_cases e : y = (b : Int)
  · subst e; simp
  · by_cases h0 : 0 ≤ y
    · have h1 : ¬ y.toNat = b := by omega
      simp [e, h0, h1]
    · simp [e, h0]
/-- the headers of the first k loops, and b -/
def sKs (ls : List Lp) (b : Nat) : Nat → Nat → Bool
  | 0 => upd (fun _ => false) b
  | k + 1 => upd (sKs ls b k) (nthL ls k).hd.toNat
def dKs (ks : List Lp) (s : Nat → Bool) : Nat → Nat → Bool
  | 0 => s
  | k + 1 => remB (dKs ks s k) (nthL ks k).hd.toNat
theorem sKs_iff (ls : List Lp) (b t : Nat) : ∀ k, sKs ls b k t = true ↔ t = b ∨ ∃ i, i < k ∧ (nthL ls i).hd.toNat = t
  | 0 => by
    show upd (fun _ => false) b t = true ↔ _
    unfold upd
    by_cases e : t = b <;> simp [e]
  | k + 1 => by
    show upd (sKs ls b k) (nthL ls k).hd.toNat t = true ↔ _
    have ih := sKs_iff ls b t k
    unfold upd
    by_cases e : t = (nthL ls k).hd.toNat
    · rw [if_pos e]
      simp only [true_iff]
      exact .inr ⟨k, by omega, e.symm⟩
    · rw [if_neg e, ih]
      constructor
      · rintro (h | ⟨i, hi, h⟩)
        · exact .inl h
        · exact .inr ⟨i, by omega, h⟩
      · rintro (h | ⟨i, hi, h⟩)
        · exact .inl h
        · refine .inr ⟨i, ?_, h⟩
          by_cases e' : i = k
          · subst e'; exact absurd h.symm e
          · omega
theorem dKs_iff (ks : List Lp) (s : Nat → Bool) (t : Nat) : ∀ k, dKs ks s k t = true ↔ s t = true ∧ ∀ i, i < k → (nthL ks i).hd.toNat ≠ t
  | 0 => by simp [dKs]
  | k + 1 => by
    show remB (dKs ks s k) (nthL ks k).hd.toNat t = true ↔ _
    have ih := dKs_iff ks s t k
    unfold remB
    by_cases e : t = (nthL ks k).hd.toNat
    · rw [if_pos e]
      constructor
      · intro h; cases h
      · intro h; exact absurd e.symm (h.2 k (by omega))
    · rw [if_neg e, ih]
      constructor
      · rintro ⟨h1, h2⟩
        refine ⟨h1, fun i hi => ?_⟩
        by_cases e' : i = k
        · subst e'; exact fun h => e h.symm
        · exact h2 i (by omega)
      · rintro ⟨h1, h2⟩
        exact ⟨h1, fun i hi => h2 i (by omega)⟩
theorem sec_has {ls ks : List Lp} {a b : Nat} (S : SecF ls ks a b) {j : Nat} (hj : j < ks.length) : dKs ks (sKs ls b ls.length) j (nthL ks j).hd.toNat = true := by
  rw [dKs_iff, sKs_iff]
  obtain ⟨h, e, _⟩ := S.natk j hj
  refine ⟨?_, fun i hi he => ?_⟩
  · rcases S.old j hj with h1 | ⟨i, hi, h1⟩
    · exact .inl (by omega)
    · exact .inr ⟨i, hi, by rw [h1]⟩
  · obtain ⟨h', e', _⟩ := S.natk i (by omega)
    have := S.inj i j (by omega) hj (by omega)
    omega
theorem sec_end {ls ks : List Lp} {a b : Nat} (S : SecF ls ks a b) (t : Nat) : dKs ks (sKs ls b ls.length) ks.length t = false := by
  rw [← Bool.not_eq_true, dKs_iff, sKs_iff]
  rintro ⟨h1, h2⟩
  rcases h1 with h | ⟨i, hi, h⟩
  · obtain ⟨j, hj, e⟩ := S.one
    exact h2 j hj (by omega)
  · obtain ⟨j, hj, e⟩ := S.all i hi
    exact h2 j hj (by rw [e]; exact h)

set_option maxRecDepth 100000 in
set_option maxHeartbeats 16000000 in
theorem sections10 (A B : Option Addr) (bs : List Bk) (pv : List (List Int)) (c d : Nat) (x y : Int) (w : World) (h : BV w A bs) (h' : RV w B pv) (hz : GZ bs pv) (hx : 0 ≤ x ∧ x < 256) (hy : 0 ≤ y ∧ y < 256) :
    Calls Try.prog 10 #[.agg #[.slice A bs.length c, .slice B pv.length d], .int .u8 x, .int .u8 y] w fun e w' => e = .returned (.bool true) ∧ Below w.heap.size w w' := by
  have HF := Lib.hid (fun W h h' => found19 A B bs pv c d W h h' hz)
  have HS := Lib.hid h
  have HT := Lib.hid h'
  have HZ := Lib.hid hz
  clear h h' hz
  go_enter Try.func10, Try.ntmps10
  go_wp2_with (first
    | (go_at_call 11; refine (awake11 _).mono ?_; rintro e W1 ⟨rfl, hb⟩
       have y0 := (hb.cell (p := ⟨w.heap.size, 0, none⟩) (by simp)).trans (cell_new' _ _ #[.slice A bs.length c, .slice B pv.length d] _ _ _ rfl rfl)
       have y1 := (hb.cell (p := ⟨w.heap.size, 1, none⟩) (by simp)).trans (cell_new' _ _ #[.slice A bs.length c, .slice B pv.length d] _ _ _ rfl rfl)
       have hg : w.heap.size < W1.heap.size := by have := hb.size; simp at this; omega
       have HB1 := Lib.hid (below_through hb)
       clear hb))
  refine (HF.out _ (HS.out.step HB1.out) (HT.out.step HB1.out)).mono ?_
  rintro e W2 ⟨hor, hb⟩
  rcases hor with ⟨R, n, cap, L, m, cap', rfl⟩ | ⟨h14, hv, hRd, R, cap, L, cap', rfl, hcap, hRV, hLV⟩
  · have HB2 := Lib.hid hb
    clear hb y0 y1 hg
    go_wp2_with fail
    go_ret
    exact ⟨rfl, HB1.out.trans (HB2.out.mono HB1.out.size)⟩
  have hne := (validB_okB hv).1
  have O := ord_of hv
  obtain ⟨f, idf, htree, hdom⟩ := tree_ok hv
  have HTR := Lib.hid (fun W h h' => tree25 A B bs pv c d W h h' HZ.out hv f idf htree)
  have HOR := Lib.hid (fun W h h' => order26 A B bs pv c d W h h' HZ.out hv)
  have hol := ord_len hv
  obtain ⟨idl, hidl⟩ : ∃ idl, (List.range bs.length).map idf = idl := ⟨_, rfl⟩
  have hil : idl.length = bs.length := by rw [← hidl]; simp
  rw [hidl] at HTR hdom
  have hoc := ord_contains hv
  obtain ⟨ol, hol'⟩ : ∃ ol, (ordN bs).map Int.ofNat = ol := ⟨_, rfl⟩
  have hon : (ordN bs).length = ol.length := by rw [← hol']; simp
  rw [hol'] at HOR hoc
  rw [hon] at HOR hol
  -- the two blocks
  have hn0 : ((bs.length : Int) == 0) = false := by simpa using hne
  have hcx : IntKind.i64.wrap x = x := Go.IntWalk.i64_in _ (by omega)
  have hcy : IntKind.i64.wrap y = y := Go.IntWalk.i64_in _ (by omega)
  obtain ⟨a, ha⟩ : ∃ a : Nat, Int.tmod x (bs.length : Int) = (a : Int) := ⟨(x % (bs.length : Int)).toNat, by
    rw [Int.tmod_eq_emod_of_nonneg hx.1, Int.toNat_of_nonneg (Int.emod_nonneg _ (by omega))]⟩
  have han : a < bs.length := by
    have h1 := Int.emod_lt_of_pos x (show (0 : Int) < (bs.length : Int) by omega)
    rw [Int.tmod_eq_emod_of_nonneg hx.1] at ha
    omega
  obtain ⟨b, hb'⟩ : ∃ b : Nat, Int.tmod y (bs.length : Int) = (b : Int) := ⟨(y % (bs.length : Int)).toNat, by
    rw [Int.tmod_eq_emod_of_nonneg hy.1, Int.toNat_of_nonneg (Int.emod_nonneg _ (by omega))]⟩
  have hbn : b < bs.length := by
    have h1 := Int.emod_lt_of_pos y (show (0 : Int) < (bs.length : Int) by omega)
    rw [Int.tmod_eq_emod_of_nonneg hy.1] at hb'
    omega
  have hwa : IntKind.i64.wrap (a : Int) = (a : Int) := Go.IntWalk.i64_in _ (by omega)
  have hwb : IntKind.i64.wrap (b : Int) = (b : Int) := Go.IntWalk.i64_in _ (by omega)
  have HIN1 := Lib.hid (fun W E cE (h : IV W E ol) => in12 E ol cE (a : Int) W h (by omega))
  have HDO := Lib.hid (fun D cD W h => (by have := dominates27 D idl cD (b : Int) (a : Int) W h (by omega); rw [hil] at this; exact this : Calls Try.prog 27 #[.slice D bs.length cD, .int .i64 b, .int .i64 a] W fun e w' => e = .returned (.bool (domB idl b a)) ∧ Below W.heap.size W w'))
  have hb2 := hb
  have y0' := (hb.cell (p := ⟨w.heap.size, 0, none⟩) hg).trans y0
  have y1' := (hb.cell (p := ⟨w.heap.size, 1, none⟩) hg).trans y1
  have hg' : w.heap.size < W2.heap.size := Nat.lt_of_lt_of_le hg hb.size
  have HB2 := Lib.hid hb
  have HV := Lib.hid hv
  have HRD := Lib.hid hRd
  have HRV := Lib.hid hRV
  have HLV := Lib.hid hLV
  have HOC := Lib.hid (hoc a)
  have HDM := Lib.hid (hdom b a hbn han)
  have HO := Lib.hid O
  have HH14 := Lib.hid h14
  clear hb hb2 y0 y1 hg hv hRd hRV hLV htree hdom hoc O hol' hon hidl hil h14 hcap HF hne
  go_wp2_with fail
  go_quiet (fail)
  clear ha hb' hwa hwb hcx hcy
  obtain ⟨rb, ro, rfl, hrb, hrc⟩ := HRV.out (by rw [nxs_length]; omega)
  obtain ⟨A2, c2, r0, hA2⟩ := hrc a (by rw [nxs_length]; exact han)
  rw [nxs_at bs han] at r0 hA2
  have hnz := valid_nx HV.out a han
  have HIN2 := Lib.hid (fun W h => in12 A2 (nthB bs a).nx c2 (b : Int) W h (by omega))
  obtain ⟨r1, hr1⟩ : ∃ r, ol.contains (a : Int) = r := ⟨_, rfl⟩
  obtain ⟨r2, hr2⟩ : ∃ r, domB idl b a = r := ⟨_, rfl⟩
  obtain ⟨r3, hr3⟩ : ∃ r, (nthB bs a).nx.contains (b : Int) = r := ⟨_, rfl⟩
  simp only [hr1] at HIN1 HOC
  simp only [hr2] at HDO HDM
  simp only [hr3] at HIN2
  have HR3 := Lib.hid hr3
  obtain ⟨nx, hnx⟩ : ∃ nx, (nthB bs a).nx = nx := ⟨_, rfl⟩
  have HNXE := Lib.hid hnx
  rw [hnx] at r0 hA2 hnz HIN2 HR3
  have HNX := Lib.hid hA2
  clear hr1 hr2 hr3 hrc hA2 hnx
  cases r1 with
  | false =>
    go_wp2_with (first
      | (go_at_call 25; refine (HTR.out _ (((HS.out.step HB1.out).step HB2.out).step (below_drewN (Below.refl _ _) _)) (((HT.out.step HB1.out).step HB2.out).step (below_drewN (Below.refl _ _) _))).mono ?_
         rintro e W3 ⟨⟨D, cD, rfl, hD⟩, hb⟩
         have HD := Lib.hid hD
         have HB3 := Lib.hid (show Below W2.heap.size W2 W3 from (below_drewN (Below.refl _ _) _).trans hb)
         have z0 := (HB3.out.cell (p := ⟨w.heap.size, 0, none⟩) hg').trans y0'
         have z1 := (HB3.out.cell (p := ⟨w.heap.size, 1, none⟩) hg').trans y1'
         clear hD hb y0' y1' HTR)
      | (go_at_call 26; refine (HOR.out _ (((HS.out.step HB1.out).step HB2.out).step HB3.out) (((HT.out.step HB1.out).step HB2.out).step HB3.out)).mono ?_
         rintro e W4 ⟨⟨E, cE, rfl, hcE, hE⟩, hb⟩
         have HE := Lib.hid hE
         have HB4 := Lib.hid (HB3.out.trans (hb.mono HB3.out.size))
         have HD4 := Lib.hid (HD.out.step hb)
         clear hE hb hcE z0 z1 HOR)
      | (go_at_call 12; refine (HIN1.out _ _ _ HE.out).mono ?_; rintro e w1 ⟨rfl, hw1⟩; subst w1; clear HIN1))
    go_ret
    exact ⟨rfl, (HB1.out.trans (HB2.out.mono HB1.out.size)).trans (HB4.out.mono (Nat.le_trans HB1.out.size HB2.out.size))⟩
  | true =>
    cases r2 with
    | false =>
      go_wp2_with (first
        | (go_at_call 25; refine (HTR.out _ (((HS.out.step HB1.out).step HB2.out).step (below_drewN (Below.refl _ _) _)) (((HT.out.step HB1.out).step HB2.out).step (below_drewN (Below.refl _ _) _))).mono ?_
           rintro e W3 ⟨⟨D, cD, rfl, hD⟩, hb⟩
           have HD := Lib.hid hD
           have HB3 := Lib.hid (show Below W2.heap.size W2 W3 from (below_drewN (Below.refl _ _) _).trans hb)
           have z0 := (HB3.out.cell (p := ⟨w.heap.size, 0, none⟩) hg').trans y0'
           have z1 := (HB3.out.cell (p := ⟨w.heap.size, 1, none⟩) hg').trans y1'
           clear hD hb y0' y1' HTR)
        | (go_at_call 26; refine (HOR.out _ (((HS.out.step HB1.out).step HB2.out).step HB3.out) (((HT.out.step HB1.out).step HB2.out).step HB3.out)).mono ?_
           rintro e W4 ⟨⟨E, cE, rfl, hcE, hE⟩, hb⟩
           have HE := Lib.hid hE
           have HB4 := Lib.hid (HB3.out.trans (hb.mono HB3.out.size))
           have HD4 := Lib.hid (HD.out.step hb)
           clear hE hb hcE z0 z1 HOR)
        | (go_at_call 12; refine (HIN1.out _ _ _ HE.out).mono ?_; rintro e w1 ⟨rfl, hw1⟩; subst w1; clear HIN1)
        | (go_at_call 27; refine (HDO.out _ _ _ HD4.out).mono ?_; rintro e W5 ⟨rfl, hb⟩
           have HB5 := Lib.hid (HB4.out.trans (hb.mono HB4.out.size))
           have q0 := (HB5.out.cell (p := ⟨rb, ro + a, none⟩) hrb).trans r0
           clear hb HDO))
      go_ret
      exact ⟨rfl, (HB1.out.trans (HB2.out.mono HB1.out.size)).trans (HB5.out.mono (Nat.le_trans HB1.out.size HB2.out.size))⟩
    | true =>
      cases r3 with
      | true =>
        go_wp2_with (first
          | (go_at_call 25; refine (HTR.out _ (((HS.out.step HB1.out).step HB2.out).step (below_drewN (Below.refl _ _) _)) (((HT.out.step HB1.out).step HB2.out).step (below_drewN (Below.refl _ _) _))).mono ?_
             rintro e W3 ⟨⟨D, cD, rfl, hD⟩, hb⟩
             have HD := Lib.hid hD
             have HB3 := Lib.hid (show Below W2.heap.size W2 W3 from (below_drewN (Below.refl _ _) _).trans hb)
             have z0 := (HB3.out.cell (p := ⟨w.heap.size, 0, none⟩) hg').trans y0'
             have z1 := (HB3.out.cell (p := ⟨w.heap.size, 1, none⟩) hg').trans y1'
             clear hD hb y0' y1' HTR)
          | (go_at_call 26; refine (HOR.out _ (((HS.out.step HB1.out).step HB2.out).step HB3.out) (((HT.out.step HB1.out).step HB2.out).step HB3.out)).mono ?_
             rintro e W4 ⟨⟨E, cE, rfl, hcE, hE⟩, hb⟩
             have HE := Lib.hid hE
             have HB4 := Lib.hid (HB3.out.trans (hb.mono HB3.out.size))
             have HD4 := Lib.hid (HD.out.step hb)
             clear hE hb hcE z0 z1 HOR)
          | (go_at_call 12; refine (HIN1.out _ _ _ HE.out).mono ?_; rintro e w1 ⟨rfl, hw1⟩; subst w1; clear HIN1)
          | (go_at_call 27; refine (HDO.out _ _ _ HD4.out).mono ?_; rintro e W5 ⟨rfl, hb⟩
             have HB5 := Lib.hid (HB4.out.trans (hb.mono HB4.out.size))
             have q0 := (HB5.out.cell (p := ⟨rb, ro + a, none⟩) hrb).trans r0
             clear hb HDO)
          | (go_at_call 12; refine (HIN2.out _ (HNX.out.step HB5.out)).mono ?_; rintro e w1 ⟨rfl, hw1⟩; subst w1; clear HIN2))
        go_ret
        exact ⟨rfl, (HB1.out.trans (HB2.out.mono HB1.out.size)).trans (HB5.out.mono (Nat.le_trans HB1.out.size HB2.out.size))⟩
      | false =>
        by_cases hone : 1 < nx.length
        · have p1 : decide ((1 : Int) < (nx.length : Int)) = true := decide_eq_true (by omega)
          clear hone
          go_wp2_with (first
            | (go_at_call 25; refine (HTR.out _ (((HS.out.step HB1.out).step HB2.out).step (below_drewN (Below.refl _ _) _)) (((HT.out.step HB1.out).step HB2.out).step (below_drewN (Below.refl _ _) _))).mono ?_
               rintro e W3 ⟨⟨D, cD, rfl, hD⟩, hb⟩
               have HD := Lib.hid hD
               have HB3 := Lib.hid (show Below W2.heap.size W2 W3 from (below_drewN (Below.refl _ _) _).trans hb)
               have z0 := (HB3.out.cell (p := ⟨w.heap.size, 0, none⟩) hg').trans y0'
               have z1 := (HB3.out.cell (p := ⟨w.heap.size, 1, none⟩) hg').trans y1'
               clear hD hb y0' y1' HTR)
            | (go_at_call 26; refine (HOR.out _ (((HS.out.step HB1.out).step HB2.out).step HB3.out) (((HT.out.step HB1.out).step HB2.out).step HB3.out)).mono ?_
               rintro e W4 ⟨⟨E, cE, rfl, hcE, hE⟩, hb⟩
               have HE := Lib.hid hE
               have HB4 := Lib.hid (HB3.out.trans (hb.mono HB3.out.size))
               have HD4 := Lib.hid (HD.out.step hb)
               clear hE hb hcE z0 z1 HOR)
            | (go_at_call 12; refine (HIN1.out _ _ _ HE.out).mono ?_; rintro e w1 ⟨rfl, hw1⟩; subst w1; clear HIN1)
            | (go_at_call 27; refine (HDO.out _ _ _ HD4.out).mono ?_; rintro e W5 ⟨rfl, hb⟩
               have HB5 := Lib.hid (HB4.out.trans (hb.mono HB4.out.size))
               have q0 := (HB5.out.cell (p := ⟨rb, ro + a, none⟩) hrb).trans r0
               clear hb HDO)
            | (go_at_call 12; refine (HIN2.out _ (HNX.out.step HB5.out)).mono ?_; rintro e w1 ⟨rfl, hw1⟩; subst w1; clear HIN2))
          go_ret
          exact ⟨rfl, (HB1.out.trans (HB2.out.mono HB1.out.size)).trans (HB5.out.mono (Nat.le_trans HB1.out.size HB2.out.size))⟩
        have p1 : decide ((1 : Int) < (nx.length : Int)) = false := decide_eq_false (by omega)
        have hE : NewE bs a b := ⟨(HOC.out).1 rfl, hbn, by
          rcases HDM.out.1 rfl with e | e
          · rw [e]; exact Av.self
          · exact e.2, by
          have := HR3.out
          rw [← Bool.not_eq_true, List.contains_iff_mem] at this
          rw [HNXE.out]; exact this, by rw [HNXE.out]; omega⟩
        have HE1 := Lib.hid hE
        have HMM := Lib.hid (fun W h => more_made W bs a b bs.length cap rb ro rfl HH14.out han h (by rw [HNXE.out]; omega))
        rw [HNXE.out] at HMM
        clear hone hE
        go_wp2_with (first
          | (go_at_call 25; refine (HTR.out _ (((HS.out.step HB1.out).step HB2.out).step (below_drewN (Below.refl _ _) _)) (((HT.out.step HB1.out).step HB2.out).step (below_drewN (Below.refl _ _) _))).mono ?_
             rintro e W3 ⟨⟨D, cD, rfl, hD⟩, hb⟩
             have HD := Lib.hid hD
             have HB3 := Lib.hid (show Below W2.heap.size W2 W3 from (below_drewN (Below.refl _ _) _).trans hb)
             have z0 := (HB3.out.cell (p := ⟨w.heap.size, 0, none⟩) hg').trans y0'
             have z1 := (HB3.out.cell (p := ⟨w.heap.size, 1, none⟩) hg').trans y1'
             clear hD hb y0' y1' HTR)
          | (go_at_call 26; refine (HOR.out _ (((HS.out.step HB1.out).step HB2.out).step HB3.out) (((HT.out.step HB1.out).step HB2.out).step HB3.out)).mono ?_
             rintro e W4 ⟨⟨E, cE, rfl, hcE, hE⟩, hb⟩
             have HE := Lib.hid hE
             have HB4 := Lib.hid (HB3.out.trans (hb.mono HB3.out.size))
             have HD4 := Lib.hid (HD.out.step hb)
             clear hE hb hcE z0 z1 HOR)
          | (go_at_call 12; refine (HIN1.out _ _ _ HE.out).mono ?_; rintro e w1 ⟨rfl, hw1⟩; subst w1; clear HIN1)
          | (go_at_call 27; refine (HDO.out _ _ _ HD4.out).mono ?_; rintro e W5 ⟨rfl, hb⟩
             have HB5 := Lib.hid (HB4.out.trans (hb.mono HB4.out.size))
             have q0 := (HB5.out.cell (p := ⟨rb, ro + a, none⟩) hrb).trans r0
             clear hb HDO)
          | (go_at_call 12; refine (HIN2.out _ (HNX.out.step HB5.out)).mono ?_; rintro e w1 ⟨rfl, hw1⟩; subst w1; clear HIN2
             obtain ⟨g1, c1, X1, v2, X3, g3, c3, X5, A3, k3, u, run1, xc, xr, run2, run3, xu, xf, xrv, xbel⟩ := HMM.out W5 (HRV.out.step HB5.out)
             have RUN1 := Lib.hid run1
             have RUN2 := Lib.hid run2
             have RUN3 := Lib.hid run3
             have XRV := Lib.hid xrv
             have XBEL := Lib.hid xbel
             clear run1 run2 run3 xrv xbel HMM)
          | (at_builtin; refine wpList_append_eq rfl (.tmp 77) (.tmp 78) 23 23 rfl rfl _ _ _ rfl rfl RUN1.out ?_; clear RUN1)
          | (at_builtin; refine wpList_append_eq rfl (.tmp 82) (.tmp 86) 28 28 rfl rfl _ _ _ rfl rfl RUN2.out ?_; clear RUN2)
          | (at_builtin; refine wpList_append_eq rfl (.tmp 87) (.tmp 89) 28 28 rfl rfl _ _ _ rfl rfl RUN3.out ?_; clear RUN3))
        have hb14 := HH14.out
        have hml := moreL_length bs a b
        have hn2 : ∀ j, j < (bsOf (moreL bs a b) bs.length).length → (nthB (bsOf (moreL bs a b) bs.length) j).nx.length ≤ 2 := valid_nx (more_valid HV.out HE1.out)
        have hel := edgK_len hn2 bs.length (by rw [bsOf_length]; exact Nat.le_refl _)
        have hn3 : ∀ j, j < bs.length → (nthR (moreL bs a b) j).length ≤ 2 := fun j hj => by
          have := hn2 j (by rw [bsOf_length]; exact hj)
          rw [bsOf_at _ hj] at this
          exact this
        have HGR := Lib.hid (fun A c W (h : RV W A (moreL bs a b)) => (by
          have := graph29 A (moreL bs a b) c W h (by omega) (fun j hj => by have := hn3 j (by omega); omega) (by rw [hml]; omega)
          rw [hml] at this
          exact this : Calls Try.prog 29 #[.slice A bs.length c] W fun e w' => (∃ B c' P, e = .returned (.agg #[.slice B bs.length c', .slice (some P) bs.length bs.length]) ∧ BV w' B (bsOf (moreL bs a b) bs.length) ∧ RV w' (some P) (prevL (bsOf (moreL bs a b) bs.length))) ∧ Below W.heap.size W w'))
        have hsec := secF_of HV.out HRD.out hb14 HE1.out
        have hvm := more_valid HV.out HE1.out
        have hrm := more_rdc HV.out HRD.out HE1.out
        have hgz : GZ (bsOf (moreL bs a b) bs.length) (prevL (bsOf (moreL bs a b) bs.length)) := gz_of (by rw [bsOf_length]; omega) (by rw [bsOf_length]; omega) (fun j hj => by
          have hj' : j < bs.length := by simpa [prevL, bsOf_length] using hj
          have e : nthR (prevL (bsOf (moreL bs a b) bs.length)) j = pvOf (edgK (bsOf (moreL bs a b) bs.length) bs.length) j := by
            rw [prevL, bsOf_length, nthR_map (fun t : Nat => pvOf (edgK (bsOf (moreL bs a b) bs.length) bs.length) (t : Int)) hj']
          rw [e]
          have := pvOf_length (edgK (bsOf (moreL bs a b) bs.length) bs.length) (j : Int)
          omega)
        have hlen1 : (lsF bs pv).length ≤ 14 := by rw [lsF_length]; exact Nat.le_trans (headF_len bs) hb14
        have hlen2 : (lsF (bsOf (moreL bs a b) bs.length) (prevL (bsOf (moreL bs a b) bs.length))).length ≤ 14 := by rw [lsF_length]; exact Nat.le_trans (headF_len _) (by rw [bsOf_length]; exact hb14)
        have hLZ2 : LZ (lsF (bsOf (moreL bs a b) bs.length) (prevL (bsOf (moreL bs a b) bs.length))) := by rw [← lsM_all]; exact lsM_LZ (ls0_LZ _ _ hgz.len hgz.edges) _
        obtain ⟨bs', hbs'⟩ : ∃ bs', bsOf (moreL bs a b) bs.length = bs' := ⟨_, rfl⟩
        have hbl : bs'.length = bs.length := by rw [← hbs', bsOf_length]
        rw [hbs'] at HGR hsec hvm hrm hgz hlen2 hLZ2
        obtain ⟨pv', hpv'⟩ : ∃ pv', prevL bs' = pv' := ⟨_, rfl⟩
        have hpl : pv'.length = bs.length := by rw [← hpv', prevL, List.length_map, List.length_range, hbl]
        rw [hpv'] at HGR hsec hvm hgz hlen2 hLZ2
        have HFI := Lib.hid (fun A B c d W (h : BV W A bs') (h' : RV W B pv') => (by
          have hfa := find20_any A B bs' pv' c d W h h' hgz
          rw [hbl, hpl] at hfa
          refine hfa.mono fun e w' hh => ?_
          obtain ⟨L, n, cap, q, k, rfl, hk, hL, hb⟩ := hh
          have k0 := hk.2 ⟨hvm, hrm⟩
          subst k0
          obtain ⟨rfl, rfl, hLV⟩ := hL rfl
          exact ⟨⟨L, cap, rfl, hLV⟩, hb⟩ : Calls Try.prog 20 #[.agg #[.slice A bs.length c, .slice B bs.length d]] W fun e w' => (∃ K cap, e = .returned (.tuple #[.slice K (lsF bs' pv').length cap, .int .i64 (-1), .int .i64 0]) ∧ LV w' K (lsF bs' pv')) ∧ Below W.heap.size W w'))
        obtain ⟨ls, hls⟩ : ∃ ls, lsF bs pv = ls := ⟨_, rfl⟩
        obtain ⟨ks, hks⟩ : ∃ ks, lsF bs' pv' = ks := ⟨_, rfl⟩
        rw [hls] at hsec hlen1 HLV
        rw [hks] at hsec hlen2 hLZ2 HFI
        rw [hls]
        have HSEC := Lib.hid hsec
        have HLZ2 := Lib.hid hLZ2
        clear hml hn2 hel hn3 hsec hvm hrm hgz hLZ2 hbs' hbl hpv' hpl hls hks xc xr xu xf q0 r0
        have HBX := Lib.hid (HB5.out.trans (XBEL.out.mono HB5.out.size))
        have hmm := @run_makeMap Try.prog
        have hwb : wf (b : Int) := wf_of (by omega) (by omega)
        go_wp2_with (first
          | (go_at_call 29; refine (HGR.out _ _ _ XRV.out).mono ?_; rintro e W7 ⟨⟨B7, c7, P7, rfl, hB7, hR7⟩, hb⟩
             have HB7 := Lib.hid (HBX.out.trans (hb.mono HBX.out.size))
             have HBV7 := Lib.hid hB7
             have HRV7 := Lib.hid hR7
             clear hb hB7 hR7 HGR))
        refine (HFI.out _ _ _ _ _ HBV7.out HRV7.out).mono ?_
        rintro e W8 ⟨⟨K8, c8, rfl, hK8⟩, hb⟩
        have HB8 := Lib.hid (HB7.out.trans (hb.mono HB7.out.size))
        have HLV8 := Lib.hid hK8
        have hm0 := HMap.made W8
        rw [fB_empty] at hm0
        obtain ⟨Wb, hup, hMb, hgb⟩ := hm0.put Try.underlying58 (by unfold maxLen; omega) hwb (.bool true)
        rw [fB_upd] at hMb
        have HMb := Lib.hid hMb
        have HBb := Lib.hid (show Below W8.heap.size W8 Wb from (below_new (Below.refl _ _) _).grown hgb (by simp) (fun q e => by cases e; exact Nat.le_refl _))
        clear hb hK8 HFI hm0 hMb hgb
        go_wp2_with fail
        clear hup
        go_loopw [106] (fun i wr => ∃ (k q : Nat), k ≤ ls.length ∧ i = .int .i64 k ∧ HMap wr W8.heap.size q (fB (sKs ls b k)) ∧ q ≤ k + 1 ∧ Below W8.heap.size W8 wr) (fun i _ => ls.length - (intOf i).toNat)
        case atStart => exact ⟨0, 1, by omega, rfl, HMb.out, by omega, HBb.out⟩
        case round =>
          obtain ⟨k, q, hk, rfl, hM, hq, hB⟩ := hrel
          rename World => W9
          have HM9 := Lib.hid hM
          have HB9 := Lib.hid hB
          clear hM hB
          by_cases hlt : k < ls.length
          · obtain ⟨lb, lo, rfl, hlb, hc⟩ := HLV.out (by omega)
            obtain ⟨A1, c1', B1, d1, g0, g1', g2, g3', hA1, hB1⟩ := hc k hlt
            have hw28 := (HB8.out).trans (HB9.out.mono HB8.out.size)
            have G0 := (hw28.cell (p := ⟨lb, lo + k * 4, none⟩) hlb).trans g0
            have G1 := (hw28.cell (p := ⟨lb, lo + k * 4 + 1, none⟩) hlb).trans g1'
            have G2 := (hw28.cell (p := ⟨lb, lo + k * 4 + 2, none⟩) hlb).trans g2
            have G3 := (hw28.cell (p := ⟨lb, lo + k * 4 + 3, none⟩) hlb).trans g3'
            obtain ⟨hn, he, hn1⟩ := HSEC.out.nat k hlt
            have hsk : sKs ls b (k + 1) = upd (sKs ls b k) (nthL ls k).hd.toNat := rfl
            obtain ⟨yy, hyy⟩ : ∃ y, nthL ls k = y := ⟨_, rfl⟩
            rw [hyy] at G0 G1 G2 G3 he hsk
            obtain ⟨hd, bl, la, pa⟩ := yy
            dsimp only at G0 G1 G2 G3 he hsk
            subst he
            rw [Int.toNat_natCast] at hsk
            have HSK := Lib.hid hsk
            have hwf : wf (hn : Int) := wf_of (by omega) (by omega)
            obtain ⟨Wc, hup, hMc, hgc⟩ := (HM9.out.alloc (.cells #[.int .i64 (hn : Int), .slice A1 bl.length c1', .slice B1 la.length d1, .int .i64 pa] 30)).put Try.underlying58 (by unfold maxLen; omega) hwf (.bool true)
            rw [fB_upd] at hMc
            have HMc := Lib.hid hMc
            have HBc := Lib.hid (show Below W8.heap.size W8 Wc from (HB9.out.alloc HB9.out.size _).grown hgc (by have := HB9.out.size; simp; omega) (fun q e => by cases e; exact Nat.le_refl _))
            clear g0 g1' g2 g3' hA1 hB1 hc hMc hgc hyy hsk hw28
            go_wp2_with fail
            go_roundw
            case rel => exact ⟨k + 1, q + 1, by omega, by go_num, by rw [HSK.out]; exact HMc.out, by omega, HBc.out⟩
            case measure => simp [intOf]; omega
          · obtain rfl : k = ls.length := by omega
            go_wp2_with fail
            go_loopw [116] (fun i wr => ∃ (k q : Nat), k ≤ ks.length ∧ i = .int .i64 k ∧ HMap wr W8.heap.size q (fB (dKs ks (sKs ls b ls.length) k)) ∧ Below W8.heap.size W8 wr) (fun i _ => ks.length - (intOf i).toNat)
            case atStart => exact ⟨0, q, by omega, rfl, HM9.out, HB9.out⟩
            case round =>
              obtain ⟨j, q', hj, rfl, hM, hB⟩ := hrel
              rename World => W10
              have HM10 := Lib.hid hM
              have HB10 := Lib.hid hB
              clear hM hB
              by_cases hjt : j < ks.length
              · obtain ⟨lb, lo, rfl, hlb, hc⟩ := HLV8.out (by omega)
                obtain ⟨A1, c1', B1, d1, g0, g1', g2, g3', hA1, hB1⟩ := hc j hjt
                have G0 := (HB10.out.cell (p := ⟨lb, lo + j * 4, none⟩) hlb).trans g0
                have G1 := (HB10.out.cell (p := ⟨lb, lo + j * 4 + 1, none⟩) hlb).trans g1'
                have G2 := (HB10.out.cell (p := ⟨lb, lo + j * 4 + 2, none⟩) hlb).trans g2
                have G3 := (HB10.out.cell (p := ⟨lb, lo + j * 4 + 3, none⟩) hlb).trans g3'
                obtain ⟨hn, he, hn1⟩ := HSEC.out.natk j hjt
                have hlat := HSEC.out.lat j hjt
                have hhas := sec_has HSEC.out hjt
                have hz2 := (HLZ2.out j hjt).2
                have hsk : dKs ks (sKs ls b ls.length) (j + 1) = remB (dKs ks (sKs ls b ls.length) j) (nthL ks j).hd.toNat := rfl
                obtain ⟨yy, hyy⟩ : ∃ y, nthL ks j = y := ⟨_, rfl⟩
                rw [hyy] at G0 G1 G2 G3 he hsk hlat hhas hz2 hB1
                obtain ⟨hd, bl, la, pa⟩ := yy
                dsimp only at G0 G1 G2 G3 he hsk hlat hhas hz2 hB1
                subst he
                rw [Int.toNat_natCast] at hsk hhas
                have HSK := Lib.hid hsk
                have hwf : wf (hn : Int) := wf_of (by omega) (by omega)
                have hlk := (HM10.out.alloc (.cells #[.int .i64 (hn : Int), .slice A1 bl.length c1', .slice B1 la.length d1, .int .i64 pa] 30)).look Try.underlying58 (zero4 _) hwf
                rw [fB_at, hhas] at hlk
                obtain ⟨Wc, hdl, hMc, hgc⟩ := (HM10.out.alloc (.cells #[.int .i64 (hn : Int), .slice A1 bl.length c1', .slice B1 la.length d1, .int .i64 pa] 30)).del Try.underlying58 hwf 0
                rw [fB_rem] at hMc
                have HMc := Lib.hid hMc
                have HBc := Lib.hid (show Below W8.heap.size W8 Wc from (HB10.out.alloc HB10.out.size _).grown hgc (by have := HB10.out.size; simp; omega) (fun q e => by cases e; exact Nat.le_refl _))
                have HDL := Lib.hid hdl
                have HBL := Lib.hid ((hB1.step HB10.out).alloc (.cells #[.int .i64 (hn : Int), .slice A1 bl.length c1', .slice B1 la.length d1, .int .i64 pa] 30))
                have HL12 := Lib.hid (fun W h => in12 B1 la d1 (a : Int) W h hz2)
                clear g0 g1' g2 g3' hA1 hB1 hc hMc hgc hyy hsk hdl hhas
                by_cases e : (hn : Int) = (b : Int)
                · have e1 : ((hn : Int) == (b : Int)) = true := by simpa using e
                  rw [hlat e] at HL12
                  clear e hlat
                  go_wp2_with (first
                    | (go_at_call 12; refine (HL12.out _ HBL.out).mono ?_; rintro e w1 ⟨rfl, hw1⟩; subst w1; clear HL12)
                    | (at_delete; refine wpList_delete_eq rfl (.tmp 138) (.tmp 140) 58 3 0 rfl rfl _ _ _ rfl rfl HDL.out ?_))
                  go_roundw
                  case rel => exact ⟨j + 1, q', by omega, by go_num, by rw [HSK.out]; exact HMc.out, HBc.out⟩
                  case measure => simp [intOf]; omega
                · have e1 : ((hn : Int) == (b : Int)) = false := by simpa using e
                  clear e hlat
                  go_wp2_with (first
                    | (at_delete; refine wpList_delete_eq rfl (.tmp 138) (.tmp 140) 58 3 0 rfl rfl _ _ _ rfl rfl HDL.out ?_))
                  go_roundw
                  case rel => exact ⟨j + 1, q', by omega, by go_num, by rw [HSK.out]; exact HMc.out, HBc.out⟩
                  case measure => simp [intOf]; omega
              · obtain rfl : j = ks.length := by omega
                have hl0 := HM10.out.len0 (fun y => by unfold fB; rw [sec_end HSEC.out]; simp) Try.underlying58 3
                have HL0 := Lib.hid hl0
                clear hl0
                go_wp2_with (first
                  | (at_len; refine wpList_len_eq rfl (.tmp 142) 58 3 rfl rfl _ _ rfl HL0.out ?_))
                go_ret
                exact ⟨rfl, ((HB1.out.trans (HB2.out.mono HB1.out.size)).trans (HB8.out.mono (Nat.le_trans HB1.out.size HB2.out.size))).trans (HB10.out.mono (Nat.le_trans (Nat.le_trans HB1.out.size HB2.out.size) HB8.out.size))⟩
end Go.Proofs.Ytcbofikjcgdjmaa
