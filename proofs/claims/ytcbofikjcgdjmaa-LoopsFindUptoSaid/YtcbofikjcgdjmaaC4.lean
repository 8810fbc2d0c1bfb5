/- The walk of LoopsHeaders. -/
import Derived.Test.YtcbofikjcgdjmaaC2
import Derived.Test.YtcbofikjcgdjmaaB12
namespace Go.Proofs.Ytcbofikjcgdjmaa
set_option linter.unusedVariables false
set_option linter.unusedSimpArgs false
open Go.RowKit

theorem ord_contains {bs : List Bk} {pv : List (List Int)} (hv : validB bs pv = true) (a : Nat) : ((ordN bs).map Int.ofNat).contains (a : Int) = true ↔ 0 ≤ rkN bs a := by
  have O := ord_of hv
  rw [List.contains_iff_mem, List.mem_map, ← O.rank.mem]
  constructor
  · rintro ⟨t, ht, e⟩
    have : t = a := by have : (t : Int) = a := e
                       omega
    rw [← this]; exact ht
  · intro h; exact ⟨a, h, rfl⟩
/-- what LoopsHeaders asks, for one loop -/
structure HdF (bs : List Bk) (ol idl : List Int) (x : Lp) : Prop where
  own : x.bl.contains x.hd = true
  dom : ∀ a : Nat, a < bs.length → x.bl.contains (a : Int) = true → ol.contains (a : Int) = true ∧ domB idl x.hd a = true
  ent : ∀ a : Nat, a < bs.length → x.bl.contains (a : Int) = false → ol.contains (a : Int) = true → ∀ b, b ∈ (nthB bs a).nx → b ≠ x.hd → x.bl.contains b = false
  lat : ∀ a : Nat, a < bs.length → ol.contains (a : Int) = true → x.hd ∈ (nthB bs a).nx → x.la.contains (a : Int) = x.bl.contains (a : Int)
theorem hdF_of {bs : List Bk} {pv : List (List Int)} {ls : List Lp} {H : Nat → Nat} (hv : validB bs pv = true) (Rd : Rdc bs) (L : LF bs ls H) {R : Nat → Int} (hR : ∀ a b : Nat, a < bs.length → b < bs.length → (domB ((List.range bs.length).map R) a b = true ↔ Dm (nxN bs) a b)) {i : Nat} (hi : i < ls.length) : HdF bs ((ordN bs).map Int.ofNat) ((List.range bs.length).map R) (nthL ls i) := by
  have O := ord_of hv
  have hh := L.is i hi
  have hl := O.lt _ (O.rch.2 hh.rch)
  have hin : ∀ a : Nat, (nthL ls i).bl.contains (a : Int) = true ↔ Lb (nxN bs) (H i) a := fun a => by
    rw [List.contains_iff_mem, L.mem hv hi]
    constructor
    · rintro ⟨t, e, ht⟩
      obtain rfl : a = t := by omega
      exact ht
    · intro ht; exact ⟨a, rfl, ht⟩
  have hla : ∀ a : Nat, (nthL ls i).la.contains (a : Int) = true ↔ Lat (nxN bs) (H i) a := fun a => by
    rw [List.contains_iff_mem, L.memLa hv Rd hi]
    constructor
    · rintro ⟨t, e, ht⟩
      obtain rfl : a = t := by omega
      exact ht
    · intro ht; exact ⟨a, rfl, ht⟩
  refine ⟨?_, fun a ha hb => ?_, fun a ha hb hr b hbn hne => ?_, fun a ha hr hm => ?_⟩
  · rw [L.hd i hi, hin]; exact .hd
  · have hb := (hin a).1 hb
    have hr := hb.rch hh.rch
    refine ⟨(ord_contains hv a).2 (O.rch.2 hr), ?_⟩
    rw [L.hd i hi]
    exact (hR _ _ hl ha).2 (.inr ⟨hr, hb.dom⟩)
  · have hn := nx_nonneg hv ha hbn
    obtain ⟨t, rfl⟩ : ∃ t : Nat, b = (t : Int) := ⟨b.toNat, by omega⟩
    rw [L.hd i hi] at hne
    rw [← Bool.not_eq_true] at hb ⊢
    intro hc
    exact hb ((hin a).2 (((hin t).1 hc).entry (fun e => hne (by rw [e])) (O.rch.1 ((ord_contains hv a).1 hr)) ((mem_nxN hv ha).2 hbn)))
  · rw [L.hd i hi] at hm
    have := Lb.latch (O.rch.1 ((ord_contains hv a).1 hr)) ((mem_nxN hv ha).2 hm)
    rw [← hin, ← hla] at this
    cases h1 : (nthL ls i).la.contains (a : Int) <;> cases h2 : (nthL ls i).bl.contains (a : Int) <;> rw [h1, h2] at this <;> first | rfl | (exact absurd (this.1 rfl) (by simp)) | (exact absurd (this.2 rfl) (by simp))

set_option maxRecDepth 100000 in
set_option maxHeartbeats 16000000 in
theorem headers6 (A B : Option Addr) (bs : List Bk) (pv : List (List Int)) (c d : Nat) (w : World) (h : BV w A bs) (h' : RV w B pv) (hz : GZ bs pv) :
    Calls Try.prog 6 #[.agg #[.slice A bs.length c, .slice B pv.length d]] w fun e w' => e = .returned (.bool true) ∧ Below w.heap.size w w' := by
  have HF := Lib.hid (fun W h h' => found19 A B bs pv c d W h h' hz)
  have HS := Lib.hid h
  have HT := Lib.hid h'
  have HZ := Lib.hid hz
  clear h h' hz
  go_enter Try.func6, Try.ntmps6
  go_wp2_with (first
    | (go_at_call 11; refine (awake11 _).mono ?_; rintro e W1 ⟨rfl, hb⟩
       have y0 := (hb.cell (p := ⟨w.heap.size, 0, none⟩) (by simp)).trans (cell_new' _ _ #[.slice A bs.length c, .slice B pv.length d] _ _ _ rfl rfl)
       have y1 := (hb.cell (p := ⟨w.heap.size, 1, none⟩) (by simp)).trans (cell_new' _ _ #[.slice A bs.length c, .slice B pv.length d] _ _ _ rfl rfl)
       have hg : w.heap.size < W1.heap.size := by have := hb.size; simp at this; omega
       have HB1 := Lib.hid (below_through hb)
       clear hb))
  refine (HF.out _ (HS.out.step HB1.out) (HT.out.step HB1.out)).mono ?_
  rintro e W2 ⟨hor, hb⟩
  rcases hor with ⟨R, n, cap, L, m, cap', rfl⟩ | ⟨h14, hv, hRd, R, cap, L, cap', rfl, hcap, hRV, hLV⟩
  · have HB2 := Lib.hid hb
    clear hb y0 y1 hg
    go_wp2_with fail
    go_ret
    exact ⟨rfl, HB1.out.trans (HB2.out.mono HB1.out.size)⟩
  have hlen : (lsF bs pv).length ≤ 14 := by rw [lsF_length]; exact Nat.le_trans (headF_len bs) h14
  have hLZ : LZ (lsF bs pv) := by rw [← lsM_all]; exact lsM_LZ (ls0_LZ bs pv HZ.out.len HZ.out.edges) _
  have hLF := lf_of hv hRd
  obtain ⟨H, hH⟩ : ∃ H : Nat → Nat, (fun i => (headF bs).getD i 0) = H := ⟨_, rfl⟩
  rw [hH] at hLF
  obtain ⟨f, idf, htree, hdom⟩ := tree_ok hv
  have HTR := Lib.hid (fun W h h' => tree25 A B bs pv c d W h h' HZ.out hv f idf htree)
  have HOR := Lib.hid (fun W h h' => order26 A B bs pv c d W h h' HZ.out hv)
  obtain ⟨ls, hls⟩ : ∃ ls, lsF bs pv = ls := ⟨_, rfl⟩
  rw [hls] at hlen hLZ hLF hLV
  rw [hls]
  have HB2 := Lib.hid hb
  have HP := Lib.hid (fun i (hi : i < ls.length) => hdF_of hv hRd hLF hdom hi)
  have hol := ord_len hv
  obtain ⟨idl, hidl⟩ : ∃ idl, (List.range bs.length).map idf = idl := ⟨_, rfl⟩
  have hil : idl.length = bs.length := by rw [← hidl]; simp
  rw [hidl] at HP HTR
  obtain ⟨ol, hol'⟩ : ∃ ol, (ordN bs).map Int.ofNat = ol := ⟨_, rfl⟩
  have hon : (ordN bs).length = ol.length := by rw [← hol']; simp
  rw [hol'] at HP HOR
  rw [hon] at HOR hol
  have HDO := Lib.hid (fun D cD (a b : Int) W h => (by have := dominates27 D idl cD a b W h (by omega); rw [hil] at this; exact this : Calls Try.prog 27 #[.slice D bs.length cD, .int .i64 a, .int .i64 b] W fun e w' => e = .returned (.bool (domB idl a b)) ∧ Below W.heap.size W w'))
  have HLV := Lib.hid hLV
  have HRV := Lib.hid hRV
  have HLZ := Lib.hid hLZ
  have HH14 := Lib.hid h14
  have y0' := (hb.cell (p := ⟨w.heap.size, 0, none⟩) hg).trans y0
  have y1' := (hb.cell (p := ⟨w.heap.size, 1, none⟩) hg).trans y1
  have hg' : w.heap.size < W2.heap.size := Nat.lt_of_lt_of_le hg hb.size
  clear hb y0 y1 hg hv hRd hRV hLV hLF hH hls hLZ HF hcap htree hdom hidl hil hol' hon
  go_wp2_with (first
    | (go_at_call 25; refine (HTR.out _ ((HS.out.step HB1.out).step HB2.out) ((HT.out.step HB1.out).step HB2.out)).mono ?_
       rintro e W3 ⟨⟨D, cD, rfl, hD⟩, hb⟩
       have HD := Lib.hid hD
       have HB3 := Lib.hid hb
       have z0 := (hb.cell (p := ⟨w.heap.size, 0, none⟩) hg').trans y0'
       have z1 := (hb.cell (p := ⟨w.heap.size, 1, none⟩) hg').trans y1'
       clear hD hb y0' y1')
    | (go_at_call 26; refine (HOR.out _ (((HS.out.step HB1.out).step HB2.out).step HB3.out) (((HT.out.step HB1.out).step HB2.out).step HB3.out)).mono ?_
       rintro e W4 ⟨⟨E, cE, rfl, hcE, hE⟩, hb⟩
       have HE := Lib.hid hE
       have HB4 := Lib.hid hb
       clear hE hb z0 z1))
  have HLV4 := Lib.hid ((HLV.out.step HB3.out).step HB4.out)
  have HRV4 := Lib.hid ((HRV.out.step HB3.out).step HB4.out)
  have HD4 := Lib.hid (HD.out.step HB4.out)
  have HBE := Lib.hid (((HB1.out.trans (HB2.out.mono HB1.out.size)).trans (HB3.out.mono (Nat.le_trans HB1.out.size HB2.out.size))).trans (HB4.out.mono (Nat.le_trans (Nat.le_trans HB1.out.size HB2.out.size) HB3.out.size)))
  have HOL := Lib.hid hol
  clear HLV HRV HD HTR HOR HB2 HB3 HB4 hol
  go_loopw [30] (fun i wr => ∃ k : Nat, k ≤ ls.length ∧ i = .int .i64 k ∧ Below W4.heap.size W4 wr) (fun i _ => ls.length - (intOf i).toNat)
  case atStart => exact ⟨0, by omega, rfl, Below.refl _ _⟩
  case round =>
    obtain ⟨k, hk, rfl, hB⟩ := hrel
    rename World => W5
    have HB5 := Lib.hid hB
    clear hB
    by_cases hlt : k < ls.length
    · obtain ⟨b, off, rfl, hbl, hc⟩ := (HLV4.out.step HB5.out) (by omega)
      obtain ⟨A1, c1, B1, d1, g0, g1, g2, g3, hA1, hB1⟩ := hc k hlt
      have hz1 := (HLZ.out k hlt).1
      have hz2 := (HLZ.out k hlt).2
      have hp := HP.out k hlt
      obtain ⟨y, hy⟩ : ∃ y, nthL ls k = y := ⟨_, rfl⟩
      rw [hy] at g0 g1 g2 g3 hA1 hB1 hz1 hz2 hp
      clear hy hc
      obtain ⟨hd, bl, la, pa⟩ := y
      obtain ⟨p1, p2, p3, p4⟩ := hp
      dsimp only at g0 g1 g2 g3 hA1 hB1 hz1 hz2 p1 p2 p3 p4
      have HP2 := Lib.hid p2
      have HP3 := Lib.hid p3
      have HP4 := Lib.hid p4
      obtain ⟨W6, hW6⟩ : ∃ W6, W5.alloc (.cells #[.int .i64 hd, .slice A1 bl.length c1, .slice B1 la.length d1, .int .i64 pa] 30) = W6 := ⟨_, rfl⟩
      have HX := Lib.hid (show W6.cell? ⟨W5.heap.size, 0, none⟩ = some (.int .i64 hd) ∧ W6.cell? ⟨W5.heap.size, 1, none⟩ = some (.slice A1 bl.length c1) ∧ W6.cell? ⟨W5.heap.size, 2, none⟩ = some (.slice B1 la.length d1) ∧ W5.heap.size < W6.heap.size by rw [← hW6]; exact ⟨by simp, by simp, by simp, by simp⟩)
      have HB6 := Lib.hid (show Below W4.heap.size W4 W6 by rw [← hW6]; exact below_new HB5.out _)
      have HA := Lib.hid (show IV W6 A1 bl by rw [← hW6]; exact hA1.alloc _)
      have HB' := Lib.hid (show IV W6 B1 la by rw [← hW6]; exact hB1.alloc _)
      have HW6 := Lib.hid hW6
      have H1 := Lib.hid (fun x W h => in12 A1 bl c1 x W h hz1)
      have H2 := Lib.hid (fun x W h => in12 B1 la d1 x W h hz2)
      have H3 := Lib.hid (fun (x : Int) W (h : IV W E ol) => in12 E ol cE x W h (by have := HOL.out; have := HH14.out; omega))
      have H0 := Lib.hid (fun W h => (by have := H1.out hd W h; rw [p1] at this; exact this : Calls Try.prog 12 #[.slice A1 bl.length c1, .int .i64 hd] W fun e w' => e = .returned (.bool true) ∧ w' = W))
      clear p1 p2 p3 p4 hA1 hB1 hW6
      go_wp2_with (first | (go_at_call 12; rw [HW6.out]; refine (H0.out _ HA.out).mono ?_; rintro e w1 ⟨rfl, hw1⟩; subst w1))
      have HE6 := Lib.hid (HE.out.step HB6.out)
      have HD6 := Lib.hid (HD4.out.step HB6.out)
      have HRV6 := Lib.hid (HRV4.out.step HB6.out)
      have HB6z := Lib.hid (Below.refl W6.heap.size W6)
      go_loopw [42] (fun i wr => ∃ a : Nat, a ≤ bs.length ∧ i = .int .i64 a ∧ Below W6.heap.size W6 wr) (fun i _ => bs.length - (intOf i).toNat)
      case atStart => exact ⟨0, by omega, rfl, HB6z.out⟩
      case round =>
        obtain ⟨a, ha, rfl, hB⟩ := hrel
        rename World => W7
        have HB7 := Lib.hid hB
        have x0 := (hB.cell (p := ⟨W5.heap.size, 0, none⟩) HX.out.2.2.2).trans HX.out.1
        have x1 := (hB.cell (p := ⟨W5.heap.size, 1, none⟩) HX.out.2.2.2).trans HX.out.2.1
        have x2 := (hB.cell (p := ⟨W5.heap.size, 2, none⟩) HX.out.2.2.2).trans HX.out.2.2.1
        clear hB
        have hb14 := HH14.out
        by_cases hat : a < bs.length
        · obtain ⟨rb, ro, rfl, hrb, hrc⟩ := HRV6.out (by rw [nxs_length]; omega)
          obtain ⟨A2, c2, r0, hA2⟩ := hrc a (by rw [nxs_length]; exact hat)
          rw [nxs_at bs hat] at r0 hA2
          replace r0 := (HB7.out.cell (p := ⟨rb, ro + a, none⟩) hrb).trans r0
          have hnm : ∀ {x : Int}, x ∈ (nthB bs a).nx → x ∈ (nthB bs a).nx := fun h => h
          have hnz := HZ.out.nx a hat
          obtain ⟨r1, hr1⟩ : ∃ r1, bl.contains (a : Int) = r1 := ⟨_, rfl⟩
          obtain ⟨r2, hr2⟩ : ∃ r2, ol.contains (a : Int) = r2 := ⟨_, rfl⟩
          obtain ⟨r3, hr3⟩ : ∃ r3, la.contains (a : Int) = r3 := ⟨_, rfl⟩
          have q2 := HP2.out a hat
          have q3 := HP3.out a hat
          have q4 := HP4.out a hat
          have Hi := Lib.hid (H1.out (a : Int))
          have Ho := Lib.hid (H3.out (a : Int))
          have Hl := Lib.hid (H2.out (a : Int))
          rw [hr1] at Hi q2 q3 q4
          rw [hr2] at Ho q2 q3 q4
          rw [hr3] at Hl q4
          obtain ⟨nx, hnx⟩ : ∃ nx, (nthB bs a).nx = nx := ⟨_, rfl⟩
          rw [hnx] at r0 hA2 hnz q3 q4
          have Hx := Lib.hid (fun x W h => H1.out x W h)
          have Q3 := Lib.hid q3
          have Q4 := Lib.hid q4
          have HNX := Lib.hid (show IV W6 A2 nx from hA2)
          clear hr1 hr2 hr3 hnm hnx q3 q4 hrc hA2
          have hcomb : (r1 = true ∧ r2 = true) ∨ (r1 = false ∧ r2 = true) ∨ (r1 = false ∧ r2 = false) := by
            cases r1 with
            | true => exact .inl ⟨rfl, (q2 rfl).1⟩
            | false => cases r2 <;> simp
          rcases hcomb with ⟨rfl, rfl⟩ | ⟨rfl, rfl⟩ | ⟨rfl, rfl⟩
          · have Hd := Lib.hid (fun W h => (by have := HDO.out D cD hd (a : Int) W h; rw [(q2 rfl).2] at this; exact this : Calls Try.prog 27 #[.slice D bs.length cD, .int .i64 hd, .int .i64 a] W fun e w' => e = .returned (.bool true) ∧ Below W.heap.size W w'))
            clear q2
            go_wp2_with (first
              | (go_at_call 12; refine (Hi.out _ (HA.out.step HB7.out)).mono ?_; rintro e w1 ⟨rfl, hw1⟩; subst w1; clear Hi)
              | (go_at_call 12; refine (Ho.out _ (HE6.out.step HB7.out)).mono ?_; rintro e w1 ⟨rfl, hw1⟩; subst w1)
              | (go_at_call 27; refine (Hd.out _ (HD6.out.step HB7.out)).mono ?_; rintro e w1 ⟨rfl, hb⟩; have r0' := (hb.cell (p := ⟨rb, ro + a, none⟩) (Nat.lt_of_lt_of_le hrb HB7.out.size)).trans r0; have HB7' := Lib.hid (HB7.out.trans (hb.mono HB7.out.size)); clear hb))
            have HB7s := Lib.hid HB7'.out
            go_loopw [69] (fun i wr => ∃ j : Nat, j ≤ nx.length ∧ i = .int .i64 j ∧ Below W6.heap.size W6 wr) (fun i _ => nx.length - (intOf i).toNat)
            case atStart => exact ⟨0, by omega, rfl, HB7s.out⟩
            case round =>
              obtain ⟨j, hj, rfl, hB⟩ := hrel
              rename World => W8
              have HB8 := Lib.hid hB
              have x0 := (hB.cell (p := ⟨W5.heap.size, 0, none⟩) HX.out.2.2.2).trans HX.out.1
              have x1 := (hB.cell (p := ⟨W5.heap.size, 1, none⟩) HX.out.2.2.2).trans HX.out.2.1
              have x2 := (hB.cell (p := ⟨W5.heap.size, 2, none⟩) HX.out.2.2.2).trans HX.out.2.2.1
              clear hB
              by_cases hjt : j < nx.length
              · obtain ⟨b2, o2, rfl, hb2, hcx⟩ := HNX.out (by omega)
                have gx := (HB8.out.cell (p := ⟨b2, o2 + j, none⟩) (hb2)).trans (hcx j hjt)
                have hmx := getD_mem hjt
                obtain ⟨x, hx⟩ : ∃ x, nx.getD j 0 = x := ⟨_, rfl⟩
                rw [hx] at gx hmx
                by_cases e : x = hd
                · have e1 : (x == hd) = true := by simpa using e
                  have e2 : (x != hd) = false := by simpa using e
                  have hr3 : r3 = true := Q4.out (by trivial) (e ▸ hmx)
                  subst hr3
                  have Hl1 := Hl
                  clear e hmx hx hcx
                  go_wp2_with (first
                    | (go_at_call 12; refine (Hl1.out _ (HB'.out.step HB8.out)).mono ?_; rintro e w1 ⟨rfl, hw1⟩; subst w1; clear Hl1))
                  go_roundw
                  case rel => exact ⟨j + 1, by omega, by go_num, HB8.out⟩
                  case measure => simp [intOf]; omega
                · have e1 : (x == hd) = false := by simpa using e
                  have e2 : (x != hd) = true := by simpa using e
                  clear e hmx hx hcx
                  go_wp2_with fail
                  go_roundw
                  case rel => exact ⟨j + 1, by omega, by go_num, HB8.out⟩
                  case measure => simp [intOf]; omega
              · obtain rfl : j = nx.length := by omega
                go_wp2_with fail
                go_roundw
                case rel => exact ⟨a + 1, by omega, by go_num, HB8.out⟩
                case measure => simp [intOf]; omega
          · clear q2
            go_wp2_with (first
              | (go_at_call 12; refine (Hi.out _ (HA.out.step HB7.out)).mono ?_; rintro e w1 ⟨rfl, hw1⟩; subst w1; clear Hi)
              | (go_at_call 12; refine (Ho.out _ (HE6.out.step HB7.out)).mono ?_; rintro e w1 ⟨rfl, hw1⟩; subst w1))
            have HB7s := Lib.hid HB7.out
            go_loopw [69] (fun i wr => ∃ j : Nat, j ≤ nx.length ∧ i = .int .i64 j ∧ Below W6.heap.size W6 wr) (fun i _ => nx.length - (intOf i).toNat)
            case atStart => exact ⟨0, by omega, rfl, HB7s.out⟩
            case round =>
              obtain ⟨j, hj, rfl, hB⟩ := hrel
              rename World => W8
              have HB8 := Lib.hid hB
              have x0 := (hB.cell (p := ⟨W5.heap.size, 0, none⟩) HX.out.2.2.2).trans HX.out.1
              have x1 := (hB.cell (p := ⟨W5.heap.size, 1, none⟩) HX.out.2.2.2).trans HX.out.2.1
              have x2 := (hB.cell (p := ⟨W5.heap.size, 2, none⟩) HX.out.2.2.2).trans HX.out.2.2.1
              clear hB
              by_cases hjt : j < nx.length
              · obtain ⟨b2, o2, rfl, hb2, hcx⟩ := HNX.out (by omega)
                have gx := (HB8.out.cell (p := ⟨b2, o2 + j, none⟩) (hb2)).trans (hcx j hjt)
                have hmx := getD_mem hjt
                obtain ⟨x, hx⟩ : ∃ x, nx.getD j 0 = x := ⟨_, rfl⟩
                rw [hx] at gx hmx
                by_cases e : x = hd
                · have e1 : (x == hd) = true := by simpa using e
                  have e2 : (x != hd) = false := by simpa using e
                  have hr3 : r3 = false := Q4.out (by trivial) (e ▸ hmx)
                  subst hr3
                  have Hl1 := Hl
                  have Ho1 := Ho
                  clear e hmx hx hcx
                  go_wp2_with (first
                    | (go_at_call 12; refine (Ho1.out _ (HE6.out.step HB8.out)).mono ?_; rintro e w1 ⟨rfl, hw1⟩; subst w1; clear Ho1)
                    | (go_at_call 12; refine (Hl1.out _ (HB'.out.step HB8.out)).mono ?_; rintro e w1 ⟨rfl, hw1⟩; subst w1; clear Hl1))
                  go_roundw
                  case rel => exact ⟨j + 1, by omega, by go_num, HB8.out⟩
                  case measure => simp [intOf]; omega
                · have e1 : (x == hd) = false := by simpa using e
                  have e2 : (x != hd) = true := by simpa using e
                  have Hx1 := Lib.hid (fun W h => (by have := Hx.out x W h; rw [Q3.out (by trivial) (by trivial) x hmx e] at this; exact this : Calls Try.prog 12 #[.slice A1 bl.length c1, .int .i64 x] W fun e w' => e = .returned (.bool false) ∧ w' = W))
                  have Ho1 := Ho
                  clear e hmx hx hcx
                  go_wp2_with (first
                    | (go_at_call 12; refine (Ho1.out _ (HE6.out.step HB8.out)).mono ?_; rintro e w1 ⟨rfl, hw1⟩; subst w1; clear Ho1)
                    | (go_at_call 12; refine (Hx1.out _ (HA.out.step HB8.out)).mono ?_; rintro e w1 ⟨rfl, hw1⟩; subst w1; clear Hx1))
                  go_roundw
                  case rel => exact ⟨j + 1, by omega, by go_num, HB8.out⟩
                  case measure => simp [intOf]; omega
              · obtain rfl : j = nx.length := by omega
                go_wp2_with fail
                go_roundw
                case rel => exact ⟨a + 1, by omega, by go_num, HB8.out⟩
                case measure => simp [intOf]; omega
          · clear q2
            go_wp2_with (first
              | (go_at_call 12; refine (Hi.out _ (HA.out.step HB7.out)).mono ?_; rintro e w1 ⟨rfl, hw1⟩; subst w1; clear Hi)
              | (go_at_call 12; refine (Ho.out _ (HE6.out.step HB7.out)).mono ?_; rintro e w1 ⟨rfl, hw1⟩; subst w1))
            have HB7s := Lib.hid HB7.out
            go_loopw [69] (fun i wr => ∃ j : Nat, j ≤ nx.length ∧ i = .int .i64 j ∧ Below W6.heap.size W6 wr) (fun i _ => nx.length - (intOf i).toNat)
            case atStart => exact ⟨0, by omega, rfl, HB7s.out⟩
            case round =>
              obtain ⟨j, hj, rfl, hB⟩ := hrel
              rename World => W8
              have HB8 := Lib.hid hB
              have x0 := (hB.cell (p := ⟨W5.heap.size, 0, none⟩) HX.out.2.2.2).trans HX.out.1
              have x1 := (hB.cell (p := ⟨W5.heap.size, 1, none⟩) HX.out.2.2.2).trans HX.out.2.1
              have x2 := (hB.cell (p := ⟨W5.heap.size, 2, none⟩) HX.out.2.2.2).trans HX.out.2.2.1
              clear hB
              by_cases hjt : j < nx.length
              · obtain ⟨b2, o2, rfl, hb2, hcx⟩ := HNX.out (by omega)
                have gx := (HB8.out.cell (p := ⟨b2, o2 + j, none⟩) (hb2)).trans (hcx j hjt)
                have hmx := getD_mem hjt
                obtain ⟨x, hx⟩ : ∃ x, nx.getD j 0 = x := ⟨_, rfl⟩
                rw [hx] at gx hmx
                by_cases e : x = hd
                · have e1 : (x == hd) = true := by simpa using e
                  have e2 : (x != hd) = false := by simpa using e
                  have Hl1 := Hl
                  have Ho1 := Ho
                  have Ho2 := Ho
                  clear e hmx hx hcx
                  cases r3 with
                  | true =>
                    go_wp2_with (first
                      | (go_at_call 12; refine (Ho1.out _ (HE6.out.step HB8.out)).mono ?_; rintro e w1 ⟨rfl, hw1⟩; subst w1; clear Ho1)
                      | (go_at_call 12; refine (Hl1.out _ (HB'.out.step HB8.out)).mono ?_; rintro e w1 ⟨rfl, hw1⟩; subst w1; clear Hl1)
                      | (go_at_call 12; refine (Ho2.out _ (HE6.out.step HB8.out)).mono ?_; rintro e w1 ⟨rfl, hw1⟩; subst w1; clear Ho2))
                    go_roundw
                    case rel => exact ⟨j + 1, by omega, by go_num, HB8.out⟩
                    case measure => simp [intOf]; omega
                  | false =>
                    go_wp2_with (first
                      | (go_at_call 12; refine (Ho1.out _ (HE6.out.step HB8.out)).mono ?_; rintro e w1 ⟨rfl, hw1⟩; subst w1; clear Ho1)
                      | (go_at_call 12; refine (Hl1.out _ (HB'.out.step HB8.out)).mono ?_; rintro e w1 ⟨rfl, hw1⟩; subst w1; clear Hl1))
                    go_roundw
                    case rel => exact ⟨j + 1, by omega, by go_num, HB8.out⟩
                    case measure => simp [intOf]; omega
                · have e1 : (x == hd) = false := by simpa using e
                  have e2 : (x != hd) = true := by simpa using e
                  have Ho1 := Ho
                  clear e hmx hx hcx
                  go_wp2_with (first
                    | (go_at_call 12; refine (Ho1.out _ (HE6.out.step HB8.out)).mono ?_; rintro e w1 ⟨rfl, hw1⟩; subst w1; clear Ho1))
                  go_roundw
                  case rel => exact ⟨j + 1, by omega, by go_num, HB8.out⟩
                  case measure => simp [intOf]; omega
              · obtain rfl : j = nx.length := by omega
                go_wp2_with fail
                go_roundw
                case rel => exact ⟨a + 1, by omega, by go_num, HB8.out⟩
                case measure => simp [intOf]; omega
        · obtain rfl : a = bs.length := by omega
          have hln := hlen
          go_wp2_with fail
          go_roundw
          case rel => exact ⟨k + 1, by omega, by go_num, HB6.out.trans (HB7.out.mono HB6.out.size)⟩
          case measure => simp [intOf]; omega
    · obtain rfl : k = ls.length := by omega
      go_wp2_with fail
      go_ret
      exact ⟨rfl, HBE.out.trans (HB5.out.mono HBE.out.size)⟩
end Go.Proofs.Ytcbofikjcgdjmaa
