/- The walk of LoopsQueries. -/
import Derived.Test.YtcbofikjcgdjmaaB24
namespace Go.Proofs.Ytcbofikjcgdjmaa
set_option linter.unusedVariables false
set_option linter.unusedSimpArgs false
open Go.RowKit

theorem LV.alloc {w : World} {A : Option Addr} {ls : List Lp} (h : LV w A ls) (o : Obj) : LV (w.alloc o) A ls := h.step ((Below.refl _ _).alloc (Nat.le_refl _) o)

/-- two rows of edges of the call's own, apart -/
structure Two (base : Nat) (v u : Value) (es fs : List (Int × Int)) (W : World) : Prop where
  a : W.ownsRow base 35 2 v es.length (ecells es)
  b : W.ownsRow base 35 2 u fs.length (ecells fs)
  ne : v.ownBlock = none ∨ v.ownBlock ≠ u.ownBlock
theorem Two.start (base : Nat) (W : World) : Two base (.slice none 0 0) (.slice none 0 0) [] [] W := ⟨World.ownsRow_nil _ _ _ _, World.ownsRow_nil _ _ _ _, .inl rfl⟩
theorem Two.below {base : Nat} {v u : Value} {es fs : List (Int × Int)} {W W' : World} (h : Two base v u es fs W) (hb : Below W.heap.size W W') : Two base v u es fs W' := ⟨own_below h.a hb, own_below h.b hb, h.ne⟩
theorem Two.alloc {base : Nat} {v u : Value} {es fs : List (Int × Int)} {W : World} (h : Two base v u es fs W) (o : Obj) : Two base v u es fs (W.alloc o) := h.below (below_new (Below.refl _ _) o)
theorem Two.swap {base : Nat} {v u : Value} {es fs : List (Int × Int)} {W : World} (h : Two base v u es fs W) : Two base u v fs es W := ⟨h.b, h.a, by
  rcases h.ne with h | h
  · by_cases e : u.ownBlock = none
    · exact .inl e
    · exact .inr (by rw [h]; exact e)
  · exact .inr fun e => h e.symm⟩
theorem Two.putA {base : Nat} {v u v' : Value} {es es' fs : List (Int × Int)} {W W' : World} (h : Two base v u es fs W) (hg : W.grownBy W' v.ownBlock) (hown : W'.ownsRow base 35 2 v' es'.length (ecells es')) (hloc : v'.ownBlock = v.ownBlock ∨ v'.ownBlock = some W.heap.size) : Two base v' u es' fs W' :=
  ⟨hown, h.b.kept hg h.swap.ne, by
    rcases hloc with hl | hl
    · rw [hl]; exact h.ne
    · refine .inr fun e => ?_
      rw [hl] at e
      exact absurd (h.b.lt _ e.symm).2 (by omega)⟩
theorem Two.putB {base : Nat} {v u v' : Value} {es es' fs : List (Int × Int)} {W W' : World} (h : Two base v u es fs W) (hg : W.grownBy W' u.ownBlock) (hown : W'.ownsRow base 35 2 v' es'.length (ecells es')) (hloc : v'.ownBlock = u.ownBlock ∨ v'.ownBlock = some W.heap.size) : Two base v v' es es' W' :=
  (h.swap.putA hg hown hloc).swap
structure Q6 (G N : Nat) (A B A1 B1 : Option Addr) (n c m d : Nat) (hd pa : Int) (bl la : List Int) (c1 d1 : Nat) (bs : List Bk) (W : World) : Prop where
  y0 : W.cell? ⟨G, 0, none⟩ = some (.slice A n c)
  y1 : W.cell? ⟨G, 1, none⟩ = some (.slice B m d)
  x0 : W.cell? ⟨N, 0, none⟩ = some (.int .i64 hd)
  x1 : W.cell? ⟨N, 1, none⟩ = some (.slice A1 bl.length c1)
  x2 : W.cell? ⟨N, 2, none⟩ = some (.slice B1 la.length d1)
  x3 : W.cell? ⟨N, 3, none⟩ = some (.int .i64 pa)
  lg : G < W.heap.size
  ln : N < W.heap.size
  i1 : IV W A1 bl
  i2 : IV W B1 la
  bv : BV W A bs
theorem Q6.below {G N : Nat} {A B A1 B1 : Option Addr} {n c m d : Nat} {hd pa : Int} {bl la : List Int} {c1 d1 : Nat} {bs : List Bk} {W W' : World} (h : Q6 G N A B A1 B1 n c m d hd pa bl la c1 d1 bs W) (hb : Below W.heap.size W W') : Q6 G N A B A1 B1 n c m d hd pa bl la c1 d1 bs W' :=
  ⟨(hb.cell h.lg).trans h.y0, (hb.cell h.lg).trans h.y1, (hb.cell h.ln).trans h.x0, (hb.cell h.ln).trans h.x1, (hb.cell h.ln).trans h.x2, (hb.cell h.ln).trans h.x3,
    Nat.lt_of_lt_of_le h.lg hb.size, Nat.lt_of_lt_of_le h.ln hb.size, h.i1.step hb, h.i2.step hb, h.bv.step hb⟩
theorem same16s (A B : Option Addr) (es : List (Int × Int)) (c d : Nat) (w : World) (h : EV w A es) (h' : EV w B es) (hl : es.length ≤ 1099511627776) :
    Calls Try.prog 16 #[.slice A es.length c, .slice B es.length d] w fun e w' => e = .returned (.bool true) ∧ Below w.heap.size w w' := by
  have := same16 A B es es c d w h h' hl hl
  rw [beq_self_eq_true] at this
  exact this
theorem filt_succ {p : Int × Int → Bool} {es : List (Int × Int)} {k : Nat} (h : k < es.length) : (es.take (k + 1)).filter p = if p (nthE es k) then (es.take k).filter p ++ [nthE es k] else (es.take k).filter p := by
  rw [take_succ_nthE h, List.filter_append, List.filter_cons]
  split <;> simp
theorem filt_len {p : Int × Int → Bool} {es : List (Int × Int)} {k : Nat} : ((es.take k).filter p).length ≤ es.length := Nat.le_trans (List.length_filter_le _ _) (by simp; omega)

set_option maxRecDepth 100000 in
set_option maxHeartbeats 4000000 in
theorem queries3 (A B L : Option Addr) (bs : List Bk) (ls : List Lp) (m c d cL : Nat) (x : Int) (w : World) (h : BV w A bs) (hL : LV w L ls) (hl : bs.length ≤ 1099511627776) (hz : ∀ j, j < bs.length → (nthB bs j).nx.length ≤ 1099511627776) (hm : (edgK bs bs.length).length ≤ 1099511627776) (hll : ls.length ≤ 1099511627776) (hlz : LZ ls) :
    Calls Try.prog 3 #[.agg #[.slice A bs.length c, .slice B m d], .slice L ls.length cL, .int .i64 x] w fun e w' => e = .returned (.bool true) ∧ Below w.heap.size w w' := by
  have HS := Lib.hid h
  have HT := Lib.hid hL
  have HZ := Lib.hid hz
  have HM := Lib.hid hm
  have HLZ := Lib.hid hlz
  have HDK := Lib.hid (depthK_le ls x)
  have HBK := Lib.hid (bestK_in ls x)
  clear h hL hz hm hlz
  by_cases h14 : 14 < bs.length
  · have q1 : decide ((14 : Int) < (bs.length : Int)) = true := by simpa using (by omega : (14 : Int) < (bs.length : Int))
    clear h14
    go_enter Try.func3, Try.ntmps3
    go_wp2_with (go_at_call 11; refine (awake11 _).mono ?_; rintro e W1 ⟨rfl, hb⟩
                 have y0 := (hb.cell (p := ⟨w.heap.size, 0, none⟩) (by simp)).trans (cell_new' _ _ #[.slice A bs.length c, .slice B m d] _ _ _ rfl rfl)
                 have y1 := (hb.cell (p := ⟨w.heap.size, 1, none⟩) (by simp)).trans (cell_new' _ _ #[.slice A bs.length c, .slice B m d] _ _ _ rfl rfl)
                 have hg : w.heap.size < W1.heap.size := by have := hb.size; simp at this; omega
                 have HB1 := Lib.hid (below_through hb)
                 clear hb)
    go_ret
    exact ⟨rfl, HB1.out⟩
  have q1 : decide ((14 : Int) < (bs.length : Int)) = false := by simpa using (by omega : ¬ (14 : Int) < (bs.length : Int))
  have H14 := Lib.hid h14
  clear h14
  by_cases h10 : 10 < ls.length
  · have q2 : decide ((10 : Int) < (ls.length : Int)) = true := by simpa using (by omega : (10 : Int) < (ls.length : Int))
    clear h10
    go_enter Try.func3, Try.ntmps3
    go_wp2_with (go_at_call 11; refine (awake11 _).mono ?_; rintro e W1 ⟨rfl, hb⟩
                 have y0 := (hb.cell (p := ⟨w.heap.size, 0, none⟩) (by simp)).trans (cell_new' _ _ #[.slice A bs.length c, .slice B m d] _ _ _ rfl rfl)
                 have y1 := (hb.cell (p := ⟨w.heap.size, 1, none⟩) (by simp)).trans (cell_new' _ _ #[.slice A bs.length c, .slice B m d] _ _ _ rfl rfl)
                 have hg : w.heap.size < W1.heap.size := by have := hb.size; simp at this; omega
                 have HB1 := Lib.hid (below_through hb)
                 clear hb)
    go_ret
    exact ⟨rfl, HB1.out⟩
  have q2 : decide ((10 : Int) < (ls.length : Int)) = false := by simpa using (by omega : ¬ (10 : Int) < (ls.length : Int))
  have H10 := Lib.hid h10
  clear h10
  go_enter Try.func3, Try.ntmps3
  go_wp2_with (go_at_call 11; refine (awake11 _).mono ?_; rintro e W1 ⟨rfl, hb⟩
               have y0 := (hb.cell (p := ⟨w.heap.size, 0, none⟩) (by simp)).trans (cell_new' _ _ #[.slice A bs.length c, .slice B m d] _ _ _ rfl rfl)
               have y1 := (hb.cell (p := ⟨w.heap.size, 1, none⟩) (by simp)).trans (cell_new' _ _ #[.slice A bs.length c, .slice B m d] _ _ _ rfl rfl)
               have hg : w.heap.size < W1.heap.size := by have := hb.size; simp at this; omega
               have HB1 := Lib.hid (below_through hb)
               clear hb)
  have HG := Lib.hid (show _ ∧ _ ∧ w.heap.size < W1.heap.size from ⟨y0, y1, hg⟩)
  have HS1 := Lib.hid (HS.out.step HB1.out)
  have HT1 := Lib.hid (HT.out.step HB1.out)
  clear y0 y1 hg
  go_loopw [7, 8, 30] (fun n b i wr => ∃ (k d : Nat) (m : Int), k ≤ ls.length ∧ i = .int .i64 k ∧ n = .int .i64 d ∧ b = .int .i64 m ∧ d = depthK ls x k ∧ m = bestK ls x k ∧ Below W1.heap.size W1 wr) (fun _ _ i _ => ls.length - (intOf i).toNat)
  case atStart => exact ⟨0, 0, -1, by omega, rfl, rfl, rfl, rfl, rfl, Below.refl _ _⟩
  case round =>
    obtain ⟨k, dp, mm, hk, rfl, rfl, rfl, hd, hm, hB⟩ := hrel
    have hdk : dp ≤ k := by rw [hd]; exact HDK.out k
    have hmk : -1 ≤ mm ∧ mm < k := by rw [hm]; exact HBK.out k
    have HD := Lib.hid hd
    have HM1 := Lib.hid hm
    have HB := Lib.hid hB
    clear hd hm hB
    by_cases hlt : k < ls.length
    · obtain ⟨b, off, rfl, hbl, hc⟩ := (HT1.out.step HB.out) (by omega)
      obtain ⟨A1, c1, B1, d1, g0, g1, g2, g3, hA1, hB1⟩ := hc k hlt
      have hz := (HLZ.out k hlt).1
      have HC := Lib.hid hc
      clear hc
      obtain ⟨y, hy⟩ : ∃ y, nthL ls k = y := ⟨_, rfl⟩
      rw [hy] at g0 g1 g2 g3 hA1 hz
      have HY := Lib.hid hy
      clear hy
      obtain ⟨hd, bl, la, pa⟩ := y
      dsimp only at g0 g1 g2 g3 hA1 hz
      by_cases h20 : 20 < bl.length
      · have q3 : decide ((20 : Int) < (bl.length : Int)) = true := by simpa using (by omega : (20 : Int) < (bl.length : Int))
        clear h20 hA1 hB1
        go_wp2_with fail
        go_ret
        exact ⟨rfl, HB1.out.trans ((below_new HB.out _).mono HB1.out.size)⟩
      have q3 : decide ((20 : Int) < (bl.length : Int)) = false := by simpa using (by omega : ¬ (20 : Int) < (bl.length : Int))
      clear h20
      have HA := Lib.hid hA1
      have H1 := Lib.hid (fun W => in12 A1 bl c1 x W)
      clear hA1 hB1
      obtain ⟨r, hr⟩ : ∃ r, bl.contains x = r := ⟨_, rfl⟩
      have HR := Lib.hid hr
      simp only [hr] at H1
      clear hr
      have hst0 : depthK ls x (k + 1) = dp + if r then 1 else 0 := by rw [depthK, HY.out, HR.out, ← HD.out]
      have hst : bestK ls x (k + 1) = if r && (decide (mm < 0) || decide (bl.length < (nthL ls mm.toNat).bl.length)) then (k : Int) else mm := by rw [bestK, HY.out, HR.out, ← HM1.out]
      have HST0 := Lib.hid hst0
      have HST := Lib.hid hst
      clear hst hst0
      cases r with
      | false =>
        go_wp2_with (go_at_call 12; refine (H1.out _ (HA.out.alloc _) hz).mono ?_; rintro e w1 ⟨rfl, rfl⟩)
        go_roundw
        case rel => exact ⟨k + 1, dp, mm, by omega, by go_num, by go_num, by go_num, by rw [HST0.out]; rfl, by rw [HST.out]; rfl, below_new HB.out _⟩
        case measure => simp [intOf]; omega
      | true =>
        by_cases hm : mm < 0
        · have q4 : decide (mm < 0) = true := by simpa using hm
          go_wp2_with (go_at_call 12; refine (H1.out _ (HA.out.alloc _) hz).mono ?_; rintro e w1 ⟨rfl, rfl⟩)
          go_quiet (fail)
          go_wp2_with fail
          go_roundw
          case rel => exact ⟨k + 1, dp + 1, k, by omega, by go_num, by go_num, by go_num, by rw [HST0.out]; rfl, by rw [HST.out, q4]; rfl, below_drewN (below_new HB.out _) _⟩
          case measure => simp [intOf]; omega
        · have q4 : decide (mm < 0) = false := by simpa using hm
          obtain ⟨m', rfl⟩ : ∃ m' : Nat, mm = (m' : Int) := ⟨mm.toNat, by omega⟩
          have hm' : m' < ls.length := by omega
          obtain ⟨A2, c2, B2, d2, f0, f1, f2, f3, hA2, hB2⟩ := HC.out m' hm'
          obtain ⟨y2, hy2⟩ : ∃ y2, nthL ls m' = y2 := ⟨_, rfl⟩
          rw [hy2] at f0 f1 f2 f3
          have HY2 := Lib.hid hy2
          have hz2 := (HLZ.out m' hm').1
          rw [hy2] at hz2
          clear hy2 HC hA2 hB2
          obtain ⟨hd2, bl2, la2, pa2⟩ := y2
          dsimp only at f0 f1 f2 f3 hz2
          obtain ⟨n1, hn1⟩ : ∃ n1, bl.length = n1 := ⟨_, rfl⟩
          obtain ⟨n2, hn2⟩ : ∃ n2, bl2.length = n2 := ⟨_, rfl⟩
          have hst2 : bestK ls x (k + 1) = if n1 < n2 then (k : Int) else (m' : Int) := by
            rw [HST.out, q4, Int.toNat_natCast, HY2.out, hn1, hn2]
            by_cases e : n1 < n2
            · rw [if_pos e, decide_eq_true e]; rfl
            · rw [if_neg e, decide_eq_false e]; rfl
          have HS2 := Lib.hid hst2
          clear hst2 HST
          rw [hn1] at g1 hz q3
          rw [hn2] at f1
          rw [hn1] at H1
          have HN1 := Lib.hid hn1
          clear hn1 hn2
          by_cases e : n1 < n2
          · have q5 : decide ((n1 : Int) < (n2 : Int)) = true := by simpa using e
            go_wp2_with (go_at_call 12; refine (H1.out _ (HA.out.alloc _) (HN1.out ▸ hz)).mono ?_; rintro e w1 ⟨rfl, rfl⟩)
            go_quiet (fail)
            go_wp2_with fail
            go_roundw
            case rel => exact ⟨k + 1, dp + 1, k, by omega, by go_num, by go_num, by go_num, by rw [HST0.out]; rfl, by rw [HS2.out, if_pos e], below_drewN (below_new HB.out _) _⟩
            case measure => simp [intOf]; omega
          · have q5 : decide ((n1 : Int) < (n2 : Int)) = false := by simpa using e
            go_wp2_with (go_at_call 12; refine (H1.out _ (HA.out.alloc _) (HN1.out ▸ hz)).mono ?_; rintro e w1 ⟨rfl, rfl⟩)
            go_quiet (fail)
            go_wp2_with fail
            go_roundw
            case rel => exact ⟨k + 1, dp + 1, m', by omega, by go_num, by go_num, by go_num, by rw [HST0.out]; rfl, by rw [HS2.out, if_neg e], below_drewN (below_new HB.out _) _⟩
            case measure => simp [intOf]; omega
    · obtain rfl : k = ls.length := by omega
      have HT2 := Lib.hid (HT1.out.step HB.out)
      have h13 := depth13 L ls cL x wr HT2.out hll HLZ.out
      rw [← HD.out] at h13
      have H13 := Lib.hid h13
      have h14 := fun W h => innermost14 L ls cL x W h hll HLZ.out
      simp only [← HM1.out] at h14
      have H14' := Lib.hid h14
      clear h13 h14
      go_wp2_with (first
        | (go_at_call 13; refine H13.out.mono ?_; rintro e w2 ⟨rfl, hb2⟩; have HX2 := Lib.hid hb2; clear hb2)
        | (go_at_call 14; refine (H14'.out _ (HT2.out.step HX2.out)).mono ?_; rintro e w3 ⟨rfl, hb3⟩; have HX3 := Lib.hid hb3; clear hb3))
      have HB3 := Lib.hid (HB.out.trans ((HX2.out.trans (HX3.out.mono HX2.out.size)).mono HB.out.size))
      have HT3 := Lib.hid (HT1.out.step HB3.out)
      have HS3 := Lib.hid (HS1.out.step HB3.out)
      have HG3 := Lib.hid (show w3.cell? ⟨w.heap.size, 0, none⟩ = some (.slice A bs.length c) ∧ w3.cell? ⟨w.heap.size, 1, none⟩ = some (.slice B m d) ∧ w.heap.size < w3.heap.size from
        ⟨(HB3.out.cell (p := ⟨w.heap.size, 0, none⟩) HG.out.2.2).trans HG.out.1, (HB3.out.cell (p := ⟨w.heap.size, 1, none⟩) HG.out.2.2).trans HG.out.2.1, Nat.lt_of_lt_of_le HG.out.2.2 HB3.out.size⟩)
      have HBW := Lib.hid (HB1.out.trans (HB3.out.mono HB1.out.size))
      clear HT2 H13 H14' HX2 HX3 HB3 HB HG HT1 HS1 HB1 HD HM1 HDK HBK hdk hmk hlt
      go_loopw [75] (fun i wr => ∃ k : Nat, k ≤ ls.length ∧ i = .int .i64 k ∧ Below w3.heap.size w3 wr) (fun i _ => ls.length - (intOf i).toNat)
      case atStart => exact ⟨0, by omega, rfl, Below.refl _ _⟩
      case round =>
        obtain ⟨k, hk, rfl, hB⟩ := hrel
        rename World => wk
        have HB := Lib.hid hB
        clear hB
        by_cases hlt : k < ls.length
        · obtain ⟨b, off, rfl, hbl, hc⟩ := (HT3.out.step HB.out) (by omega)
          obtain ⟨A1, c1, B1, d1, g0, g1, g2, g3, hA1, hB1⟩ := hc k hlt
          have hz := (HLZ.out k hlt).1
          clear hc
          obtain ⟨y, hy⟩ : ∃ y, nthL ls k = y := ⟨_, rfl⟩
          rw [hy] at g0 g1 g2 g3 hA1 hB1 hz
          clear hy
          obtain ⟨hd, bl, la, pa⟩ := y
          dsimp only at g0 g1 g2 g3 hA1 hB1 hz
          have HA := Lib.hid (show IV wk A1 bl ∧ IV wk B1 la from ⟨hA1, hB1⟩)
          have y0 := (HB.out.cell (p := ⟨w.heap.size, 0, none⟩) HG3.out.2.2).trans HG3.out.1
          have y1 := (HB.out.cell (p := ⟨w.heap.size, 1, none⟩) HG3.out.2.2).trans HG3.out.2.1
          have hg : w.heap.size < wk.heap.size := Nat.lt_of_lt_of_le HG3.out.2.2 HB.out.size
          have HBV := Lib.hid (HS3.out.step HB.out)
          have HED := Lib.hid (fun W h => edges15 A B bs m c d W h hl HZ.out HM.out)
          have HEN := Lib.hid (fun W h h1 h2 => entries17 A B bs m c d ⟨hd, bl, la, pa⟩ A1 B1 c1 d1 W h hl HZ.out HM.out hz h1 h2)
          have HEX := Lib.hid (fun W h h1 h2 => exits18 A B bs m c d ⟨hd, bl, la, pa⟩ A1 B1 c1 d1 W h hl HZ.out HM.out hz h1 h2)
          have H1 := Lib.hid (fun W x h => in12 A1 bl c1 x W h hz)
          obtain ⟨es, hes⟩ : ∃ es, edgK bs bs.length = es := ⟨_, rfl⟩
          have hME := HM.out
          rw [hes] at hME
          simp only [hes] at HED HEN HEX
          clear hA1 hB1 hes hbl
          go_wp2_with (go_at_call 15; refine (HED.out _ (HBV.out.alloc _)).mono ?_; rintro e W0 ⟨⟨R, cap, rfl, hE⟩, hb0⟩)
          clear g0 g1 g2 g3 y0 y1
          have HN := Lib.hid (show W0.cell? ⟨wk.heap.size, 0, none⟩ = some (.int .i64 hd) ∧ W0.cell? ⟨wk.heap.size, 1, none⟩ = some (.slice A1 bl.length c1) ∧ W0.cell? ⟨wk.heap.size, 2, none⟩ = some (.slice B1 la.length d1) ∧ W0.cell? ⟨wk.heap.size, 3, none⟩ = some (.int .i64 pa) ∧ wk.heap.size < W0.heap.size from
            ⟨(hb0.cell (p := ⟨wk.heap.size, 0, none⟩) (by simp)).trans (by simp), (hb0.cell (p := ⟨wk.heap.size, 1, none⟩) (by simp)).trans (by simp), (hb0.cell (p := ⟨wk.heap.size, 2, none⟩) (by simp)).trans (by simp), (hb0.cell (p := ⟨wk.heap.size, 3, none⟩) (by simp)).trans (by simp), by have := hb0.size; simp at this; omega⟩)
          have HB0 := Lib.hid (HB.out.trans ((below_through hb0).mono HB.out.size))
          have HBV0 := Lib.hid (HBV.out.step (below_through hb0))
          have HA0 := Lib.hid (show IV W0 A1 bl ∧ IV W0 B1 la from ⟨HA.out.1.step (below_through hb0), HA.out.2.step (below_through hb0)⟩)
          have HG0 := Lib.hid (show W0.cell? ⟨w.heap.size, 0, none⟩ = some (.slice A bs.length c) ∧ W0.cell? ⟨w.heap.size, 1, none⟩ = some (.slice B m d) ∧ w.heap.size < W0.heap.size from
            ⟨(HB0.out.cell (p := ⟨w.heap.size, 0, none⟩) HG3.out.2.2).trans HG3.out.1, (HB0.out.cell (p := ⟨w.heap.size, 1, none⟩) HG3.out.2.2).trans HG3.out.2.1, Nat.lt_of_lt_of_le HG3.out.2.2 HB0.out.size⟩)
          have HE0 := Lib.hid hE
          clear hE hb0 HED HBV HA HB hg
          go_wp2_with fail
          go_loopw [13, 14, 82] (fun v u i wk' => ∃ j : Nat, j ≤ es.length ∧ i = .int .i64 j ∧ Two W0.heap.size v u ((es.take j).filter fun q => entP ⟨hd, bl, la, pa⟩ q.1 q.2) ((es.take j).filter fun q => exiP ⟨hd, bl, la, pa⟩ q.1 q.2) wk' ∧ Below W0.heap.size W0 wk') (fun _ _ i _ => es.length - (intOf i).toNat)
          case atStart => exact ⟨0, by omega, rfl, Two.start _ _, Below.refl _ _⟩
          case round =>
            obtain ⟨j, hj, rfl, hTw, hB⟩ := hrel
            rename World => W
            have HTW := Lib.hid hTw
            have HB := Lib.hid hB
            clear hTw hB
            by_cases hlt2 : j < es.length
            · obtain ⟨b, off, rfl, hbl, hc⟩ := HE0.out (by omega)
              have g0 := (HB.out.cell (p := ⟨b, off + j * 2, none⟩) hbl).trans (hc j hlt2).1
              have g1 := (HB.out.cell (p := ⟨b, off + j * 2 + 1, none⟩) hbl).trans (hc j hlt2).2
              have x0 := (HB.out.cell (p := ⟨wk.heap.size, 0, none⟩) HN.out.2.2.2.2).trans HN.out.1
              have x1 := (HB.out.cell (p := ⟨wk.heap.size, 1, none⟩) HN.out.2.2.2.2).trans HN.out.2.1
              have hlk := Nat.lt_of_lt_of_le HN.out.2.2.2.2 HB.out.size
              clear hc
              have hs1 := filt_succ (p := fun q => entP ⟨hd, bl, la, pa⟩ q.1 q.2) hlt2
              have hs2 := filt_succ (p := fun q => exiP ⟨hd, bl, la, pa⟩ q.1 q.2) hlt2
              have hl1 := filt_len (p := fun q => entP ⟨hd, bl, la, pa⟩ q.1 q.2) (es := es) (k := j)
              have hl2 := filt_len (p := fun q => exiP ⟨hd, bl, la, pa⟩ q.1 q.2) (es := es) (k := j)
              obtain ⟨⟨a, z⟩, hy⟩ : ∃ y, nthE es j = y := ⟨_, rfl⟩
              rw [hy] at g0 g1 hs1 hs2
              clear hy
              dsimp only at g0 g1 hs1 hs2
              obtain ⟨F1, hF1⟩ : ∃ F1, (es.take j).filter (fun q => entP ⟨hd, bl, la, pa⟩ q.1 q.2) = F1 := ⟨_, rfl⟩
              obtain ⟨F2, hF2⟩ : ∃ F2, (es.take j).filter (fun q => exiP ⟨hd, bl, la, pa⟩ q.1 q.2) = F2 := ⟨_, rfl⟩
              rw [hF1] at hs1 hl1
              rw [hF2] at hs2 hl2
              have HTW' := HTW.out
              rw [hF1, hF2] at HTW'
              have HTW := Lib.hid HTW'
              clear HTW' hF1 hF2
              obtain ⟨ca, hca⟩ : ∃ ca, bl.contains a = ca := ⟨_, rfl⟩
              obtain ⟨cb, hcb⟩ : ∃ cb, bl.contains z = cb := ⟨_, rfl⟩
              obtain ⟨ce, hce⟩ : ∃ ce, (z == hd) = ce := ⟨_, rfl⟩
              have ha := fun W h => H1.out W a h
              have hb := fun W h => H1.out W z h
              simp only [hca] at ha
              simp only [hcb] at hb
              have hs1' : (es.take (j + 1)).filter (fun q => entP ⟨hd, bl, la, pa⟩ q.1 q.2) = if (ce && !ca) = true then F1 ++ [(a, z)] else F1 := by rw [hs1, entP, hce, hca]
              have hs2' : (es.take (j + 1)).filter (fun q => exiP ⟨hd, bl, la, pa⟩ q.1 q.2) = if (ca && !cb) = true then F2 ++ [(a, z)] else F2 := by rw [hs2, exiP, hca, hcb]
              have HST1 := Lib.hid hs1'
              have HST2 := Lib.hid hs2'
              have HCA := Lib.hid ha
              have HCB := Lib.hid hb
              have hsz := HB.out.size
              obtain ⟨i0, hi, hz0, hz1, hz2⟩ := info_parts info35
              clear hs1 hs2 hs1' hs2' ha hb hca hcb
              have H9 := Lib.hid (show F1.length ≤ maxLen - 1 ∧ F2.length ≤ maxLen - 1 from by unfold maxLen; omega)
              cases ca with
              | false =>
                cases ce with
                | false =>
                  go_wp2_with (first | (go_at_call_of 12 (Value.int .i64 a); refine (HCA.out _ ((HA0.out.1.step HB.out).alloc _)).mono ?_; rintro e w1 ⟨rfl, rfl⟩) | (go_at_call_of 12 (Value.int .i64 z); refine (HCB.out _ ((HA0.out.1.step HB.out).alloc _)).mono ?_; rintro e w1 ⟨rfl, rfl⟩))
                  go_roundw
                  case rel => exact ⟨j + 1, by omega, by go_num, by rw [HST1.out, HST2.out]; exact HTW.out.alloc _, below_new HB.out _⟩
                  case measure => simp [intOf]; omega
                | true =>
                  have hown := (HTW.out.alloc (.cells #[.int .i64 a, .int .i64 z] 35)).a
                  go_wp2_with (first
                    | (go_at_call_of 12 (Value.int .i64 a); refine (HCA.out _ ((HA0.out.1.step HB.out).alloc _)).mono ?_; rintro e w1 ⟨rfl, rfl⟩)
                    | (go_at_call_of 12 (Value.int .i64 z); refine (HCB.out _ ((HA0.out.1.step HB.out).alloc _)).mono ?_; rintro e w1 ⟨rfl, rfl⟩)
                    | (go_at_call_of 12 (Value.int .i64 a); refine (HCA.out _ (HA0.out.1.step HB2.out)).mono ?_; rintro e w1 ⟨rfl, rfl⟩)
                    | (at_builtin; refine wpList_append_own_at _ rfl _ _ 33 rfl W0.heap.size 35 i0 (.agg #[.int .i64 0, .int .i64 0]) 2 16 Try.underlying33 hi hz0 hz1 hz2 rfl (by decide) _ _ _ rfl (hown.alloc _) ⟨W.heap.size + 1, 0, none⟩ 1 1 [.int .i64 a, .int .i64 z] rfl rfl (by have := cell_two_new (W.alloc (.cells #[.int .i64 a, .int .i64 z] 35)) (.int .i64 a) (.int .i64 z) 35; rw [World.size_alloc] at this; exact this) (by simp [Value.oneCell']) (by unfold maxLen; omega) (by omega) (by simp; omega) ?_; intro v' w2 hown' hgrow hnil' hloc
                       have HTW2 := Lib.hid (((HTW.out.alloc (.cells #[.int .i64 a, .int .i64 z] 35)).alloc (.cells #[.int .i64 a, .int .i64 z] 35)).putA (es' := F1 ++ [(a, z)]) hgrow (by rw [List.length_append, ecells_snoc]; exact hown') hloc)
                       have HB2 := Lib.hid ((below_new (below_new HB.out _) _).grown hgrow (by simp; omega) (fun q e => (hown.lt q e).1))
                       have z0 : w2.cell? ⟨W.heap.size, 0, none⟩ = some (.int .i64 a) := (World.cell?_of_block (hgrow.block W.heap.size (by simp; omega) (fun e => by have := (HTW.out.a.lt _ e.symm).2; omega))).trans (by simp)
                       have z1 : w2.cell? ⟨W.heap.size, 1, none⟩ = some (.int .i64 z) := (World.cell?_of_block (hgrow.block W.heap.size (by simp; omega) (fun e => by have := (HTW.out.a.lt _ e.symm).2; omega))).trans (by simp)
                       have x0' := (HB2.out.cell (p := ⟨wk.heap.size, 0, none⟩) HN.out.2.2.2.2).trans HN.out.1
                       have x1' := (HB2.out.cell (p := ⟨wk.heap.size, 1, none⟩) HN.out.2.2.2.2).trans HN.out.2.1))
                  go_roundw
                  case rel => exact ⟨j + 1, by omega, by go_num, by rw [HST1.out, HST2.out]; exact HTW2.out, HB2.out⟩
                  case measure => simp [intOf]; omega
              | true =>
                cases cb with
                | true =>
                  cases ce with
                  | true =>
                    go_wp2_with (first | (go_at_call_of 12 (Value.int .i64 a); refine (HCA.out _ ((HA0.out.1.step HB.out).alloc _)).mono ?_; rintro e w1 ⟨rfl, rfl⟩) | (go_at_call_of 12 (Value.int .i64 z); refine (HCB.out _ ((HA0.out.1.step HB.out).alloc _)).mono ?_; rintro e w1 ⟨rfl, rfl⟩))
                    go_roundw
                    case rel => exact ⟨j + 1, by omega, by go_num, by rw [HST1.out, HST2.out]; exact HTW.out.alloc _, below_new HB.out _⟩
                    case measure => simp [intOf]; omega
                  | false =>
                    go_wp2_with (first | (go_at_call_of 12 (Value.int .i64 a); refine (HCA.out _ ((HA0.out.1.step HB.out).alloc _)).mono ?_; rintro e w1 ⟨rfl, rfl⟩) | (go_at_call_of 12 (Value.int .i64 z); refine (HCB.out _ ((HA0.out.1.step HB.out).alloc _)).mono ?_; rintro e w1 ⟨rfl, rfl⟩))
                    go_roundw
                    case rel => exact ⟨j + 1, by omega, by go_num, by rw [HST1.out, HST2.out]; exact HTW.out.alloc _, below_new HB.out _⟩
                    case measure => simp [intOf]; omega
                | false =>
                  cases ce with
                  | true =>
                    have hown := (HTW.out.alloc (.cells #[.int .i64 a, .int .i64 z] 35)).b
                    go_wp2_with (first
                      | (go_at_call_of 12 (Value.int .i64 a); refine (HCA.out _ ((HA0.out.1.step HB.out).alloc _)).mono ?_; rintro e w1 ⟨rfl, rfl⟩)
                      | (go_at_call_of 12 (Value.int .i64 z); refine (HCB.out _ ((HA0.out.1.step HB.out).alloc _)).mono ?_; rintro e w1 ⟨rfl, rfl⟩)
                      | (go_at_call_of 12 (Value.int .i64 a); refine (HCA.out _ (HA0.out.1.step HB2.out)).mono ?_; rintro e w1 ⟨rfl, rfl⟩)
                      | (at_builtin; refine wpList_append_own_at _ rfl _ _ 33 rfl W0.heap.size 35 i0 (.agg #[.int .i64 0, .int .i64 0]) 2 16 Try.underlying33 hi hz0 hz1 hz2 rfl (by decide) _ _ _ rfl (hown.alloc _) ⟨W.heap.size + 1, 0, none⟩ 1 1 [.int .i64 a, .int .i64 z] rfl rfl (by have := cell_two_new (W.alloc (.cells #[.int .i64 a, .int .i64 z] 35)) (.int .i64 a) (.int .i64 z) 35; rw [World.size_alloc] at this; exact this) (by simp [Value.oneCell']) (by unfold maxLen; omega) (by omega) (by simp; omega) ?_; intro v' w2 hown' hgrow hnil' hloc
                         have HTW2 := Lib.hid (((HTW.out.alloc (.cells #[.int .i64 a, .int .i64 z] 35)).alloc (.cells #[.int .i64 a, .int .i64 z] 35)).putB (es' := F2 ++ [(a, z)]) hgrow (by rw [List.length_append, ecells_snoc]; exact hown') hloc)
                         have HB2 := Lib.hid ((below_new (below_new HB.out _) _).grown hgrow (by simp; omega) (fun q e => (hown.lt q e).1))
                         have z0 : w2.cell? ⟨W.heap.size, 0, none⟩ = some (.int .i64 a) := (World.cell?_of_block (hgrow.block W.heap.size (by simp; omega) (fun e => by have := (HTW.out.b.lt _ e.symm).2; omega))).trans (by simp)
                         have z1 : w2.cell? ⟨W.heap.size, 1, none⟩ = some (.int .i64 z) := (World.cell?_of_block (hgrow.block W.heap.size (by simp; omega) (fun e => by have := (HTW.out.b.lt _ e.symm).2; omega))).trans (by simp)
                         have x0' := (HB2.out.cell (p := ⟨wk.heap.size, 0, none⟩) HN.out.2.2.2.2).trans HN.out.1
                         have x1' := (HB2.out.cell (p := ⟨wk.heap.size, 1, none⟩) HN.out.2.2.2.2).trans HN.out.2.1))
                    go_roundw
                    case rel => exact ⟨j + 1, by omega, by go_num, by rw [HST1.out, HST2.out]; exact HTW2.out, HB2.out⟩
                    case measure => simp [intOf]; omega
                  | false =>
                    have hown := (HTW.out.alloc (.cells #[.int .i64 a, .int .i64 z] 35)).b
                    go_wp2_with (first
                      | (go_at_call_of 12 (Value.int .i64 a); refine (HCA.out _ ((HA0.out.1.step HB.out).alloc _)).mono ?_; rintro e w1 ⟨rfl, rfl⟩)
                      | (go_at_call_of 12 (Value.int .i64 z); refine (HCB.out _ ((HA0.out.1.step HB.out).alloc _)).mono ?_; rintro e w1 ⟨rfl, rfl⟩)
                      | (go_at_call_of 12 (Value.int .i64 a); refine (HCA.out _ (HA0.out.1.step HB2.out)).mono ?_; rintro e w1 ⟨rfl, rfl⟩)
                      | (at_builtin; refine wpList_append_own_at _ rfl _ _ 33 rfl W0.heap.size 35 i0 (.agg #[.int .i64 0, .int .i64 0]) 2 16 Try.underlying33 hi hz0 hz1 hz2 rfl (by decide) _ _ _ rfl (hown.alloc _) ⟨W.heap.size + 1, 0, none⟩ 1 1 [.int .i64 a, .int .i64 z] rfl rfl (by have := cell_two_new (W.alloc (.cells #[.int .i64 a, .int .i64 z] 35)) (.int .i64 a) (.int .i64 z) 35; rw [World.size_alloc] at this; exact this) (by simp [Value.oneCell']) (by unfold maxLen; omega) (by omega) (by simp; omega) ?_; intro v' w2 hown' hgrow hnil' hloc
                         have HTW2 := Lib.hid (((HTW.out.alloc (.cells #[.int .i64 a, .int .i64 z] 35)).alloc (.cells #[.int .i64 a, .int .i64 z] 35)).putB (es' := F2 ++ [(a, z)]) hgrow (by rw [List.length_append, ecells_snoc]; exact hown') hloc)
                         have HB2 := Lib.hid ((below_new (below_new HB.out _) _).grown hgrow (by simp; omega) (fun q e => (hown.lt q e).1))
                         have z0 : w2.cell? ⟨W.heap.size, 0, none⟩ = some (.int .i64 a) := (World.cell?_of_block (hgrow.block W.heap.size (by simp; omega) (fun e => by have := (HTW.out.b.lt _ e.symm).2; omega))).trans (by simp)
                         have z1 : w2.cell? ⟨W.heap.size, 1, none⟩ = some (.int .i64 z) := (World.cell?_of_block (hgrow.block W.heap.size (by simp; omega) (fun e => by have := (HTW.out.b.lt _ e.symm).2; omega))).trans (by simp)
                         have x0' := (HB2.out.cell (p := ⟨wk.heap.size, 0, none⟩) HN.out.2.2.2.2).trans HN.out.1
                         have x1' := (HB2.out.cell (p := ⟨wk.heap.size, 1, none⟩) HN.out.2.2.2.2).trans HN.out.2.1))
                    go_roundw
                    case rel => exact ⟨j + 1, by omega, by go_num, by rw [HST1.out, HST2.out]; exact HTW2.out, HB2.out⟩
                    case measure => simp [intOf]; omega
            · obtain rfl : j = es.length := by omega
              have hTW := HTW.out
              rw [List.take_length] at hTW
              obtain ⟨F1, hF1⟩ : ∃ F1, es.filter (fun q => entP ⟨hd, bl, la, pa⟩ q.1 q.2) = F1 := ⟨_, rfl⟩
              obtain ⟨F2, hF2⟩ : ∃ F2, es.filter (fun q => exiP ⟨hd, bl, la, pa⟩ q.1 q.2) = F2 := ⟨_, rfl⟩
              have hl1 : F1.length ≤ 1099511627776 := by rw [← hF1]; exact Nat.le_trans (List.length_filter_le _ _) hME
              have hl2 : F2.length ≤ 1099511627776 := by rw [← hF2]; exact Nat.le_trans (List.length_filter_le _ _) hME
              rw [hF1, hF2] at hTW
              simp only [hF1] at HEN
              simp only [hF2] at HEX
              obtain ⟨R1, cap1, rfl, hE1⟩ := EV.of_own hTW.a
              obtain ⟨R2, cap2, rfl, hE2⟩ := EV.of_own hTW.b
              have HE1 := Lib.hid hE1
              have HE2 := Lib.hid hE2
              have HSM := Lib.hid (fun A B es c d W h h' hl => same16s A B es c d W h h' hl)
              have HQ := Lib.hid (show Q6 w.heap.size wk.heap.size A B A1 B1 bs.length c m d hd pa bl la c1 d1 bs W from ((⟨HG0.out.1, HG0.out.2.1, HN.out.1, HN.out.2.1, HN.out.2.2.1, HN.out.2.2.2.1, HG0.out.2.2, HN.out.2.2.2.2, HA0.out.1, HA0.out.2, HBV0.out⟩ : Q6 w.heap.size wk.heap.size A B A1 B1 bs.length c m d hd pa bl la c1 d1 bs W0).below HB.out))
              clear hTW hE1 hE2 hF1 hF2 HTW
              have y0 := HQ.out.y0
              have y1 := HQ.out.y1
              have x0 := HQ.out.x0
              have x1 := HQ.out.x1
              have x2 := HQ.out.x2
              have x3 := HQ.out.x3
              go_wp2_with fail
              refine (HEN.out _ HQ.out.bv HQ.out.i1 HQ.out.i2).mono ?_
              rintro e w5 ⟨⟨R3, cap3, rfl, hE3⟩, hb5⟩
              have HQ5 := Lib.hid (HQ.out.below hb5)
              have HB5 := Lib.hid (HB.out.trans (hb5.mono HB.out.size))
              have HE15 := Lib.hid (HE1.out.step hb5)
              have HE25 := Lib.hid (HE2.out.step hb5)
              have HE35 := Lib.hid hE3
              clear hb5 hE3 y0 y1 x0 x1 x2 x3 HQ
              go_wp2_with fail
              refine (HSM.out _ _ _ _ _ _ HE35.out HE15.out hl1).mono ?_
              rintro e w6 ⟨rfl, hb6⟩
              have HQ6 := Lib.hid (HQ5.out.below hb6)
              have HB6 := Lib.hid (HB5.out.trans (hb6.mono HB5.out.size))
              have HE26 := Lib.hid (HE25.out.step hb6)
              clear hb6 HQ5 HE15 HE25 HE35
              have y0 := HQ6.out.y0
              have y1 := HQ6.out.y1
              have x0 := HQ6.out.x0
              have x1 := HQ6.out.x1
              have x2 := HQ6.out.x2
              have x3 := HQ6.out.x3
              go_wp2_with fail
              refine (HEX.out _ HQ6.out.bv HQ6.out.i1 HQ6.out.i2).mono ?_
              rintro e w7 ⟨⟨R4, cap4, rfl, hE4⟩, hb7⟩
              have HB7 := Lib.hid (HB6.out.trans (hb7.mono HB6.out.size))
              have HE27 := Lib.hid (HE26.out.step hb7)
              have HE47 := Lib.hid hE4
              clear hb7 hE4 y0 y1 x0 x1 x2 x3 HQ6
              go_wp2_with fail
              refine (HSM.out _ _ _ _ _ _ HE47.out HE27.out hl2).mono ?_
              rintro e w8 ⟨rfl, hb8⟩
              have HB8 := Lib.hid (HB7.out.trans (hb8.mono HB7.out.size))
              clear hb8
              go_wp2_with fail
              go_roundw
              case rel => exact ⟨k + 1, by omega, by go_num, HB0.out.trans (HB8.out.mono HB0.out.size)⟩
              case measure => simp [intOf]; omega
        · obtain rfl : k = ls.length := by omega
          go_wp2_with fail
          go_ret
          exact ⟨rfl, HBW.out.trans (HB.out.mono HBW.out.size)⟩
end Go.Proofs.Ytcbofikjcgdjmaa
