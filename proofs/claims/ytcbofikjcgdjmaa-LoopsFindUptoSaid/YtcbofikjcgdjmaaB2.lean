/- How lists of loops, edges and graphs lie in memory; the contracts of Depth and Innermost. -/
import Derived.Test.YtcbofikjcgdjmaaB1
namespace Go.Proofs.Ytcbofikjcgdjmaa
set_option linter.unusedVariables false
set_option linter.unusedSimpArgs false
open Go.RowKit

/-- a loop -/
structure Lp where
  hd : Int
  bl : List Int
  la : List Int
  pa : Int
instance : Inhabited Lp := ⟨⟨0, [], [], 0⟩⟩
def nthL (l : List Lp) (i : Nat) : Lp := l.getD i default
/-- the four cells of a loop from the cell o of block b on -/
def LC (w : World) (b o : Nat) (x : Lp) : Prop :=
  ∃ A c B d, w.cell? ⟨b, o, none⟩ = some (.int .i64 x.hd) ∧ w.cell? ⟨b, o + 1, none⟩ = some (.slice A x.bl.length c) ∧ w.cell? ⟨b, o + 2, none⟩ = some (.slice B x.la.length d) ∧ w.cell? ⟨b, o + 3, none⟩ = some (.int .i64 x.pa) ∧ IV w A x.bl ∧ IV w B x.la
theorem LC.step {w w' : World} {b o : Nat} {x : Lp} (h : LC w b o x) (hlt : b < w.heap.size) (hb : Below w.heap.size w w') : LC w' b o x := by
  obtain ⟨A, c, B, d, h0, h1, h2, h3, hA, hB⟩ := h
  exact ⟨A, c, B, d, (hb.cell (p := ⟨b, o, none⟩) hlt).trans h0, (hb.cell (p := ⟨b, o + 1, none⟩) hlt).trans h1, (hb.cell (p := ⟨b, o + 2, none⟩) hlt).trans h2, (hb.cell (p := ⟨b, o + 3, none⟩) hlt).trans h3, hA.step hb, hB.step hb⟩
/-- behind the address A lie the loops ls -/
def LV (w : World) (A : Option Addr) (ls : List Lp) : Prop :=
  0 < ls.length → ∃ b off, A = some ⟨b, off, none⟩ ∧ b < w.heap.size ∧ ∀ j, j < ls.length → LC w b (off + j * 4) (nthL ls j)
theorem LV.step {w w' : World} {A : Option Addr} {ls : List Lp} (h : LV w A ls) (hb : Below w.heap.size w w') : LV w' A ls := fun hp => by
  obtain ⟨b, off, hA, hlt, hc⟩ := h hp
  exact ⟨b, off, hA, Nat.lt_of_lt_of_le hlt hb.size, fun j hj => (hc j hj).step hlt hb⟩
/-- each loop is of a size that memory holds -/
def LZ (ls : List Lp) : Prop := ∀ j, j < ls.length → (nthL ls j).bl.length ≤ 1099511627776 ∧ (nthL ls j).la.length ≤ 1099511627776

def depthK (ls : List Lp) (x : Int) : Nat → Nat
  | 0 => 0
  | k + 1 => depthK ls x k + if (nthL ls k).bl.contains x then 1 else 0
theorem depthK_le (ls : List Lp) (x : Int) : ∀ k, depthK ls x k ≤ k
  | 0 => Nat.le_refl _
  | k + 1 => by have := depthK_le ls x k; unfold depthK; split <;> omega

set_option maxRecDepth 100000 in
set_option maxHeartbeats 4000000 in
theorem depth13 (A : Option Addr) (ls : List Lp) (c : Nat) (x : Int) (w : World) (h : LV w A ls) (hl : ls.length ≤ 1099511627776) (hz : LZ ls) :
    Calls Try.prog 13 #[.slice A ls.length c, .int .i64 x] w fun e w' => e = .returned (.int .i64 (depthK ls x ls.length)) ∧ Below w.heap.size w w' := by
  have HS := Lib.hid h
  have HZ := Lib.hid hz
  have HK := Lib.hid (depthK_le ls x)
  clear h hz
  go_enter Try.func13, Try.ntmps13
  go_wp2_with fail
  go_loopw [5, 10] (fun n i wr => ∃ k d : Nat, k ≤ ls.length ∧ i = .int .i64 k ∧ n = .int .i64 d ∧ d = depthK ls x k ∧ Below w.heap.size w wr) (fun _ i _ => ls.length - (intOf i).toNat)
  case atStart => exact ⟨0, 0, by omega, rfl, rfl, rfl, Below.refl _ _⟩
  case round =>
    obtain ⟨k, d, hk, rfl, rfl, hd, hB⟩ := hrel
    have hdk : d ≤ k := by rw [hd]; exact HK.out k
    have HD := Lib.hid hd
    have HB := Lib.hid hB
    clear hd hB
    by_cases hlt : k < ls.length
    · obtain ⟨b, off, rfl, hbl, hc⟩ := (HS.out.step HB.out) (by omega)
      obtain ⟨A1, c1, B1, d1, g0, g1, g2, g3, hA1, hB1⟩ := hc k hlt
      have hz := (HZ.out k hlt).1
      clear hc HS HZ
      obtain ⟨y, hy⟩ : ∃ y, nthL ls k = y := ⟨_, rfl⟩
      rw [hy] at g0 g1 g2 g3 hA1 hz
      have HY := Lib.hid hy
      clear hy
      obtain ⟨hd, bl, la, pa⟩ := y
      dsimp only at g0 g1 g2 g3 hA1 hz
      have HA := Lib.hid hA1
      have H1 := Lib.hid (fun W => contains30 A1 bl c1 x W)
      clear hA1 hB1
      obtain ⟨r, hr⟩ : ∃ r, bl.contains x = r := ⟨_, rfl⟩
      have HR := Lib.hid hr
      simp only [hr] at H1
      cases r with
      | true =>
        go_wp2_with (go_at_call 30; refine (H1.out _ (HA.out.alloc _) hz).mono ?_; rintro e w1 ⟨rfl, rfl⟩)
        go_roundw
        case rel => exact ⟨k + 1, d + 1, by omega, by go_num, by go_num, by rw [depthK, HY.out, HR.out, ← HD.out]; rfl, below_new HB.out _⟩
        case measure => simp [intOf]; omega
      | false =>
        go_wp2_with (go_at_call 30; refine (H1.out _ (HA.out.alloc _) hz).mono ?_; rintro e w1 ⟨rfl, rfl⟩)
        go_roundw
        case rel => exact ⟨k + 1, d, by omega, by go_num, by go_num, by rw [depthK, HY.out, HR.out, ← HD.out]; rfl, below_new HB.out _⟩
        case measure => simp [intOf]; omega
    · obtain rfl : k = ls.length := by omega
      go_wp2_with fail
      go_ret
      exact ⟨ret_i (by rw [HD.out]), HB.out⟩

/-- the index of the smallest of the first k loops that include a block, or -1 -/
def bestK (ls : List Lp) (x : Int) : Nat → Int
  | 0 => -1
  | k + 1 => if (nthL ls k).bl.contains x && (decide (bestK ls x k < 0) || decide ((nthL ls k).bl.length < (nthL ls (bestK ls x k).toNat).bl.length)) then k else bestK ls x k
theorem bestK_in (ls : List Lp) (x : Int) : ∀ k, -1 ≤ bestK ls x k ∧ bestK ls x k < k
  | 0 => by simp [bestK]
  | k + 1 => by have := bestK_in ls x k; unfold bestK; split <;> omega

set_option maxRecDepth 100000 in
set_option maxHeartbeats 4000000 in
theorem innermost14 (A : Option Addr) (ls : List Lp) (c : Nat) (x : Int) (w : World) (h : LV w A ls) (hl : ls.length ≤ 1099511627776) (hz : LZ ls) :
    Calls Try.prog 14 #[.slice A ls.length c, .int .i64 x] w fun e w' => e = .returned (.int .i64 (bestK ls x ls.length)) ∧ Below w.heap.size w w' := by
  have HS := Lib.hid h
  have HZ := Lib.hid hz
  have HK := Lib.hid (bestK_in ls x)
  clear h hz
  go_enter Try.func14, Try.ntmps14
  go_wp2_with fail
  go_loopw [5, 10] (fun n i wr => ∃ (k : Nat) (m : Int), k ≤ ls.length ∧ i = .int .i64 k ∧ n = .int .i64 m ∧ m = bestK ls x k ∧ Below w.heap.size w wr) (fun _ i _ => ls.length - (intOf i).toNat)
  case atStart => exact ⟨0, -1, by omega, rfl, rfl, rfl, Below.refl _ _⟩
  case round =>
    obtain ⟨k, m, hk, rfl, rfl, hd, hB⟩ := hrel
    have hdk : -1 ≤ m ∧ m < k := by rw [hd]; exact HK.out k
    have HD := Lib.hid hd
    have HB := Lib.hid hB
    clear hd hB
    by_cases hlt : k < ls.length
    · obtain ⟨b, off, rfl, hbl, hc⟩ := (HS.out.step HB.out) (by omega)
      obtain ⟨A1, c1, B1, d1, g0, g1, g2, g3, hA1, hB1⟩ := hc k hlt
      have hz := (HZ.out k hlt).1
      have HC := Lib.hid hc
      clear hc HS
      obtain ⟨y, hy⟩ : ∃ y, nthL ls k = y := ⟨_, rfl⟩
      rw [hy] at g0 g1 g2 g3 hA1 hz
      have HY := Lib.hid hy
      clear hy
      obtain ⟨hd, bl, la, pa⟩ := y
      dsimp only at g0 g1 g2 g3 hA1 hz
      have HA := Lib.hid hA1
      have H1 := Lib.hid (fun W => contains30 A1 bl c1 x W)
      clear hA1 hB1
      obtain ⟨r, hr⟩ : ∃ r, bl.contains x = r := ⟨_, rfl⟩
      have HR := Lib.hid hr
      simp only [hr] at H1
      clear hr
      have hst : bestK ls x (k + 1) = if r && (decide (m < 0) || decide (bl.length < (nthL ls m.toNat).bl.length)) then (k : Int) else m := by rw [bestK, HY.out, HR.out, ← HD.out]
      have HST := Lib.hid hst
      clear hst
      cases r with
      | false =>
        go_wp2_with fail
        go_quiet (first | (go_at_call 30; refine Calls.quiet_of_same (H1.out _ ?_ hz); exact (HA.out.alloc _).drewN _))
        go_wp2_with fail
        go_roundw
        case rel => exact ⟨k + 1, m, by omega, by go_num, by go_num, by rw [HST.out]; rfl, below_drewN (below_new HB.out _) _⟩
        case measure => simp [intOf]; omega
      | true =>
        by_cases hm : m < 0
        · have q1 : decide (m < 0) = true := by simpa using hm
          go_wp2_with fail
          go_quiet (first | (go_at_call 30; refine Calls.quiet_of_same (H1.out _ ?_ hz); exact (HA.out.alloc _).drewN _))
          go_wp2_with fail
          go_roundw
          case rel => exact ⟨k + 1, k, by omega, by go_num, by go_num, by rw [HST.out, q1]; rfl, below_drewN (below_new HB.out _) _⟩
          case measure => simp [intOf]; omega
        · have q1 : decide (m < 0) = false := by simpa using hm
          obtain ⟨m', rfl⟩ : ∃ m' : Nat, m = (m' : Int) := ⟨m.toNat, by omega⟩
          have hm' : m' < ls.length := by omega
          obtain ⟨A2, c2, B2, d2, f0, f1, f2, f3, hA2, hB2⟩ := HC.out m' hm'
          obtain ⟨y2, hy2⟩ : ∃ y2, nthL ls m' = y2 := ⟨_, rfl⟩
          rw [hy2] at f0 f1 f2 f3
          have HY2 := Lib.hid hy2
          have hz2 := (HZ.out m' hm').1
          rw [hy2] at hz2
          clear hy2 HC HZ hA2 hB2
          obtain ⟨hd2, bl2, la2, pa2⟩ := y2
          dsimp only at f0 f1 f2 f3 hz2
          obtain ⟨n1, hn1⟩ : ∃ n1, bl.length = n1 := ⟨_, rfl⟩
          obtain ⟨n2, hn2⟩ : ∃ n2, bl2.length = n2 := ⟨_, rfl⟩
          have hst2 : bestK ls x (k + 1) = if n1 < n2 then (k : Int) else (m' : Int) := by
            rw [HST.out, q1, Int.toNat_natCast, HY2.out, hn1, hn2]
            by_cases e : n1 < n2
            · rw [if_pos e, decide_eq_true e]; rfl
            · rw [if_neg e, decide_eq_false e]; rfl
          have HS2 := Lib.hid hst2
          clear hst2 HST
          rw [hn1] at g1 hz
          rw [hn2] at f1
          rw [hn1] at H1
          have HN1 := Lib.hid hn1
          clear hn1 hn2
          by_cases e : n1 < n2
          · have q2 : decide ((n1 : Int) < (n2 : Int)) = true := by simpa using e
            go_wp2_with fail
            go_quiet (first | (go_at_call 30; refine Calls.quiet_of_same (H1.out _ ?_ (HN1.out ▸ hz)); exact (HA.out.alloc _).drewN _))
            go_wp2_with fail
            go_roundw
            case rel => exact ⟨k + 1, k, by omega, by go_num, by go_num, by rw [HS2.out, if_pos e], below_drewN (below_new HB.out _) _⟩
            case measure => simp [intOf]; omega
          · have q2 : decide ((n1 : Int) < (n2 : Int)) = false := by simpa using e
            go_wp2_with fail
            go_quiet (first | (go_at_call 30; refine Calls.quiet_of_same (H1.out _ ?_ (HN1.out ▸ hz)); exact (HA.out.alloc _).drewN _))
            go_wp2_with fail
            go_roundw
            case rel => exact ⟨k + 1, m', by omega, by go_num, by go_num, by rw [HS2.out, if_neg e], below_drewN (below_new HB.out _) _⟩
            case measure => simp [intOf]; omega
    · obtain rfl : k = ls.length := by omega
      go_wp2_with fail
      go_ret
      exact ⟨ret_i (by rw [HD.out]), HB.out⟩
end Go.Proofs.Ytcbofikjcgdjmaa
