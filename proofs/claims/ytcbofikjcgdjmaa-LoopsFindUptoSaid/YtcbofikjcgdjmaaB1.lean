/- How slices of numbers lie in memory; the contracts of in, position, Contains and Ints. -/
import Derived.Test.YtcbofikjcgdjmaaShelfP
import Derived.WalkKit
import Derived.WalkSpells
import Derived.WalkLawsBesides
import Derived.Lib.Hide
import Derived.BigQuiet
import Derived.IntWalk
import Derived.Deep.RegionHeld3
namespace Go.Proofs.Ytcbofikjcgdjmaa
set_option linter.unusedVariables false
set_option linter.unusedSimpArgs false
open Go.RowKit

/-- behind the address A lie the numbers xs (nothing is said of A where there are none) -/
def IV (w : World) (A : Option Addr) (xs : List Int) : Prop :=
  0 < xs.length → ∃ b off, A = some ⟨b, off, none⟩ ∧ b < w.heap.size ∧ ∀ j, j < xs.length → w.cell? ⟨b, off + j, none⟩ = some (.int .i64 (xs.getD j 0))
theorem IV.step {w w' : World} {A : Option Addr} {xs : List Int} (h : IV w A xs) (hb : Below w.heap.size w w') : IV w' A xs := fun hp => by
  obtain ⟨b, off, hA, hlt, hc⟩ := h hp
  exact ⟨b, off, hA, Nat.lt_of_lt_of_le hlt hb.size, fun j hj => (hb.cell (p := ⟨b, off + j, none⟩) hlt).trans (hc j hj)⟩
theorem IV.alloc {w : World} {A : Option Addr} {xs : List Int} (h : IV w A xs) (o : Obj) : IV (w.alloc o) A xs := h.step ((Below.refl _ _).alloc (Nat.le_refl _) o)
theorem IV.drewN {w : World} {A : Option Addr} {xs : List Int} (h : IV w A xs) (q : Nat) : IV (w.drewN q) A xs := h.step ⟨rfl, rfl, rfl, Nat.le_refl _, fun _ _ => rfl⟩
theorem IV.nil (w : World) (A : Option Addr) : IV w A [] := fun h => absurd h (by simp)

theorem below_new {w w' : World} (h : Below w.heap.size w w') (o : Obj) : Below w.heap.size w (w'.alloc o) := h.alloc h.size o
theorem contains30 (A : Option Addr) (xs : List Int) (c : Nat) (x : Int) (w : World) (h : IV w A xs) (hl : xs.length ≤ 1099511627776) :
    Calls Try.prog 30 #[.slice A xs.length c, .int .i64 x] w fun e w' => e = .returned (.bool (xs.contains x)) ∧ w' = w := by
  cases xs with
  | nil => exact (Try.slices_Contains_int_empty A c x w).mono fun e w' h => ⟨by rw [h.1]; rfl, h.2⟩
  | cons y ys =>
    obtain ⟨b, off, rfl, hlt, hc⟩ := h (by simp)
    refine (Try.slices_Contains_int b off (y :: ys).length c (y :: ys) x w (Nat.le_refl _) (by omega) hc).mono fun e w' h => ⟨?_, h.2⟩
    rw [h.1, List.take_length]

theorem below_drewN {n : Nat} {w w' : World} (h : Below n w w') (q : Nat) : Below n w (w'.drewN q) := ⟨h.os, h.tape, h.output, h.size, h.block⟩
theorem getD_mem {xs : List Int} {k : Nat} (h : k < xs.length) : xs.getD k 0 ∈ xs := by
  rw [List.getD_eq_getElem?_getD, List.getElem?_eq_getElem h]; exact List.getElem_mem h
theorem take_succ_getD {xs : List Int} {k : Nat} (h : k < xs.length) : xs.take (k + 1) = xs.take k ++ [xs.getD k 0] := by
  rw [List.take_add_one, List.getElem?_eq_getElem h, List.getD_eq_getElem?_getD, List.getElem?_eq_getElem h]; rfl
theorem contains_of {xs : List Int} {k : Nat} {x y : Int} (h : k < xs.length) (hy : xs.getD k 0 = y) (e : y = x) : xs.contains x = true := by
  rw [List.contains_iff_mem]; exact e ▸ hy ▸ getD_mem h
theorem contains_step {xs : List Int} {k : Nat} {x y : Int} (h : k < xs.length) (hx : (xs.take k).contains x = false) (hy : xs.getD k 0 = y) (e : ¬ y = x) : (xs.take (k + 1)).contains x = false := by
  rw [take_succ_getD h, hy]
  rw [← Bool.not_eq_true, List.contains_iff_mem] at hx ⊢
  rw [List.mem_append, List.mem_singleton]
  exact fun h => h.elim hx fun h => e h.symm
theorem ret_b {a b : Bool} (h : a = b) : Ending.returned (.bool a) = Ending.returned (.bool b) := by rw [h]
theorem ret_i {k : IntKind} {a b : Int} (h : a = b) : Ending.returned (.int k a) = Ending.returned (.int k b) := by rw [h]

set_option maxRecDepth 100000 in
set_option maxHeartbeats 4000000 in
theorem in12 (A : Option Addr) (xs : List Int) (c : Nat) (x : Int) (w : World) (h : IV w A xs) (hl : xs.length ≤ 1099511627776) :
    Calls Try.prog 12 #[.slice A xs.length c, .int .i64 x] w fun e w' => e = .returned (.bool (xs.contains x)) ∧ w' = w := by
  have HS := Lib.hid h
  clear h
  go_enter Try.func12, Try.ntmps12
  go_wp2_with fail
  go_loopw [9] (fun i wr => ∃ k : Nat, k ≤ xs.length ∧ i = .int .i64 k ∧ (xs.take k).contains x = false ∧ wr = w) (fun i _ => xs.length - (intOf i).toNat)
  case atStart => exact ⟨0, by omega, rfl, by simp, rfl⟩
  case round =>
    obtain ⟨k, hk, rfl, hx, rfl⟩ := hrel
    by_cases hlt : k < xs.length
    · obtain ⟨b, off, rfl, hbl, hc⟩ := HS.out (by omega)
      have g := hc k hlt
      clear hc HS
      obtain ⟨y, hy⟩ : ∃ y, xs.getD k 0 = y := ⟨_, rfl⟩
      rw [hy] at g
      have HY := Lib.hid hy
      have HX := Lib.hid hx
      clear hy hx
      by_cases hq : y = x
      · have hqb : (y == x) = true := by simpa using hq
        have HQ := Lib.hid hq
        clear hq
        go_wp2_with fail
        go_ret
        exact ⟨ret_b (contains_of hlt HY.out HQ.out).symm, rfl⟩
      · have hqb : (y == x) = false := by simpa using hq
        have HQ := Lib.hid hq
        clear hq
        go_wp2_with fail
        go_roundw
        case rel => exact ⟨k + 1, by omega, by go_num, contains_step hlt HX.out HY.out HQ.out, trivial⟩
        case measure => simp [intOf]; omega
    · obtain rfl : k = xs.length := by omega
      have HX := Lib.hid hx
      clear hx
      go_wp2_with fail
      go_ret
      exact ⟨ret_b (by have := HX.out; rw [List.take_length] at this; exact this.symm), rfl⟩

/-- the place of a number in a list, or -1 -/
def posFrom (xs : List Int) (x : Int) (k : Nat) : Nat → Int
  | 0 => -1
  | n + 1 => if xs.getD k 0 = x then k else posFrom xs x (k + 1) n
def posOf (xs : List Int) (x : Int) : Int := posFrom xs x 0 xs.length
set_option maxRecDepth 100000 in
set_option maxHeartbeats 4000000 in
theorem position41 (A : Option Addr) (xs : List Int) (c : Nat) (x : Int) (w : World) (h : IV w A xs) (hl : xs.length ≤ 1099511627776) :
    Calls Try.prog 41 #[.slice A xs.length c, .int .i64 x] w fun e w' => e = .returned (.int .i64 (posOf xs x)) ∧ w' = w := by
  have HS := Lib.hid h
  clear h
  go_enter Try.func41, Try.ntmps41
  go_wp2_with fail
  go_loopw [5] (fun i wr => ∃ k : Nat, k ≤ xs.length ∧ i = .int .i64 k ∧ posOf xs x = posFrom xs x k (xs.length - k) ∧ wr = w) (fun i _ => xs.length - (intOf i).toNat)
  case atStart => exact ⟨0, by omega, rfl, rfl, rfl⟩
  case round =>
    obtain ⟨k, hk, rfl, hx, rfl⟩ := hrel
    have HX := Lib.hid hx
    clear hx
    by_cases hlt : k < xs.length
    · obtain ⟨b, off, rfl, hbl, hc⟩ := HS.out (by omega)
      have g := hc k hlt
      clear hc HS
      have hn : xs.length - k = (xs.length - (k + 1)) + 1 := by omega
      have HN := Lib.hid hn
      clear hn
      obtain ⟨y, hy⟩ : ∃ y, xs.getD k 0 = y := ⟨_, rfl⟩
      rw [hy] at g
      have HY := Lib.hid hy
      clear hy
      by_cases hq : y = x
      · have hqb : (y == x) = true := by simpa using hq
        have HQ := Lib.hid hq
        clear hq
        go_wp2_with fail
        go_ret
        exact ⟨ret_i (by rw [HX.out, HN.out, posFrom, if_pos (HY.out.trans HQ.out)]), rfl⟩
      · have hqb : (y == x) = false := by simpa using hq
        have HQ := Lib.hid hq
        clear hq
        go_wp2_with fail
        go_roundw
        case rel => exact ⟨k + 1, by omega, by go_num, by rw [HX.out, HN.out, posFrom, if_neg (by rw [HY.out]; exact HQ.out)], trivial⟩
        case measure => simp [intOf]; omega
    · obtain rfl : k = xs.length := by omega
      go_wp2_with fail
      go_ret
      exact ⟨ret_i (by rw [HX.out, Nat.sub_self, posFrom]), rfl⟩

set_option maxRecDepth 100000 in
set_option maxHeartbeats 4000000 in
theorem ints24 (A B : Option Addr) (xs ys : List Int) (c d : Nat) (w : World) (h : IV w A xs) (h' : IV w B ys) (hl : xs.length ≤ 1099511627776) (hl' : ys.length ≤ 1099511627776) :
    Calls Try.prog 24 #[.slice A xs.length c, .slice B ys.length d] w fun e w' => e = .returned (.bool (xs == ys)) ∧ Below w.heap.size w w' := by
  have HS := Lib.hid h
  have HT := Lib.hid h'
  clear h h'
  by_cases hne : xs.length = ys.length
  · have HE := Lib.hid hne
    rw [← hne]
    rw [← hne] at hl'
    clear hne
    go_enter Try.func24, Try.ntmps24
    go_wp2_with fail
    go_loopw [5] (fun i wr => ∃ k : Nat, k ≤ xs.length ∧ i = .int .i64 k ∧ xs.take k = ys.take k ∧ Below w.heap.size w wr) (fun i _ => xs.length - (intOf i).toNat)
    case atStart => exact ⟨0, by omega, rfl, rfl, Below.refl _ _⟩
    case round =>
      obtain ⟨k, hk, rfl, hx, hB⟩ := hrel
      have HX := Lib.hid hx
      have HB := Lib.hid hB
      clear hx hB
      by_cases hlt : k < xs.length
      · obtain ⟨b, off, rfl, hbl, hc⟩ := (HS.out.step HB.out) (by omega)
        have g := hc k hlt
        clear hc
        obtain ⟨b', off', rfl, hbl', hc⟩ := (HT.out.step HB.out) (by have := HE.out; omega)
        have g' := hc k (by have := HE.out; omega)
        clear hc HS HT
        obtain ⟨y, hy⟩ : ∃ y, xs.getD k 0 = y := ⟨_, rfl⟩
        rw [hy] at g
        obtain ⟨z, hz⟩ : ∃ z, ys.getD k 0 = z := ⟨_, rfl⟩
        rw [hz] at g'
        have HY := Lib.hid hy
        have HZ := Lib.hid hz
        clear hy hz
        by_cases hq : y = z
        · have hqb : (y != z) = false := by simpa using hq
          have HQ := Lib.hid hq
          clear hq
          go_wp2_with fail
          go_quiet (fail)
          go_wp2_with fail
          go_roundw
          case rel => exact ⟨k + 1, by omega, by go_num, by rw [take_succ_getD hlt, take_succ_getD (HE.out ▸ hlt), HX.out, HY.out, HZ.out, HQ.out], below_drewN HB.out _⟩
          case measure => simp [intOf]; omega
        · have hqb : (y != z) = true := by simpa using hq
          have HQ := Lib.hid hq
          clear hq
          go_wp2_with fail
          go_quiet (fail)
          go_wp2_with fail
          go_ret
          refine ⟨ret_b ?_, below_drewN HB.out _⟩
          symm
          rw [beq_eq_false_iff_ne]
          exact fun e => HQ.out (by rw [← HY.out, ← HZ.out, e])
      · obtain rfl : k = xs.length := by omega
        go_wp2_with fail
        go_ret
        refine ⟨ret_b ?_, HB.out⟩
        symm
        have := HX.out
        rw [List.take_length, HE.out, List.take_length] at this
        rw [this]; simp
  · have hb : ((xs.length : Int) != (ys.length : Int)) = true := by simp; omega
    have HE := Lib.hid hne
    clear hne
    go_enter Try.func24, Try.ntmps24
    go_wp2_with fail
    go_ret
    refine ⟨ret_b ?_, Below.refl _ _⟩
    symm
    rw [beq_eq_false_iff_ne]
    exact fun e => HE.out (by rw [e])
end Go.Proofs.Ytcbofikjcgdjmaa
