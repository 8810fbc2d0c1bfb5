/- Plain laws of sequences: bounds, division, the influence of the first state. -/
import Derived.Test.YtgjpenhfechhcaaA22
namespace Go.Proofs.Ytgjpenhfechhcaa
set_option linter.unusedVariables false
set_option linter.unusedSimpArgs false
open Go.RowKit

theorem tval_parts {mul div tk hz : Int} (h : tval mul div tk hz = true) : (0 ≤ mul ∧ mul ≤ 1000) ∧ (0 ≤ div ∧ div ≤ 1000) ∧ (0 ≤ tk ∧ tk ≤ 1000) ∧ (0 ≤ hz ∧ hz ≤ 1000) := by
  unfold tval okD at h
  simpa using h
theorem cyc_ge (mul div tk hz op a b c m s : Int) (taken : Bool) (ht : 0 ≤ tk) (hh : 0 ≤ hz) : baseV mul div op ≤ cycV mul div tk hz op a b c m s taken := by
  unfold cycV; split <;> split <;> omega
theorem haz_nil {op a b c m s : Int} (h : (readsV op a b c m).length = 0) : hazB op a b c m s = false := by
  unfold hazB; rw [List.length_eq_zero_iff.1 h]; rfl
theorem cyc_le (mul div tk hz op a b c m s : Int) (taken : Bool) (ht : 0 ≤ tk) (hh : 0 ≤ hz) : cycV mul div tk hz op a b c m s taken ≤ mostV mul div tk hz op a b c m := by
  unfold cycV mostV
  by_cases hl : (readsV op a b c m).length = 0
  · rw [haz_nil hl, if_pos hl]
    cases taken <;> cases brB op <;> simp <;> omega
  · rw [if_neg hl]
    cases hazB op a b c m s <;> cases taken <;> cases brB op <;> simp <;> omega
/-- the sums of Least and of Most -/
def lowK (mul div : Int) (l : List Ins) : Nat → Int
  | 0 => 0
  | k + 1 => lowK mul div l k + baseV mul div (nth l k).op
def highK (mul div tk hz : Int) (l : List Ins) : Nat → Int
  | 0 => 0
  | k + 1 => highK mul div tk hz l k + mostV mul div tk hz (nth l k).op (nth l k).a (nth l k).b (nth l k).c (nth l k).m
theorem low_in {mul div : Int} (l : List Ins) (hm : 0 ≤ mul ∧ mul ≤ 1000) (hd : 0 ≤ div ∧ div ≤ 1000) : ∀ k : Nat, 0 ≤ lowK mul div l k ∧ lowK mul div l k ≤ 3001 * (k : Int) := by
  intro k
  induction k with
  | zero => simp [lowK]
  | succ k ih =>
    have h := baseV_in (op := (nth l k).op) hm hd
    show 0 ≤ lowK mul div l k + _ ∧ lowK mul div l k + _ ≤ _
    omega
theorem high_in {mul div tk hz : Int} (l : List Ins) (hm : 0 ≤ mul ∧ mul ≤ 1000) (hd : 0 ≤ div ∧ div ≤ 1000) (ht : 0 ≤ tk ∧ tk ≤ 1000) (hh : 0 ≤ hz ∧ hz ≤ 1000) : ∀ k : Nat, 0 ≤ highK mul div tk hz l k ∧ highK mul div tk hz l k ≤ 3001 * (k : Int) := by
  intro k
  induction k with
  | zero => simp [highK]
  | succ k ih =>
    have h := mostV_in (op := (nth l k).op) (a := (nth l k).a) (b := (nth l k).b) (c := (nth l k).c) (m := (nth l k).m) hm hd ht hh
    show 0 ≤ highK mul div tk hz l k + _ ∧ highK mul div tk hz l k + _ ≤ _
    omega
theorem seq_between (mul div tk hz s : Int) (l : List Ins) (ht : 0 ≤ tk) (hh : 0 ≤ hz) : ∀ k : Nat, lowK mul div l k ≤ (seqK mul div tk hz s l k).1 ∧ (seqK mul div tk hz s l k).1 ≤ highK mul div tk hz l k := by
  intro k
  induction k with
  | zero => simp [lowK, highK, seqK]
  | succ k ih =>
    have h1 := cyc_ge mul div tk hz (nth l k).op (nth l k).a (nth l k).b (nth l k).c (nth l k).m (seqK mul div tk hz s l k).2 false ht hh
    have h2 := cyc_le mul div tk hz (nth l k).op (nth l k).a (nth l k).b (nth l k).c (nth l k).m (seqK mul div tk hz s l k).2 false ht hh
    show lowK mul div l k + _ ≤ (seqK mul div tk hz s l k).1 + _ ∧ (seqK mul div tk hz s l k).1 + _ ≤ highK mul div tk hz l k + _
    omega
theorem seqK_succ (mul div tk hz s : Int) (l : List Ins) (k : Nat) : seqK mul div tk hz s l (k + 1) = ((seqK mul div tk hz s l k).1 + cycV mul div tk hz (nth l k).op (nth l k).a (nth l k).b (nth l k).c (nth l k).m (seqK mul div tk hz s l k).2 false, nextV (nth l k).op (nth l k).a (nth l k).b (nth l k).c (nth l k).m) := rfl
/-- a sequence divided -/
theorem seq_take (mul div tk hz s : Int) (l : List Ins) (n : Nat) : ∀ k : Nat, k ≤ n → n ≤ l.length → seqK mul div tk hz s (l.take n) k = seqK mul div tk hz s l k := by
  intro k
  induction k with
  | zero => intros; rfl
  | succ k ih =>
    intro hk hn
    have e : nth (l.take n) k = nth l k := by
      unfold nth
      rw [List.getD_eq_getElem?_getD, List.getD_eq_getElem?_getD, List.getElem?_take_of_lt (by omega)]
    show ((seqK mul div tk hz s (l.take n) k).1 + _, _) = ((seqK mul div tk hz s l k).1 + _, _)
    rw [ih (by omega) hn, e]
theorem seq_drop (mul div tk hz s : Int) (l : List Ins) (n : Nat) : ∀ j : Nat, seqK mul div tk hz s l (n + j) = ((seqK mul div tk hz s l n).1 + (seqK mul div tk hz (seqK mul div tk hz s l n).2 (l.drop n) j).1, (seqK mul div tk hz (seqK mul div tk hz s l n).2 (l.drop n) j).2) := by
  intro j
  induction j with
  | zero => simp [seqK]
  | succ j ih =>
    have e : nth (l.drop n) j = nth l (n + j) := by
      unfold nth
      rw [List.getD_eq_getElem?_getD, List.getD_eq_getElem?_getD, List.getElem?_drop]
    rw [show n + (j + 1) = (n + j) + 1 from rfl, seqK_succ, seqK_succ mul div tk hz (seqK mul div tk hz s l n).2, ih, e, Int.add_assoc]
/-- the state before the first instruction has a bounded influence -/
theorem seq_start (mul div tk hz a b : Int) (l : List Ins) : ∀ k : Nat, (seqK mul div tk hz a l (k + 1)).2 = (seqK mul div tk hz b l (k + 1)).2 ∧ (seqK mul div tk hz a l (k + 1)).1 - (seqK mul div tk hz b l (k + 1)).1 = (seqK mul div tk hz a l 1).1 - (seqK mul div tk hz b l 1).1 := by
  intro k
  induction k with
  | zero => exact ⟨rfl, rfl⟩
  | succ k ih =>
    refine ⟨rfl, ?_⟩
    have e : ∀ s, (seqK mul div tk hz s l (k + 1 + 1)).1 = (seqK mul div tk hz s l (k + 1)).1 + cycV mul div tk hz (nth l (k + 1)).op (nth l (k + 1)).a (nth l (k + 1)).b (nth l (k + 1)).c (nth l (k + 1)).m (seqK mul div tk hz s l (k + 1)).2 false := fun s => rfl
    rw [e a, e b, ih.1]
    omega
theorem cyc_near (mul div tk hz op x y z m a b : Int) (hh : 0 ≤ hz) : cycV mul div tk hz op x y z m a false - cycV mul div tk hz op x y z m b false ≤ hz := by
  unfold cycV
  cases hazB op x y z m a <;> cases hazB op x y z m b <;> simp <;> omega
theorem cyc_zero (mul div tk hz op x y z m a : Int) (h0 : 0 ≤ op) (hh : 0 ≤ hz) : cycV mul div tk hz op x y z m 0 false ≤ cycV mul div tk hz op x y z m a false := by
  unfold cycV
  rw [haz_zero op x y z m h0]
  cases hazB op x y z m a <;> simp <;> omega
theorem seq_near (mul div tk hz a b : Int) (l : List Ins) (hh : 0 ≤ hz) (k : Nat) : (seqK mul div tk hz a l k).1 - (seqK mul div tk hz b l k).1 ≤ hz := by
  cases k with
  | zero => simpa [seqK] using hh
  | succ k =>
    rw [(seq_start mul div tk hz a b l k).2]
    have := cyc_near mul div tk hz (nth l 0).op (nth l 0).a (nth l 0).b (nth l 0).c (nth l 0).m a b hh
    have e : ∀ s, (seqK mul div tk hz s l 1).1 = 0 + cycV mul div tk hz (nth l 0).op (nth l 0).a (nth l 0).b (nth l 0).c (nth l 0).m s false := fun s => rfl
    rw [e a, e b]
    omega
theorem seq_zero (mul div tk hz a : Int) (l : List Ins) (hop : insOK l) (hh : 0 ≤ hz) : (seqK mul div tk hz 0 l l.length).1 ≤ (seqK mul div tk hz a l l.length).1 := by
  cases hl : l.length with
  | zero => simp [seqK]
  | succ k =>
    have h := (seq_start mul div tk hz 0 a l k).2
    have h2 := cyc_zero mul div tk hz (nth l 0).op (nth l 0).a (nth l 0).b (nth l 0).c (nth l 0).m a (hop 0 (by omega)).1 hh
    have e : ∀ s, (seqK mul div tk hz s l 1).1 = 0 + cycV mul div tk hz (nth l 0).op (nth l 0).a (nth l 0).b (nth l 0).c (nth l 0).m s false := fun s => rfl
    rw [e 0, e a] at h
    omega
theorem seq_end (mul div tk hz a b : Int) (l : List Ins) (k : Nat) (hk : k ≠ 0) : (seqK mul div tk hz a l k).2 = (seqK mul div tk hz b l k).2 := by
  obtain ⟨j, rfl⟩ : ∃ j, k = j + 1 := ⟨k - 1, by omega⟩
  rfl
end Go.Proofs.Ytgjpenhfechhcaa
