/- The contract of the reference's Decode for every word: it agrees with isa.Decode. -/
import Derived.Test.YtgjpenhfechhcaaA11
namespace Go.Proofs.Ytgjpenhfechhcaa
open Go.RowKit Go.Proofs.YtgjpenhfechhcaaW.PrintWords Go.Proofs.YtgjpenhfechhcaaW.PrintLast Go.Proofs.YtgjpenhfechhcaaW.PrintMore
open PIsaDecodes

/-- what the sum of the fields says of each field -/
theorem encE_fields {op a b c m v : Int} (h : encE op a b c m = v) (ha : 0 ≤ a ∧ a ≤ 15) (hb : 0 ≤ b ∧ b ≤ 15) (hc : 0 ≤ c ∧ c ≤ 15) (hcm : c = 0 ∨ m = 0) : v / 4194304 % 16 = a ∧ v / 262144 % 16 = b ∧ (v % 262144 = c * 16384 + m % 262144) := by
  unfold encE at h
  have hy : 0 ≤ c * 16384 + m % 262144 ∧ c * 16384 + m % 262144 < 262144 := by rcases hcm with rfl | rfl <;> omega
  generalize hyy : c * 16384 + m % 262144 = y at *
  omega
/-- the operands as the reference's Decode takes them -/
def rB (v : Int) : Int := if hasB (opnds (v / 67108864)) 98 = true then v / 262144 % 16 else 0
def rC (v : Int) : Int := if hasB (opnds (v / 67108864)) 99 = true then v / 16384 % 16 else 0
def rM (v : Int) : Int := if hasB (opnds (v / 67108864)) 105 = true then (if v % 262144 ≤ 131071 then v % 262144 else v % 262144 - 262144) else 0
theorem sext_eq (v : Int) : (v + 131072) % 262144 - 131072 = if v % 262144 ≤ 131071 then v % 262144 else v % 262144 - 262144 := by split <;> omega
theorem decF_b (v : Int) (h0 : 0 ≤ v) (h1 : v < 4294967296) (h2 : v / 67108864 < 30) : decF v 98 = rB v := by
  rw [decF_eq v 98 (by omega) h2 (by simp)]; unfold rB
  split
  · rw [valW_reg h0 h1 (by decide), pw18]
  · rfl
theorem decF_c (v : Int) (h0 : 0 ≤ v) (h1 : v < 4294967296) (h2 : v / 67108864 < 30) : decF v 99 = rC v := by
  rw [decF_eq v 99 (by omega) h2 (by simp)]; unfold rC
  split
  · rw [valW_reg h0 h1 (by decide), pw14]
  · rfl
theorem decF_m (v : Int) (h0 : 0 ≤ v) (h1 : v < 4294967296) (h2 : v / 67108864 < 30) : decF v 105 = rM v := by
  rw [decF_eq v 105 (by omega) h2 (by simp)]; unfold rM
  split
  · rw [valW_imm h0 h1, sext_eq]
  · rfl
theorem decF_a (v : Int) (h0 : 0 ≤ v) (h1 : v < 4294967296) (h2 : v / 67108864 < 30) : decF v 97 = if hasB (opnds (v / 67108864)) 97 = true then v / 4194304 % 16 else 0 := by
  rw [decF_eq v 97 (by omega) h2 (by simp)]
  split
  · rw [valW_reg h0 h1 (by decide), pw22]
  · rfl
theorem good_fields {op a b c m v : Int} (h0 : 0 ≤ op) (h : validB op a b c m = true) (hw : encE op a b c m = v) : v / 4194304 % 16 = a := by
  obtain ⟨⟨hop, ha, hb, hc, hm⟩, za, zb, zc, zm⟩ := okay h0 h
  exact (encE_fields hw ha hb hc ((not_both op hop.1 hop.2).elim (fun h => .inl (zc h)) (fun h => .inr (zm h)))).1
/-- the reference accepts the words that isa.Decode accepts, with the same operands -/
theorem good_eq (v : Int) (h0 : 0 ≤ v) (h1 : v < 4294967296) (h2 : v / 67108864 < 30) : goodB (v / 67108864) (v / 4194304 % 16) (rB v) (rC v) (rM v) v = decOK v ∧ (decOK v = true → v / 4194304 % 16 = decF v 97 ∧ rB v = decF v 98 ∧ rC v = decF v 99 ∧ rM v = decF v 105) := by
  have hb := decF_b v h0 h1 h2
  have hc := decF_c v h0 h1 h2
  have hm := decF_m v h0 h1 h2
  have ha := decF_a v h0 h1 h2
  have hd : decOK v = true → v / 4194304 % 16 = decF v 97 := fun h => by
    simp only [decOK, Bool.and_eq_true, decide_eq_true_eq] at h
    obtain ⟨_, hv, hw⟩ := h
    rw [encW_eq (by omega) hv] at hw
    exact good_fields (by omega) hv hw
  refine ⟨?_, fun h => ⟨hd h, hb.symm, hc.symm, hm.symm⟩⟩
  cases hk : decOK v
  · cases hg : goodB (v / 67108864) (v / 4194304 % 16) (rB v) (rC v) (rM v) v
    · rfl
    · exfalso
      simp only [goodB, Bool.and_eq_true, decide_eq_true_eq] at hg
      obtain ⟨hv, hw⟩ := hg
      have e : decF v 97 = v / 4194304 % 16 := by
        rw [ha]
        split
        · rfl
        · rename_i hh
          exact ((okay (by omega) hv).2.1 (by simpa using hh)).symm
      have hk' : decOK v = true := by
        simp only [decOK, Bool.and_eq_true, decide_eq_true_eq]
        rw [e, hb, hc, hm]
        exact ⟨h2, hv, by rw [encW_eq (by omega) hv]; exact hw⟩
      rw [hk] at hk'; cases hk'
  · have e := hd hk
    simp only [decOK, Bool.and_eq_true, decide_eq_true_eq] at hk
    obtain ⟨_, hv, hw⟩ := hk
    rw [encW_eq (by omega) hv] at hw
    rw [← e, hb, hc, hm] at hv hw
    simp [goodB, hv, hw]

theorem decRes_eq (v : Int) (h0 : 0 ≤ v) (h1 : v < 4294967296) (h2 : v / 67108864 < 30) : decRes (goodB (v / 67108864) (v / 4194304 % 16) (rB v) (rC v) (rM v) v) (v / 67108864) (v / 4194304 % 16) (rB v) (rC v) (rM v) = decRes (decOK v) (v / 67108864) (decF v 97) (decF v 98) (decF v 99) (decF v 105) := by
  obtain ⟨e, hf⟩ := good_eq v h0 h1 h2
  rw [e]
  cases hk : decOK v
  · rfl
  · obtain ⟨e1, e2, e3, e4⟩ := hf hk
    rw [e1, e2, e3, e4]

theorem rdec_low (v : Int) (h0 : 0 ≤ v) (h1 : v < 4294967296) (h2 : v / 67108864 < 30) (w : World) :
    Calls Try.prog 26 #[.int .u32 v] w fun e w' => e = .returned (decRes (decOK v) (v / 67108864) (decF v 97) (decF v 98) (decF v 99) (decF v 105)) ∧ Below w.heap.size w w' := by
  rw [← decRes_eq v h0 h1 h2]
  obtain ⟨_, k1, k2, k3, _⟩ := fmt_row (v / 67108864) (by omega) h2
  have k1 := dec_cast1 k1
  have k2 := dec_cast2 k2
  unfold rB rC rM
  rcases cls (v / 67108864) (by omega) h2 with hs | hs | hs | hs | hs
  · rw [hs, has_sNo98] at k1; rw [hs, has_sNo99] at k2; rw [hs, has_sNo105] at k3
    rw [hs, has_sNo98, has_sNo99, has_sNo105]; simp only [Bool.false_eq_true, if_false]
    exact rdec_none v _ h0 h1 rfl h2 k1 k2 (by have := of_decide_eq_false k3; omega) w
  · rw [hs, has_sABC98] at k1; rw [hs, has_sABC99] at k2; rw [hs, has_sABC105] at k3
    rw [hs, has_sABC98, has_sABC99, has_sABC105]; simp only [Bool.false_eq_true, if_false, if_true]
    exact rdec_abc v _ h0 h1 rfl h2 k1 k2 (by have := of_decide_eq_false k3; omega) w
  · rw [hs, has_sAI98] at k1; rw [hs, has_sAI99] at k2; rw [hs, has_sAI105] at k3
    rw [hs, has_sAI98, has_sAI99, has_sAI105]; simp only [Bool.false_eq_true, if_false, if_true]
    split
    · rename_i hs; exact rdec_ip v _ h0 h1 rfl h2 k1 k2 (of_decide_eq_true k3) hs w
    · rename_i hs; exact rdec_in v _ h0 h1 rfl h2 k1 k2 (of_decide_eq_true k3) (by omega) w
  · rw [hs, has_sABI98] at k1; rw [hs, has_sABI99] at k2; rw [hs, has_sABI105] at k3
    rw [hs, has_sABI98, has_sABI99, has_sABI105]; simp only [Bool.false_eq_true, if_false, if_true]
    split
    · rename_i hs; exact rdec_bp v _ h0 h1 rfl h2 k1 k2 (of_decide_eq_true k3) hs w
    · rename_i hs; exact rdec_bn v _ h0 h1 rfl h2 k1 k2 (of_decide_eq_true k3) (by omega) w
  · rw [hs, has_sI98] at k1; rw [hs, has_sI99] at k2; rw [hs, has_sI105] at k3
    rw [hs, has_sI98, has_sI99, has_sI105]; simp only [Bool.false_eq_true, if_false, if_true]
    split
    · rename_i hs; exact rdec_ip v _ h0 h1 rfl h2 k1 k2 (of_decide_eq_true k3) hs w
    · rename_i hs; exact rdec_in v _ h0 h1 rfl h2 k1 k2 (of_decide_eq_true k3) (by omega) w

set_option maxRecDepth 100000 in
set_option maxHeartbeats 1000000 in
theorem rdec_high (v : Int) (h0 : 0 ≤ v) (h1 : v < 4294967296) (h2 : ¬ v / 67108864 < 30) (w : World) :
    Calls Try.prog 26 #[.int .u32 v] w fun e w' => e = .returned (.tuple #[.agg #[.int .u8 0, .int .i64 0, .int .i64 0, .int .i64 0, .int .i64 0], .bool false]) ∧ Below w.heap.size w w' := by
  obtain ⟨op, hop⟩ : ∃ op, v / 67108864 = op := ⟨_, rfl⟩
  rw [hop] at h2
  have h3 : 30 ≤ op := by omega
  go_enter Try.func26, Try.ntmps26
  go_wp2_with fail
  refine bodyPost_ret (v := .tuple #[.agg #[.int .u8 0, .int .i64 0, .int .i64 0, .int .i64 0, .int .i64 0], .bool false]) (by simp [results, Try.results26, go_sem]) rfl ⟨rfl, ?_⟩
  exact below_new (Below.refl _ _) _
theorem ref_decode_yes (v : Int) (h0 : 0 ≤ v) (h1 : v < 4294967296) (h : decOK v = true) (w : World) :
    Calls Try.prog 26 #[.int .u32 v] w fun e w' => e = .returned (.tuple #[.agg #[.int .u8 (v / 67108864), .int .i64 (decF v 97), .int .i64 (decF v 98), .int .i64 (decF v 99), .int .i64 (decF v 105)], .bool true]) ∧ Below w.heap.size w w' := by
  have h2 : v / 67108864 < 30 := by
    have h' := h
    simp only [decOK, Bool.and_eq_true, decide_eq_true_eq] at h'
    exact h'.1
  have k := rdec_low v h0 h1 h2 w
  rw [h] at k
  exact k
theorem ref_decode_no (v : Int) (h0 : 0 ≤ v) (h1 : v < 4294967296) (h : decOK v = false) (w : World) :
    Calls Try.prog 26 #[.int .u32 v] w fun e w' => e = .returned (.tuple #[.agg #[.int .u8 0, .int .i64 0, .int .i64 0, .int .i64 0, .int .i64 0], .bool false]) ∧ Below w.heap.size w w' := by
  by_cases h2 : v / 67108864 < 30
  · have k := rdec_low v h0 h1 h2 w
    rw [h] at k
    exact k
  · exact rdec_high v h0 h1 h2 w
end Go.Proofs.Ytgjpenhfechhcaa
