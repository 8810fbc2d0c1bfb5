/- The plain law of the encoding: the word of a valid instruction, as a sum; decoding that word gives the instruction back. -/
import Derived.Test.YtgjpenhfechhcaaA6
import Derived.Laws.BitsAllLaws
namespace Go.Proofs.Ytgjpenhfechhcaa
set_option linter.unusedVariables false
set_option linter.unusedSimpArgs false
open Go.RowKit Go.Proofs.YtgjpenhfechhcaaW.PrintWords Go.Proofs.YtgjpenhfechhcaaW.PrintLast Go.Proofs.YtgjpenhfechhcaaW.PrintMore
open PIsaDecodes

def sNo : ByteArray := ⟨#[]⟩
def sABC : ByteArray := ⟨#[97, 98, 99]⟩
def sAI : ByteArray := ⟨#[97, 105]⟩
def sABI : ByteArray := ⟨#[97, 98, 105]⟩
def sI : ByteArray := ⟨#[105]⟩

theorem cls_fin : ∀ n : Fin 30, (tab.getD n.1 z71).f1 = sNo ∨ (tab.getD n.1 z71).f1 = sABC ∨ (tab.getD n.1 z71).f1 = sAI ∨ (tab.getD n.1 z71).f1 = sABI ∨ (tab.getD n.1 z71).f1 = sI := by decide
theorem imm_fin : ∀ n : Fin 30, -131072 ≤ (tab.getD n.1 z71).f2 ∧ (tab.getD n.1 z71).f3 ≤ 131071 := by decide
theorem cls (op : Int) (h0 : 0 ≤ op) (h1 : op < 30) : opnds op = sNo ∨ opnds op = sABC ∨ opnds op = sAI ∨ opnds op = sABI ∨ opnds op = sI := by
  obtain ⟨n, rfl⟩ := Int.eq_ofNat_of_zero_le h0
  exact cls_fin ⟨n, by omega⟩
theorem imm_range (op : Int) (h0 : 0 ≤ op) (h1 : op < 30) : -131072 ≤ (rowOf op).f2 ∧ (rowOf op).f3 ≤ 131071 := by
  obtain ⟨n, rfl⟩ := Int.eq_ofNat_of_zero_le h0
  exact imm_fin ⟨n, by omega⟩

theorem or_join (k : Nat) (x y : Int) (h0 : 0 ≤ x) (h1 : 0 ≤ y) (hk : y < 2 ^ k) (hx : x % 2 ^ k = 0) (h2 : x < 4294967296) (h3 : y < 4294967296) : bits .or .u32 x y = x + y := by
  obtain ⟨a, rfl⟩ := Int.eq_ofNat_of_zero_le h0
  obtain ⟨b, rfl⟩ := Int.eq_ofNat_of_zero_le h1
  rw [u32_or_nat a b (by omega) (by omega), nat_join k a b (by exact_mod_cast hx) (by exact_mod_cast hk)]
  omega
theorem and_mask18 (x : Int) (h0 : 0 ≤ x) (h1 : x < 4294967296) : bits .and .u32 x 262143 = x % 262144 := by
  obtain ⟨a, rfl⟩ := Int.eq_ofNat_of_zero_le h0
  have h := u32_and_nat a 262143 (by omega) (by omega)
  have e : a &&& 262143 = a % 262144 := Nat.and_two_pow_sub_one_eq_mod a 18
  rw [e] at h
  exact h
theorem and_mask4 (x : Int) (h0 : 0 ≤ x) (h1 : x < 4294967296) : bits .and .u32 x 15 = x % 16 := by
  obtain ⟨a, rfl⟩ := Int.eq_ofNat_of_zero_le h0
  have h := u32_and_nat a 15 (by omega) (by omega)
  rw [nat_mask4] at h
  exact h

/-- one round of Encode's loop as a sum -/
theorem encStep_a (v x : Int) (h : 0 ≤ v ∧ v < 4294967296) (hv : v % 67108864 = 0) (hx : 0 ≤ x ∧ x ≤ 15) : encStep v 97 x = v + x * 4194304 := by
  unfold encStep
  rw [if_neg (by decide)]
  have e : x % 4294967296 * 2 ^ (posOf 97).toNat % 4294967296 = x * 4194304 := by show x % 4294967296 * 4194304 % 4294967296 = _; omega
  rw [e]
  exact or_join 26 v _ h.1 (by omega) (by omega) hv h.2 (by omega)
theorem encStep_b (v x : Int) (h : 0 ≤ v ∧ v < 4294967296) (hv : v % 4194304 = 0) (hx : 0 ≤ x ∧ x ≤ 15) : encStep v 98 x = v + x * 262144 := by
  unfold encStep
  rw [if_neg (by decide)]
  have e : x % 4294967296 * 2 ^ (posOf 98).toNat % 4294967296 = x * 262144 := by show x % 4294967296 * 262144 % 4294967296 = _; omega
  rw [e]
  exact or_join 22 v _ h.1 (by omega) (by omega) hv h.2 (by omega)
theorem encStep_c (v x : Int) (h : 0 ≤ v ∧ v < 4294967296) (hv : v % 262144 = 0) (hx : 0 ≤ x ∧ x ≤ 15) : encStep v 99 x = v + x * 16384 := by
  unfold encStep
  rw [if_neg (by decide)]
  have e : x % 4294967296 * 2 ^ (posOf 99).toNat % 4294967296 = x * 16384 := by show x % 4294967296 * 16384 % 4294967296 = _; omega
  rw [e]
  exact or_join 18 v _ h.1 (by omega) (by omega) hv h.2 (by omega)
theorem encStep_i (v x : Int) (h : 0 ≤ v ∧ v < 4294967296) (hv : v % 262144 = 0) : encStep v 105 x = v + x % 262144 := by
  unfold encStep
  rw [if_pos rfl, and_mask18 _ (by omega) (by omega)]
  have e : x % 4294967296 % 262144 * 2 ^ (posOf 105).toNat % 4294967296 = x % 262144 := by show x % 4294967296 % 262144 * 1 % 4294967296 = _; omega
  rw [e]
  exact or_join 18 v _ h.1 (by omega) (by omega) hv h.2 (by omega)

/-- the encoding as the document says it -/
def encE (op a b c m : Int) : Int := op * 67108864 + a * 4194304 + b * 262144 + c * 16384 + m % 262144

/-- what a valid instruction's operands are: in range, or zero where the row does not list them -/
structure Okay (op a b c m : Int) : Prop where
  op : 0 ≤ op ∧ op < 30
  a : 0 ≤ a ∧ a ≤ 15
  b : 0 ≤ b ∧ b ≤ 15
  c : 0 ≤ c ∧ c ≤ 15
  m : -131072 ≤ m ∧ m ≤ 131071
theorem chk_iff (op ch x : Int) : chk op ch x = true ↔ lowOf op ch ≤ x ∧ x ≤ highOf op ch := by simp [chk]
theorem chk_reg {op ch x : Int} (hch : ch ≠ 105) (h : chk op ch x = true) : 0 ≤ x ∧ x ≤ 15 ∧ (hasB (opnds op) ch = false → x = 0) := by
  rw [chk_iff] at h
  unfold lowOf highOf at h
  rw [decide_eq_false hch, if_neg hch] at h
  cases hh : hasB (opnds op) ch
  · rw [hh] at h; simp at h; omega
  · rw [hh] at h; simp at h; refine ⟨h.1, h.2, fun h => by cases h⟩
theorem chk_imm {op x : Int} (h0 : 0 ≤ op) (h1 : op < 30) (h : chk op 105 x = true) : -131072 ≤ x ∧ x ≤ 131071 ∧ (hasB (opnds op) 105 = false → x = 0) := by
  rw [chk_iff] at h
  have hr := imm_range op h0 h1
  unfold lowOf highOf at h
  cases hh : hasB (opnds op) 105
  · rw [hh] at h; simp at h; omega
  · rw [hh] at h; simp at h; refine ⟨by omega, by omega, fun h => by cases h⟩
theorem okay {op a b c m : Int} (h0 : 0 ≤ op) (h : validB op a b c m = true) : Okay op a b c m ∧ (hasB (opnds op) 97 = false → a = 0) ∧ (hasB (opnds op) 98 = false → b = 0) ∧ (hasB (opnds op) 99 = false → c = 0) ∧ (hasB (opnds op) 105 = false → m = 0) := by
  simp only [validB, Bool.and_eq_true, decide_eq_true_eq] at h
  obtain ⟨h1, ⟨⟨ha, hb⟩, hc⟩, hm⟩ := h
  have ha := chk_reg (by decide) ha
  have hb := chk_reg (by decide) hb
  have hc := chk_reg (by decide) hc
  have hm := chk_imm h0 h1 hm
  exact ⟨⟨⟨h0, h1⟩, ⟨ha.1, ha.2.1⟩, ⟨hb.1, hb.2.1⟩, ⟨hc.1, hc.2.1⟩, ⟨hm.1, hm.2.1⟩⟩, ha.2.2, hb.2.2, hc.2.2, hm.2.2⟩

theorem encK_succ (op a b c m : Int) (k : Nat) : encK op a b c m (k + 1) = encStep (encK op a b c m k) (bt (opnds op) k) (opnd a b c m (bt (opnds op) k)) := rfl

theorem encW_eq {op a b c m : Int} (h0 : 0 ≤ op) (h : validB op a b c m = true) : encW op a b c m = encE op a b c m := by
  obtain ⟨⟨⟨_, h1⟩, ha, hb, hc, hm⟩, za, zb, zc, zm⟩ := okay h0 h
  have e0 : encK op a b c m 0 = op * 67108864 := rfl
  show encK op a b c m (opnds op).size = _
  rcases cls op h0 h1 with hs | hs | hs | hs | hs
  · have za := za (by rw [hs]; rfl)
    have zb := zb (by rw [hs]; rfl)
    have zc := zc (by rw [hs]; rfl)
    have zm := zm (by rw [hs]; rfl)
    have n : (opnds op).size = 0 := by rw [hs]; rfl
    rw [n, e0, za, zb, zc, zm]; unfold encE; omega
  · have zm := zm (by rw [hs]; rfl)
    have n : (opnds op).size = 3 := by rw [hs]; rfl
    rw [n, encK_succ, encK_succ, encK_succ, e0, hs]
    show encStep (encStep (encStep (op * 67108864) 97 a) 98 b) 99 c = _
    rw [encStep_a _ _ (by omega) (by omega) ha, encStep_b _ _ (by omega) (by omega) hb, encStep_c _ _ (by omega) (by omega) hc, zm]; unfold encE; omega
  · have zb := zb (by rw [hs]; rfl)
    have zc := zc (by rw [hs]; rfl)
    have n : (opnds op).size = 2 := by rw [hs]; rfl
    rw [n, encK_succ, encK_succ, e0, hs]
    show encStep (encStep (op * 67108864) 97 a) 105 m = _
    rw [encStep_a _ _ (by omega) (by omega) ha, encStep_i _ _ (by omega) (by omega), zb, zc]; unfold encE; omega
  · have zc := zc (by rw [hs]; rfl)
    have n : (opnds op).size = 3 := by rw [hs]; rfl
    rw [n, encK_succ, encK_succ, encK_succ, e0, hs]
    show encStep (encStep (encStep (op * 67108864) 97 a) 98 b) 105 m = _
    rw [encStep_a _ _ (by omega) (by omega) ha, encStep_b _ _ (by omega) (by omega) hb, encStep_i _ _ (by omega) (by omega), zc]; unfold encE; omega
  · have za := za (by rw [hs]; rfl)
    have zb := zb (by rw [hs]; rfl)
    have zc := zc (by rw [hs]; rfl)
    have n : (opnds op).size = 1 := by rw [hs]; rfl
    rw [n, encK_succ, e0, hs]
    show encStep (op * 67108864) 105 m = _
    rw [encStep_i _ _ (by omega) (by omega), za, zb, zc]; unfold encE; omega

theorem valW_reg {v ch : Int} (h0 : 0 ≤ v) (h1 : v < 4294967296) (hch : ch ≠ 105) : valW v ch = v / 2 ^ (posOf ch).toNat % 16 := by
  unfold valW
  have h2 : 0 ≤ v / 2 ^ (posOf ch).toNat := Int.ediv_nonneg h0 (Int.le_of_lt (Int.pow_pos (by omega)))
  have h3 : v / 2 ^ (posOf ch).toNat ≤ v := Int.ediv_le_self _ h0
  rw [if_neg hch, and_mask4 _ h2 (by omega)]
  unfold wrap64; omega
theorem sext_lo (r : Int) (h0 : 0 ≤ r) (h1 : r < 131072) : wrap32 (r * 16384) = r * 16384 := by unfold wrap32; omega
theorem sext_hi (r : Int) (h0 : 131072 ≤ r) (h1 : r < 262144) : wrap32 (r * 16384) = (r - 262144) * 16384 := by unfold wrap32; omega
theorem wrap64_small (r : Int) (h0 : -262144 ≤ r) (h1 : r < 262144) : wrap64 r = r := by unfold wrap64; omega
theorem valW_imm {v : Int} (h0 : 0 ≤ v) (h1 : v < 4294967296) : valW v 105 = (v + 131072) % 262144 - 131072 := by
  unfold valW
  rw [if_pos rfl]
  have e : v * 16384 % 4294967296 = v % 262144 * 16384 := by omega
  rw [e]
  by_cases h : v % 262144 < 131072
  · rw [sext_lo _ (by omega) h, Int.mul_ediv_cancel _ (by decide), wrap64_small _ (by omega) (by omega)]; omega
  · rw [sext_hi _ (by omega) (by omega), Int.mul_ediv_cancel _ (by decide), wrap64_small _ (by omega) (by omega)]; omega

theorem decO_succ (v op ch : Int) (k : Nat) : decO v op ch (k + 1) = if bt (opnds op) k = ch then valW v ch else decO v op ch k := rfl
theorem decO_zero (v op ch : Int) : decO v op ch 0 = 0 := rfl
theorem has_sNo97 : hasB sNo 97 = false := by decide
theorem has_sNo98 : hasB sNo 98 = false := by decide
theorem has_sNo99 : hasB sNo 99 = false := by decide
theorem has_sNo105 : hasB sNo 105 = false := by decide
theorem bt_sABC0 : bt sABC 0 = 97 := by decide
theorem bt_sABC1 : bt sABC 1 = 98 := by decide
theorem bt_sABC2 : bt sABC 2 = 99 := by decide
theorem has_sABC97 : hasB sABC 97 = true := by decide
theorem has_sABC98 : hasB sABC 98 = true := by decide
theorem has_sABC99 : hasB sABC 99 = true := by decide
theorem has_sABC105 : hasB sABC 105 = false := by decide
theorem bt_sAI0 : bt sAI 0 = 97 := by decide
theorem bt_sAI1 : bt sAI 1 = 105 := by decide
theorem has_sAI97 : hasB sAI 97 = true := by decide
theorem has_sAI98 : hasB sAI 98 = false := by decide
theorem has_sAI99 : hasB sAI 99 = false := by decide
theorem has_sAI105 : hasB sAI 105 = true := by decide
theorem bt_sABI0 : bt sABI 0 = 97 := by decide
theorem bt_sABI1 : bt sABI 1 = 98 := by decide
theorem bt_sABI2 : bt sABI 2 = 105 := by decide
theorem has_sABI97 : hasB sABI 97 = true := by decide
theorem has_sABI98 : hasB sABI 98 = true := by decide
theorem has_sABI99 : hasB sABI 99 = false := by decide
theorem has_sABI105 : hasB sABI 105 = true := by decide
theorem bt_sI0 : bt sI 0 = 105 := by decide
theorem has_sI97 : hasB sI 97 = false := by decide
theorem has_sI98 : hasB sI 98 = false := by decide
theorem has_sI99 : hasB sI 99 = false := by decide
theorem has_sI105 : hasB sI 105 = true := by decide
theorem decO_eq (v op ch : Int) (h0 : 0 ≤ op) (h1 : op < 30) (hch : ch = 97 ∨ ch = 98 ∨ ch = 99 ∨ ch = 105) : decO v op ch (opnds op).size = if hasB (opnds op) ch = true then valW v ch else 0 := by
  rcases cls op h0 h1 with hs | hs | hs | hs | hs
  · have n : (opnds op).size = 0 := by rw [hs]; rfl
    rw [n, decO_zero, hs]; generalize valW v ch = X
    rcases hch with rfl | rfl | rfl | rfl
    · simp [has_sNo97]
    · simp [has_sNo98]
    · simp [has_sNo99]
    · simp [has_sNo105]
  · have n : (opnds op).size = 3 := by rw [hs]; rfl
    rw [n, decO_succ, decO_succ, decO_succ, decO_zero, hs]; generalize valW v ch = X
    rcases hch with rfl | rfl | rfl | rfl
    · simp [bt_sABC0, bt_sABC1, bt_sABC2, has_sABC97]
    · simp [bt_sABC0, bt_sABC1, bt_sABC2, has_sABC98]
    · simp [bt_sABC0, bt_sABC1, bt_sABC2, has_sABC99]
    · simp [bt_sABC0, bt_sABC1, bt_sABC2, has_sABC105]
  · have n : (opnds op).size = 2 := by rw [hs]; rfl
    rw [n, decO_succ, decO_succ, decO_zero, hs]; generalize valW v ch = X
    rcases hch with rfl | rfl | rfl | rfl
    · simp [bt_sAI0, bt_sAI1, has_sAI97]
    · simp [bt_sAI0, bt_sAI1, has_sAI98]
    · simp [bt_sAI0, bt_sAI1, has_sAI99]
    · simp [bt_sAI0, bt_sAI1, has_sAI105]
  · have n : (opnds op).size = 3 := by rw [hs]; rfl
    rw [n, decO_succ, decO_succ, decO_succ, decO_zero, hs]; generalize valW v ch = X
    rcases hch with rfl | rfl | rfl | rfl
    · simp [bt_sABI0, bt_sABI1, bt_sABI2, has_sABI97]
    · simp [bt_sABI0, bt_sABI1, bt_sABI2, has_sABI98]
    · simp [bt_sABI0, bt_sABI1, bt_sABI2, has_sABI99]
    · simp [bt_sABI0, bt_sABI1, bt_sABI2, has_sABI105]
  · have n : (opnds op).size = 1 := by rw [hs]; rfl
    rw [n, decO_succ, decO_zero, hs]; generalize valW v ch = X
    rcases hch with rfl | rfl | rfl | rfl
    · simp [bt_sI0, has_sI97]
    · simp [bt_sI0, has_sI98]
    · simp [bt_sI0, has_sI99]
    · simp [bt_sI0, has_sI105]
/-- the operand that Decode finds: the field where the row lists it, else 0 -/
theorem decF_eq (v ch : Int) (h0 : 0 ≤ v / 67108864) (h1 : v / 67108864 < 30) (hch : ch = 97 ∨ ch = 98 ∨ ch = 99 ∨ ch = 105) : decF v ch = if hasB (opnds (v / 67108864)) ch = true then valW v ch else 0 :=
  decO_eq v (v / 67108864) ch h0 h1 hch

theorem not_both (op : Int) (h0 : 0 ≤ op) (h1 : op < 30) : hasB (opnds op) 99 = false ∨ hasB (opnds op) 105 = false := by
  rcases cls op h0 h1 with hs | hs | hs | hs | hs <;> rw [hs] <;> decide

theorem f_op {v op a b y : Int} (h : v = op * 67108864 + a * 4194304 + b * 262144 + y) (h1 : 0 ≤ op ∧ op < 30) (ha : 0 ≤ a ∧ a ≤ 15) (hb : 0 ≤ b ∧ b ≤ 15) (hy : 0 ≤ y ∧ y < 262144) : 0 ≤ v ∧ v < 4294967296 ∧ v / 67108864 = op ∧ v / 4194304 % 16 = a ∧ v / 262144 % 16 = b ∧ v % 262144 = y := by omega
theorem f_low {c m y : Int} (hy : y = c * 16384 + m % 262144) (hc : 0 ≤ c ∧ c ≤ 15) (h : c = 0 ∨ m = 0) : 0 ≤ y ∧ y < 262144 := by omega
theorem f_c {v c y : Int} (hv : v % 262144 = y) (hy : y = c * 16384) : v / 16384 % 16 = c := by omega
theorem f_m {v m y : Int} (hv : v % 262144 = y) (hy : y = m % 262144) (hm : -131072 ≤ m ∧ m ≤ 131071) : (v + 131072) % 262144 - 131072 = m := by omega
theorem pw22 : (2 : Int) ^ (posOf 97).toNat = 4194304 := by decide
theorem pw18 : (2 : Int) ^ (posOf 98).toNat = 262144 := by decide
theorem pw14 : (2 : Int) ^ (posOf 99).toNat = 16384 := by decide

/-- a valid instruction is decoded from its encoding -/
theorem dec_enc {op a b c m : Int} (h0 : 0 ≤ op) (h : validB op a b c m = true) : 0 ≤ encW op a b c m ∧ encW op a b c m < 4294967296 ∧ encW op a b c m / 67108864 = op ∧ decF (encW op a b c m) 97 = a ∧ decF (encW op a b c m) 98 = b ∧ decF (encW op a b c m) 99 = c ∧ decF (encW op a b c m) 105 = m := by
  obtain ⟨⟨hop, ha, hb, hc, hm⟩, za, zb, zc, zm⟩ := okay h0 h
  have he := encW_eq h0 h
  have hz := not_both op hop.1 hop.2
  have hcm : c = 0 ∨ m = 0 := hz.elim (fun h => .inl (zc h)) (fun h => .inr (zm h))
  obtain ⟨y, hy⟩ : ∃ y, y = c * 16384 + m % 262144 := ⟨_, rfl⟩
  have hlo := f_low hy hc hcm
  obtain ⟨v, hv⟩ : ∃ v, v = encW op a b c m := ⟨_, rfl⟩
  rw [← hv] at he ⊢
  have he' : v = op * 67108864 + a * 4194304 + b * 262144 + y := by rw [he, hy]; unfold encE; omega
  obtain ⟨g0, g1, g2, g3, g4, g5⟩ := f_op he' hop ha hb hlo
  have ra := decF_eq v 97 (by rw [g2]; exact hop.1) (by rw [g2]; exact hop.2) (by simp)
  have rb := decF_eq v 98 (by rw [g2]; exact hop.1) (by rw [g2]; exact hop.2) (by simp)
  have rc := decF_eq v 99 (by rw [g2]; exact hop.1) (by rw [g2]; exact hop.2) (by simp)
  have rm := decF_eq v 105 (by rw [g2]; exact hop.1) (by rw [g2]; exact hop.2) (by simp)
  rw [g2] at ra rb rc rm
  refine ⟨g0, g1, g2, ?_, ?_, ?_, ?_⟩
  · rw [ra]
    split
    · rw [valW_reg g0 g1 (by decide), pw22]; exact g3
    · rename_i hh; exact (za (by simpa using hh)).symm
  · rw [rb]
    split
    · rw [valW_reg g0 g1 (by decide), pw18]; exact g4
    · rename_i hh; exact (zb (by simpa using hh)).symm
  · rw [rc]
    split
    · rename_i hh
      have hm0 : m = 0 := by
        rcases hz with h | h
        · rw [h] at hh; cases hh
        · exact zm h
      rw [valW_reg g0 g1 (by decide), pw14]
      exact f_c g5 (by rw [hy, hm0]; simp)
    · rename_i hh; exact (zc (by simpa using hh)).symm
  · rw [rm]
    split
    · rename_i hh
      have hc0 : c = 0 := by
        rcases hz with h | h
        · exact zc h
        · rw [h] at hh; cases hh
      rw [valW_imm g0 g1]
      exact f_m g5 (by rw [hy, hc0]; simp) hm
    · rename_i hh; exact (zm (by simpa using hh)).symm
theorem decOK_enc {op a b c m : Int} (h0 : 0 ≤ op) (h : validB op a b c m = true) : decOK (encW op a b c m) = true := by
  obtain ⟨g0, g1, g2, g3, g4, g5, g6⟩ := dec_enc h0 h
  have h1 := (okay h0 h).1.op.2
  simp [decOK, g2, g3, g4, g5, g6, h, h1]
end Go.Proofs.Ytgjpenhfechhcaa
