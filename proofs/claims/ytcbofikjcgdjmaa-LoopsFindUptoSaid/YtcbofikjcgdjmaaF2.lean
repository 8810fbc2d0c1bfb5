/- The contracts of the reference's Dominates and Wrong. -/
import Derived.Test.YtcbofikjcgdjmaaF1
namespace Go.Proofs.Ytcbofikjcgdjmaa
set_option linter.unusedVariables false
set_option linter.unusedSimpArgs false
open Go.RowKit

/-- what the reference's Dominates reckons -/
def dmR (nx : Nat → List Nat) (n a b : Nat) : Bool := decide (a = b) || (reF nx (-1) n a && !reF nx (a : Int) n b)
set_option maxRecDepth 100000 in
set_option maxHeartbeats 2000000 in
theorem dom42 (A : Option Addr) (xss : List (List Int)) (n c a b : Nat) (w : World) (h : RV w A xss) (hn : xss.length = n) (h0 : n ≠ 0) (hl : n ≤ 1048576)
    (hz : ∀ j, j < n → (nthR xss j).length ≤ 1048576) (hin : ∀ j, j < n → ∀ t, t ∈ nthR xss j → 0 ≤ t ∧ t < n) (ha : a < n) (hb : b < n) :
    Calls Try.prog 42 #[.slice A n c, .int .i64 a, .int .i64 b] w fun e w' => e = .returned (.bool (dmR (nxR xss) n a b)) ∧ Below w.heap.size w w' := by
  have HR := Lib.hid (fun skip W (h : RV W A xss) => reach28 A xss c n skip W h hn h0 hl hz hin)
  have HS := Lib.hid h
  obtain ⟨r1, hr1⟩ : ∃ r, reF (nxR xss) (-1) n a = r := ⟨_, rfl⟩
  obtain ⟨r2, hr2⟩ : ∃ r, reF (nxR xss) (a : Int) n b = r := ⟨_, rfl⟩
  have hd : dmR (nxR xss) n a b = (decide (a = b) || (r1 && !r2)) := by unfold dmR; rw [hr1, hr2]
  have HD := Lib.hid hd
  have HR1 := Lib.hid hr1
  have HR2 := Lib.hid hr2
  clear h hz hin hd hr1 hr2
  by_cases e : a = b
  · have e1 : ((a : Int) == (b : Int)) = true := by simp [e]
    have HE := Lib.hid e
    clear e
    go_enter Try.func42, Try.ntmps42
    go_wp2_with fail
    go_ret
    exact ⟨ret_b (by rw [HD.out]; simp [HE.out]), Below.refl _ _⟩
  · have e1 : ((a : Int) == (b : Int)) = false := by simp; omega
    have HE := Lib.hid e
    clear e
    go_enter Try.func42, Try.ntmps42
    cases r1 with
    | false =>
      go_wp2_with (first
        | (go_at_call 28; refine (HR.out _ _ HS.out).mono ?_; rintro e' w1 ⟨rfl, hR, hb1⟩
           have c1 := World.rowIs.cell hR ha
           rw [HR1.out] at c1
           have HB1 := Lib.hid hb1
           clear hR hb1 HR))
      go_ret
      exact ⟨ret_b (by rw [HD.out, decide_eq_false HE.out]; rfl), HB1.out⟩
    | true =>
      have HRb := Lib.hid (HR.out (a : Int))
      go_wp2_with (first
        | (go_at_call 28; refine (HR.out _ _ HS.out).mono ?_; rintro e' w1 ⟨rfl, hR, hb1⟩
           have c1 := World.rowIs.cell hR ha
           rw [HR1.out] at c1
           have HB1 := Lib.hid hb1
           clear hR hb1 HR)
        | (go_at_call 28; refine (HRb.out _ (HS.out.step HB1.out)).mono ?_; rintro e' w2 ⟨rfl, hR, hb2⟩
           have c2 := World.rowIs.cell hR hb
           rw [HR2.out] at c2
           have HB2 := Lib.hid (HB1.out.trans (hb2.mono HB1.out.size))
           clear hR hb2 HRb))
      go_ret
      exact ⟨ret_b (by rw [HD.out, decide_eq_false HE.out]; cases r2 <;> rfl), HB2.out⟩

/-- the place of a number in a graph's order is its rank -/
theorem posFrom_spec (xs : List Int) (x : Int) : ∀ m k, (∀ j, k ≤ j → j < k + m → xs.getD j 0 ≠ x) ∧ posFrom xs x k m = -1 ∨ ∃ j, k ≤ j ∧ j < k + m ∧ xs.getD j 0 = x ∧ posFrom xs x k m = (j : Int)
  | 0, k => .inl ⟨fun j h1 h2 => by omega, rfl⟩
  | m + 1, k => by
    have ih := posFrom_spec xs x m (k + 1)
    show (∀ j, k ≤ j → j < k + (m + 1) → xs.getD j 0 ≠ x) ∧ (if xs.getD k 0 = x then (k : Int) else posFrom xs x (k + 1) m) = -1 ∨ ∃ j, k ≤ j ∧ j < k + (m + 1) ∧ xs.getD j 0 = x ∧ (if xs.getD k 0 = x then (k : Int) else posFrom xs x (k + 1) m) = (j : Int)
    by_cases e : xs.getD k 0 = x
    · exact .inr ⟨k, by omega, by omega, e, by rw [if_pos e]⟩
    · rw [if_neg e]
      rcases ih with ⟨h1, h2⟩ | ⟨j, h1, h2, h3, h4⟩
      · refine .inl ⟨fun j h3 h4 => ?_, h2⟩
        by_cases ej : j = k
        · subst ej; exact e
        · exact h1 j (by omega) (by omega)
      · exact .inr ⟨j, by omega, by omega, h3, h4⟩
theorem posOf_rk {bs : List Bk} {pv : List (List Int)} (hv : validB bs pv = true) (t : Nat) : posOf ((ordN bs).map Int.ofNat) (t : Int) = rkN bs t := by
  have O := ord_of hv
  unfold posOf
  rcases posFrom_spec ((ordN bs).map Int.ofNat) (t : Int) ((ordN bs).map Int.ofNat).length 0 with ⟨h1, h2⟩ | ⟨j, h1, h2, h3, h4⟩
  · rw [h2]
    refine (O.rank.no t fun hm => ?_).symm
    obtain ⟨j, hj, e⟩ := getD_of_mem hm
    exact h1 j (by omega) (by simp; omega) (by rw [getD_map_ofNat _ hj, e])
  · rw [h4]
    have hj : j < (ordN bs).length := by simpa using h2
    rw [getD_map_ofNat _ hj] at h3
    have := O.rank.at_ j hj
    have e : (ordN bs).getD j 0 = t := by omega
    rw [e] at this
    exact this.symm
theorem dmR_iff {bs : List Bk} {pv : List (List Int)} (hv : validB bs pv = true) {a b : Nat} (hb : 0 ≤ rkN bs b) : dmR (nxR (nxs bs bs.length)) bs.length a b = true ↔ Dm (nxN bs) a b := by
  have O := ord_of hv
  have h1 := reF_rk hv a
  have h2 := reF_iff (nx := nxN bs) (validB_okB hv).1 (fun i hi t ht => nx_lt hv i hi t ht) (a : Int) b
  rw [avI_av] at h2
  unfold dmR Dm
  rw [h1, nxR_nxs]
  simp only [Bool.or_eq_true, Bool.and_eq_true, decide_eq_true_eq, Bool.not_eq_true', ← Bool.not_eq_true, h2]
  constructor
  · rintro (e | ⟨_, e⟩)
    · exact .inl e
    · exact .inr ⟨O.rch.1 hb, e⟩
  · rintro (e | ⟨_, e⟩)
    · exact .inl e
    · exact .inr ⟨(O.dom_le hb e).1, e⟩
/-- a retreating edge that is no back edge, as the reference looks for it -/
def wbad (bs : List Bk) (e : Int × Int) : Bool := decide (0 ≤ rkN bs e.1.toNat) && decide (rkN bs e.2.toNat ≤ rkN bs e.1.toNat) && !dmR (nxR (nxs bs bs.length)) bs.length e.2.toNat e.1.toNat
def wrF (bs : List Bk) : Int := match (edgK bs bs.length).find? (wbad bs) with | some e => e.2 | none => -1
theorem edgK_pre (bs : List Bk) {a b : Nat} (h : a ≤ b) : ∃ r, edgK bs b = edgK bs a ++ r := by
  induction h with
  | refl => exact ⟨[], by simp⟩
  | step _ ih =>
    obtain ⟨r, e⟩ := ih
    exact ⟨r ++ _, by rw [edgK, e, List.append_assoc]⟩
theorem wr_some {bs : List Bk} {a k : Nat} (ha : a < bs.length) (hk : k < (nthB bs a).nx.length) (hno : (edgJ bs (nthB bs a).nx a k).find? (wbad bs) = none) (hb : wbad bs ((a : Int), (nthB bs a).nx.getD k 0) = true) : wrF bs = (nthB bs a).nx.getD k 0 := by
  obtain ⟨r, hr⟩ := edgK_pre bs (show a + 1 ≤ bs.length by omega)
  have e1 : edgK bs (a + 1) = edgJ bs (nthB bs a).nx a (k + 1) ++ ((nthB bs a).nx.drop (k + 1)).map fun t => ((a : Int), t) := by
    rw [edgK]
    unfold edgJ
    rw [List.append_assoc, ← List.map_append, List.take_append_drop]
  have hf : (edgK bs bs.length).find? (wbad bs) = some ((a : Int), (nthB bs a).nx.getD k 0) := by
    rw [hr, e1, edgJ_succ hk, List.append_assoc, List.append_assoc, List.find?_append, hno, Option.none_or, List.singleton_append, List.find?_cons_of_pos hb]
  unfold wrF
  rw [hf]
set_option maxRecDepth 100000 in
set_option maxHeartbeats 4000000 in
theorem wrong22 (A : Option Addr) (bs : List Bk) (pv : List (List Int)) (c : Nat) (w : World) (h : RV w A (nxs bs bs.length)) (hv : validB bs pv = true) (hl : bs.length ≤ 14) :
    Calls Try.prog 22 #[.slice A bs.length c] w fun e w' => e = .returned (.int .i64 (wrF bs)) ∧ Below w.heap.size w w' := by
  have hn2 := valid_nx hv
  have hz : ∀ j, j < bs.length → (nthR (nxs bs bs.length) j).length ≤ 1048576 := fun j hj => by rw [nxs_at bs hj]; have := hn2 j hj; omega
  have HOR := Lib.hid (order40 A (nxs bs bs.length) bs.length c w h (nxs_length _ _) (validB_okB hv).1 (by omega) hz (nxs_in hv))
  rw [nxR_nxs] at HOR
  have hord : (dfs (nxN bs) bs.length 0 (fun _ => false, [])).2.reverse = ordN bs := rfl
  have holn : (dfs (nxN bs) bs.length 0 (fun _ => false, [])).2.length = (ordN bs).length := by rw [← hord, List.length_reverse]
  rw [hord, holn] at HOR
  have HDO := Lib.hid (fun W (h : RV W A (nxs bs bs.length)) a b ha hb => dom42 A (nxs bs bs.length) bs.length c a b W h (nxs_length _ _) (validB_okB hv).1 (by omega) hz (nxs_in hv) ha hb)
  have hol := ord_len hv
  have HPO := Lib.hid (fun t => posOf_rk hv t)
  have HS := Lib.hid h
  have HN2 := Lib.hid hn2
  have HIN := Lib.hid (fun j (hj : j < bs.length) x hx => nx_nonneg hv (j := j) hj (t := x) hx)
  have O := ord_of hv
  have HRT := Lib.hid (fun t => O.top t)
  have HRL := Lib.hid (fun t => O.low t)
  have hwa : ∀ a k : Nat, wbad bs ((a : Int), (nthB bs a).nx.getD k 0) = (decide (0 ≤ rkN bs a) && decide (rkN bs ((nthB bs a).nx.getD k 0).toNat ≤ rkN bs a) && !dmR (nxR (nxs bs bs.length)) bs.length ((nthB bs a).nx.getD k 0).toNat a) := fun a k => rfl
  have HWA := Lib.hid hwa
  have HWS := Lib.hid (fun a k ha hk hno hb => wr_some (bs := bs) (a := a) (k := k) ha hk hno hb)
  obtain ⟨ol, hol'⟩ : ∃ ol, (ordN bs).map Int.ofNat = ol := ⟨_, rfl⟩
  have hon : (ordN bs).length = ol.length := by rw [← hol']; simp
  rw [hol'] at HOR HPO
  rw [hon] at HOR hol
  clear h hn2 hz hord holn hv O hwa hol' hon
  go_enter Try.func22, Try.ntmps22
  go_wp2_with (go_at_call 40; refine HOR.out.mono ?_; rintro e W1 ⟨⟨E, cE, rfl, hE⟩, hb⟩
               have HE := Lib.hid hE
               have HB1 := Lib.hid hb
               clear hE hb HOR)
  have HP := Lib.hid (fun (t : Nat) W h => (by have := position41 E ol cE (t : Int) W h (by omega); rw [HPO.out t] at this; exact this : Calls Try.prog 41 #[.slice E ol.length cE, .int .i64 t] W fun e w' => e = .returned (.int .i64 (rkN bs t)) ∧ w' = W))
  go_loopw [4] (fun i wr => ∃ a : Nat, a ≤ bs.length ∧ i = .int .i64 a ∧ (edgK bs a).find? (wbad bs) = none ∧ Below W1.heap.size W1 wr) (fun i _ => bs.length - (intOf i).toNat)
  case atStart => exact ⟨0, by omega, rfl, rfl, Below.refl _ _⟩
  case round =>
    obtain ⟨a, ha, rfl, hno, hB⟩ := hrel
    rename World => W2
    have HNO := Lib.hid hno
    have HB2 := Lib.hid hB
    clear hno hB
    by_cases hat : a < bs.length
    · have hra := HRL.out a
      have hrt := HRT.out a
      have HPa := Lib.hid (HP.out a)
      obtain ⟨ra, hrae⟩ : ∃ z, rkN bs a = z := ⟨_, rfl⟩
      have HRA := Lib.hid hrae
      rw [hrae] at hra hrt HPa
      clear hrae
      by_cases hneg : ra < 0
      · have q1 : decide (ra < 0) = true := decide_eq_true hneg
        have HNG := Lib.hid hneg
        clear hneg
        go_wp2_with (go_at_call 41; refine (HPa.out _ (HE.out.step HB2.out)).mono ?_; rintro e w1 ⟨rfl, hw1⟩; subst w1)
        go_roundw
        case rel =>
          refine ⟨a + 1, by omega, by go_num, ?_, HB2.out⟩
          rw [edgK, List.find?_append, HNO.out]
          simp only [Option.none_or, List.find?_eq_none]
          intro e he
          obtain ⟨t, _, rfl⟩ := List.mem_map.1 he
          unfold wbad
          dsimp only
          rw [Int.toNat_natCast, HRA.out, decide_eq_false (by have := HNG.out; omega)]
          simp
        case measure => simp [intOf]; omega
      · have q1 : decide (ra < 0) = false := decide_eq_false hneg
        obtain ⟨rb, ro, rfl, hrb, hrc⟩ := HS.out (by rw [nxs_length]; omega)
        obtain ⟨A2, c2, r0, hA2⟩ := hrc a (by rw [nxs_length]; exact hat)
        rw [nxs_at bs hat] at r0 hA2
        have R0 := Lib.hid (fun (W : World) (hb : Below W1.heap.size W1 W) => ((HB1.out.trans (hb.mono HB1.out.size)).cell (p := ⟨rb, ro + a, none⟩) hrb).trans r0)
        have hn2 := HN2.out a hat
        have hin := HIN.out a hat
        have hwa := HWA.out a
        have hws := HWS.out a
        have hej : ∀ q, q < (nthB bs a).nx.length → edgJ bs (nthB bs a).nx a (q + 1) = edgJ bs (nthB bs a).nx a q ++ [((a : Int), (nthB bs a).nx.getD q 0)] := fun q hq => edgJ_succ hq
        have hst : edgK bs (a + 1) = edgJ bs (nthB bs a).nx a (nthB bs a).nx.length := by rw [edgJ_all, edgK]
        have hz0 : (edgJ bs (nthB bs a).nx a 0).find? (wbad bs) = none := by rw [edgJ_zero]; exact HNO.out
        obtain ⟨nx, hnx⟩ : ∃ nx, (nthB bs a).nx = nx := ⟨_, rfl⟩
        rw [hnx] at R0 r0 hA2 hn2 hin hej hst hz0
        simp only [hnx] at hwa hws
        rw [HRA.out] at hwa
        have HWA1 := Lib.hid hwa
        have HWS1 := Lib.hid hws
        have HEJ := Lib.hid hej
        have HST := Lib.hid hst
        have HZ0 := Lib.hid hz0
        have HIN1 := Lib.hid hin
        have HA2 := Lib.hid hA2
        have HRG := Lib.hid (show 0 ≤ ra by omega)
        clear hrc r0 hA2 hin hwa hws hej hst hz0 hnx hneg
        go_wp2_with (go_at_call 41; refine (HPa.out _ (HE.out.step HB2.out)).mono ?_; rintro e w1 ⟨rfl, hw1⟩; subst w1)
        go_loopw [5] (fun i wr => ∃ q : Nat, q ≤ nx.length ∧ i = .int .i64 q ∧ (edgJ bs nx a q).find? (wbad bs) = none ∧ Below W1.heap.size W1 wr) (fun i _ => nx.length - (intOf i).toNat)
        case atStart => exact ⟨0, by omega, rfl, HZ0.out, HB2.out⟩
        case round =>
          obtain ⟨q, hq, rfl, hno, hB⟩ := hrel
          rename World => W3
          have HNO3 := Lib.hid hno
          have HB3 := Lib.hid hB
          have r0 := R0.out W3 hB
          clear hno hB
          by_cases hqt : q < nx.length
          · obtain ⟨b1, o1, rfl, hb1, hcx⟩ := HA2.out (by omega)
            have gx := ((HB1.out.trans (HB3.out.mono HB1.out.size)).cell (p := ⟨b1, o1 + q, none⟩) hb1).trans (hcx q hqt)
            have hx0 := HIN1.out _ (getD_mem hqt)
            have hwa := HWA1.out q
            have hej := HEJ.out q hqt
            have hws := HWS1.out q hat hqt HNO3.out
            obtain ⟨x, hx⟩ : ∃ x, nx.getD q 0 = x := ⟨_, rfl⟩
            rw [hx] at gx hx0 hej hws
            simp only [hx] at hwa
            obtain ⟨t, rfl⟩ : ∃ t : Nat, x = (t : Int) := ⟨x.toNat, by omega⟩
            rw [Int.toNat_natCast] at hwa
            have htn : t < bs.length := by omega
            have HPt := Lib.hid (HP.out t)
            have HDt := Lib.hid (fun W h => HDO.out W h t a htn hat)
            obtain ⟨rt, hrt'⟩ : ∃ z, rkN bs t = z := ⟨_, rfl⟩
            have hrb' := HRT.out t
            have hrl' := HRL.out t
            rw [hrt'] at hwa HPt hrb' hrl'
            obtain ⟨dm, hdm⟩ : ∃ z, dmR (nxR (nxs bs bs.length)) bs.length t a = z := ⟨_, rfl⟩
            rw [hdm] at hwa
            simp only [hdm] at HDt
            have HWA2 := Lib.hid hwa
            have HEJ2 := Lib.hid hej
            have HWS2 := Lib.hid hws
            clear hcx hx hwa hej hws hrt' hdm
            have HPa2 := Lib.hid HPa.out
            by_cases hle : rt ≤ ra
            · have q2 : decide (rt ≤ ra) = true := decide_eq_true hle
              cases dm with
              | false =>
                go_wp2_with (first
                  | (go_at_call 41; refine (HPt.out _ (HE.out.step HB3.out)).mono ?_; rintro e w1 ⟨rfl, hw1⟩; subst w1; clear HPt)
                  | (go_at_call 41; refine (HPa2.out _ (HE.out.step HB3.out)).mono ?_; rintro e w1 ⟨rfl, hw1⟩; subst w1; clear HPa2)
                  | (go_at_call 42; refine (HDt.out _ (HS.out.step (HB1.out.trans (HB3.out.mono HB1.out.size)))).mono ?_; rintro e W4 ⟨rfl, hb⟩; have HB4 := Lib.hid (HB3.out.trans (hb.mono HB3.out.size)); clear hb HDt))
                go_ret
                refine ⟨ret_i ?_, HB1.out.trans (HB4.out.mono HB1.out.size)⟩
                exact (HWS2.out (by rw [HWA2.out, decide_eq_true HRG.out, q2]; rfl)).symm
              | true =>
                go_wp2_with (first
                  | (go_at_call 41; refine (HPt.out _ (HE.out.step HB3.out)).mono ?_; rintro e w1 ⟨rfl, hw1⟩; subst w1; clear HPt)
                  | (go_at_call 41; refine (HPa2.out _ (HE.out.step HB3.out)).mono ?_; rintro e w1 ⟨rfl, hw1⟩; subst w1; clear HPa2)
                  | (go_at_call 42; refine (HDt.out _ (HS.out.step (HB1.out.trans (HB3.out.mono HB1.out.size)))).mono ?_; rintro e W4 ⟨rfl, hb⟩; have HB4 := Lib.hid (HB3.out.trans (hb.mono HB3.out.size)); clear hb HDt))
                go_roundw
                case rel => exact ⟨q + 1, by omega, by go_num, by rw [HEJ2.out, List.find?_append, HNO3.out]; simp [HWA2.out], HB4.out⟩
                case measure => simp [intOf]; omega
            · have q2 : decide (rt ≤ ra) = false := decide_eq_false hle
              have HLE := Lib.hid hle
              clear hle
              go_wp2_with (first
                | (go_at_call 41; refine (HPt.out _ (HE.out.step HB3.out)).mono ?_; rintro e w1 ⟨rfl, hw1⟩; subst w1; clear HPt)
                | (go_at_call 41; refine (HPa2.out _ (HE.out.step HB3.out)).mono ?_; rintro e w1 ⟨rfl, hw1⟩; subst w1; clear HPa2))
              go_roundw
              case rel => exact ⟨q + 1, by omega, by go_num, by rw [HEJ2.out, List.find?_append, HNO3.out]; simp [HWA2.out]; exact fun _ h => absurd h (by have := HLE.out; omega), HB3.out⟩
              case measure => simp [intOf]; omega
          · obtain rfl : q = nx.length := by omega
            go_wp2_with fail
            go_roundw
            case rel => exact ⟨a + 1, by omega, by go_num, by rw [HST.out]; exact HNO3.out, HB3.out⟩
            case measure => simp [intOf]; omega
    · obtain rfl : a = bs.length := by omega
      go_wp2_with fail
      go_ret
      exact ⟨ret_i (by unfold wrF; rw [HNO.out]), HB1.out.trans (HB2.out.mono HB1.out.size)⟩
end Go.Proofs.Ytcbofikjcgdjmaa
