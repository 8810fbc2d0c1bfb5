/- The contract of the reference's Reads: the registers from 1 to 15 that the instruction reads, in ascending order. -/
import Derived.Test.YtgjpenhfechhcaaA13
import Derived.Maps.AppendAt
import Derived.OwnWalk
namespace Go.Proofs.Ytgjpenhfechhcaa
set_option linter.unusedVariables false
set_option linter.unusedSimpArgs false
open Go.RowKit Go.Proofs.YtgjpenhfechhcaaW.PrintWords Go.Proofs.YtgjpenhfechhcaaW.PrintLast Go.Proofs.YtgjpenhfechhcaaW.PrintMore
open PIsaDecodes

theorem tinfo3 : (Try.prog.info? 3).map (fun i => (i.zero, i.size, i.bytes)) = some (some (.int .i64 0), 1, 8) := by kernel_rfl
/-- which registers are read, by the operands that are read -/
def hit (ua u1 u2 : Bool) (a b c r : Int) : Bool := (ua && a == r) || ((u1 && b == r) || (u2 && c == r))
def hits (ua u1 u2 : Bool) (a b c : Int) (k : Nat) : List Int := ((List.range k).map fun (j : Nat) => ((j : Int) + 1)).filter (hit ua u1 u2 a b c)
theorem hits_succ (ua u1 u2 : Bool) (a b c : Int) (k : Nat) : hits ua u1 u2 a b c (k + 1) = hits ua u1 u2 a b c k ++ (if hit ua u1 u2 a b c ((k : Int) + 1) = true then [(k : Int) + 1] else []) := by
  unfold hits
  rw [List.range_succ, List.map_append, List.filter_append]
  congr 1
  simp only [List.map_cons, List.map_nil, List.filter_cons, List.filter_nil]
theorem hits_le (ua u1 u2 : Bool) (a b c : Int) (k : Nat) : (hits ua u1 u2 a b c k).length ≤ k := by
  unfold hits
  have := List.length_filter_le (hit ua u1 u2 a b c) ((List.range k).map fun (j : Nat) => ((j : Int) + 1))
  simpa using this
theorem hits_yes {ua u1 u2 : Bool} {a b c : Int} {k : Nat} (h : hit ua u1 u2 a b c ((k : Int) + 1) = true) : hits ua u1 u2 a b c (k + 1) = hits ua u1 u2 a b c k ++ [(k : Int) + 1] := by rw [hits_succ, if_pos h]
theorem hits_no {ua u1 u2 : Bool} {a b c : Int} {k : Nat} (h : hit ua u1 u2 a b c ((k : Int) + 1) = false) : hits ua u1 u2 a b c (k + 1) = hits ua u1 u2 a b c k := by rw [hits_succ, h]; simp
/-- a new row of no element -/
theorem own_empty (W : World) (g base : Nat) (hg : g = W.heap.size) (hb : base ≤ g) : (W.alloc (.cells #[] 3)).ownsRow base 3 1 (.slice (some ⟨g, 0, none⟩) 0 0) 0 [] := by
  subst hg
  exact ⟨rfl, .inr ⟨W.heap.size, 0, #[], rfl, hb, by show (W.heap.push _)[W.heap.size]? = _; simp, Nat.le_refl _, by unfold maxLen; omega, rfl, rfl⟩⟩
theorem own_far {W : World} {base n : Nat} {v : Value} {xs : List Value} (h : W.ownsRow base 3 1 v n xs) {W' : World} (hb : Below W.heap.size W W') : W'.ownsRow base 3 1 v n xs := own_move h fun k hk => hb.block k (own_lt h k hk)
set_option maxRecDepth 100000 in
set_option maxHeartbeats 4000000 in
theorem ref_reads_bad (op a b c m : Int) (h0 : 0 ≤ op) (h1 : op ≤ 255) (hv : validB op a b c m = false) (w : World) :
    Calls Try.prog 33 #[.agg #[.int .u8 op, .int .i64 a, .int .i64 b, .int .i64 c, .int .i64 m]] w fun e w' => ∃ v, e = .returned v ∧ w'.ownsRow w.heap.size 3 1 v (([] : List Int)).length ((([] : List Int)).map (Value.int .i64)) ∧ Below w.heap.size w w' := by
  have hr := fun W => ref_valid_any op a b c m h0 h1 W
  rw [hv] at hr
  have Hr := Lib.hid hr
  clear hr hv
  go_enter Try.func33, Try.ntmps33
  go_wp2_with fail
  have XI0 := Lib.hid ((IF.newAt op a b c m w w.heap.size rfl).alloc (.cells #[] 3))
  have BI := Lib.hid (below_new (below_new (Below.refl w.heap.size w) (.cells #[.int .u8 (op), .int .i64 (a), .int .i64 (b), .int .i64 (c), .int .i64 (m)] 23)) (.cells #[] 3))
  have O0 := Lib.hid (own_empty (w.alloc (.cells #[.int .u8 (op), .int .i64 (a), .int .i64 (b), .int .i64 (c), .int .i64 (m)] 23)) (w.heap.size + 1) (w.heap.size + 1) (by simp) (Nat.le_refl _))
  refine (Hr.out _).mono ?_
  rintro e w1 ⟨rfl, hb1⟩
  have B1 := Lib.hid (below_next BI.out hb1)
  have XI1 := Lib.hid (XI0.out.step hb1)
  have O1 := Lib.hid (own_far O0.out hb1)
  clear hb1
  have XI1_lt := XI1.out.lt
  have XI1_i0 := XI1.out.i0
  have XI1_i1 := XI1.out.i1
  have XI1_i2 := XI1.out.i2
  have XI1_i3 := XI1.out.i3
  have XI1_i4 := XI1.out.i4
  go_wp2_with fail
  go_ret
  exact ⟨_, rfl, own_weaken O1.out (by omega), B1.out⟩
set_option maxRecDepth 100000 in
set_option maxHeartbeats 4000000 in
theorem ref_reads_c19 (op a b c m : Int) (h0 : 0 ≤ op) (h1 : op ≤ 255) (hop : op < 30) (hv : validB op a b c m = true) (hc : op = 19) (k1 : decide ((1 : Int) < ((fS op).size : Int)) = true) (k2 : decide ((2 : Int) < ((fS op).size : Int)) = false) (w : World) :
    Calls Try.prog 33 #[.agg #[.int .u8 op, .int .i64 a, .int .i64 b, .int .i64 c, .int .i64 m]] w fun e w' => ∃ v, e = .returned v ∧ w'.ownsRow w.heap.size 3 1 v (hits true true false a b c 15).length ((hits true true false a b c 15).map (Value.int .i64)) ∧ Below w.heap.size w w' := by
  have hr := fun W => ref_valid_any op a b c m h0 h1 W
  rw [hv] at hr
  have Hr := Lib.hid hr
  have hf := fun W => format_any op h0 h1 W
  rw [decide_eq_true hop] at hf
  have Hf := Lib.hid hf
  obtain ⟨i0, hi, hz0, hz1, hz2⟩ := info_parts tinfo3
  have q19 : (op == 19) = true := by subst hc; decide
  have q21 : (op == 21) = false := by subst hc; decide
  have q22 : (op == 22) = false := by subst hc; decide
  have q23 : (op == 23) = false := by subst hc; decide
  have q25 : (op == 25) = false := by subst hc; decide
  have q27 : (op == 27) = false := by subst hc; decide
  clear hr hv hc hf hop h0 h1
  go_enter Try.func33, Try.ntmps33
  go_wp2_with fail
  have XI0 := Lib.hid ((IF.newAt op a b c m w w.heap.size rfl).alloc (.cells #[] 3))
  have BI := Lib.hid (below_new (below_new (Below.refl w.heap.size w) (.cells #[.int .u8 (op), .int .i64 (a), .int .i64 (b), .int .i64 (c), .int .i64 (m)] 23)) (.cells #[] 3))
  have O0 := Lib.hid (own_empty (w.alloc (.cells #[.int .u8 (op), .int .i64 (a), .int .i64 (b), .int .i64 (c), .int .i64 (m)] 23)) (w.heap.size + 1) (w.heap.size + 1) (by simp) (Nat.le_refl _))
  refine (Hr.out _).mono ?_
  rintro e w1 ⟨rfl, hb1⟩
  have B1 := Lib.hid (below_next BI.out hb1)
  have XI1 := Lib.hid (XI0.out.step hb1)
  have O1 := Lib.hid (own_far O0.out hb1)
  clear hb1
  have XI1_lt := XI1.out.lt
  have XI1_i0 := XI1.out.i0
  have XI1_i1 := XI1.out.i1
  have XI1_i2 := XI1.out.i2
  have XI1_i3 := XI1.out.i3
  have XI1_i4 := XI1.out.i4
  go_wp2_with fail
  refine (Hf.out _).mono ?_
  rintro e w2 ⟨rfl, hb2⟩
  have B2 := Lib.hid (below_next B1.out hb2)
  have XI2 := Lib.hid (XI1.out.step hb2)
  have O2 := Lib.hid (own_far O1.out hb2)
  clear hb2
  have XI2_lt := XI2.out.lt
  have XI2_i0 := XI2.out.i0
  have XI2_i1 := XI2.out.i1
  have XI2_i2 := XI2.out.i2
  have XI2_i3 := XI2.out.i3
  have XI2_i4 := XI2.out.i4
  go_wp2_with fail
  go_loopw [3, 9] (fun v r wr => ∃ k : Nat, k ≤ 15 ∧ r = .int .i64 ((k : Int) + 1) ∧ wr.ownsRow (w.heap.size + 1) 3 1 v (hits true true false a b c k).length ((hits true true false a b c k).map (Value.int .i64)) ∧ IF w.heap.size op a b c m wr ∧ Below w.heap.size w wr)
    (fun _ r _ => 16 - (intOf r).toNat)
  case atStart => exact ⟨0, by omega, rfl, O2.out, XI2.out, B2.out⟩
  case round =>
    obtain ⟨k, hk, rfl, hown, hI, hB⟩ := hrel
    have j1 := hI.i1
    have j2 := hI.i2
    have j3 := hI.i3
    have hll := hits_le true true false a b c k
    have HI := Lib.hid hI
    have HO := Lib.hid hown
    have HB := Lib.hid hB
    clear hI hown hB
    by_cases hlt : k < 15
    · by_cases ta : a = (k : Int) + 1
      · have qa : (a == (k : Int) + 1) = true := by simpa using ta
        have Ta := Lib.hid ta
        clear ta
        by_cases tb : b = (k : Int) + 1
        · have qb : (b == (k : Int) + 1) = true := by simpa using tb
          have Tb := Lib.hid tb
          clear tb
          have Hh := Lib.hid (show hit true true false a b c ((k : Int) + 1) = true by unfold hit; simp [*])
          go_wp2_with (at_builtin; refine wpList_append_own _ rfl _ _ 44 rfl (w.heap.size + 1) 3 i0 (.int .i64 0) 1 8 Try.underlying44 hi hz0 hz1 hz2 rfl (by decide) _ _ _ rfl (HO.out.alloc _) ⟨wr.heap.size, 0, none⟩ 1 1 [.int .i64 ((k : Int) + 1)] rfl rfl (cell_one_new _ _ _) (by simp [Value.oneCell']) (by unfold maxLen; omega) (by omega) (by have := HI.out.lt; simp; omega) ?_; intro v' w1 hown1 hgrow1 _; have H1 := Lib.hid hown1; have G1 := Lib.hid hgrow1; clear hown1 hgrow1)
          go_roundw
          case rel =>
            have hyes := hits_yes Hh.out
            have hb1 : Below w.heap.size w w1 := (HB.out.alloc HB.out.size _).grown G1.out (by have := HB.out.size; simp; omega) (fun j hj => by have := own_base HO.out j hj; omega)
            have hA : w1.heap[w.heap.size]? = (wr.alloc (.cells #[.int .i64 ((k : Int) + 1)] 3)).heap[w.heap.size]? := G1.out.block w.heap.size (by have := HI.out.lt; simp; omega) (fun e => by have := own_base HO.out w.heap.size e.symm; omega)
            have hcell : ∀ j, w1.cell? ⟨w.heap.size, j, none⟩ = wr.cell? ⟨w.heap.size, j, none⟩ := fun j => (World.cell?_of_block hA).trans (World.cell?_alloc_past _ _ _ HI.out.lt)
            refine ⟨k + 1, by omega, by go_num, ?_, ⟨Nat.lt_of_lt_of_le HI.out.lt (by have := G1.out.size; simp at this; omega), (hcell 0).trans HI.out.i0, (hcell 1).trans HI.out.i1, (hcell 2).trans HI.out.i2, (hcell 3).trans HI.out.i3, (hcell 4).trans HI.out.i4⟩, hb1⟩
            · rw [hyes, List.length_append, List.map_append]; exact H1.out
          case measure => simp [intOf]; omega
        · have qb : (b == (k : Int) + 1) = false := by simpa using tb
          have Tb := Lib.hid tb
          clear tb
          have Hh := Lib.hid (show hit true true false a b c ((k : Int) + 1) = true by unfold hit; simp [*])
          go_wp2_with (at_builtin; refine wpList_append_own _ rfl _ _ 44 rfl (w.heap.size + 1) 3 i0 (.int .i64 0) 1 8 Try.underlying44 hi hz0 hz1 hz2 rfl (by decide) _ _ _ rfl (HO.out.alloc _) ⟨wr.heap.size, 0, none⟩ 1 1 [.int .i64 ((k : Int) + 1)] rfl rfl (cell_one_new _ _ _) (by simp [Value.oneCell']) (by unfold maxLen; omega) (by omega) (by have := HI.out.lt; simp; omega) ?_; intro v' w1 hown1 hgrow1 _; have H1 := Lib.hid hown1; have G1 := Lib.hid hgrow1; clear hown1 hgrow1)
          go_roundw
          case rel =>
            have hyes := hits_yes Hh.out
            have hb1 : Below w.heap.size w w1 := (HB.out.alloc HB.out.size _).grown G1.out (by have := HB.out.size; simp; omega) (fun j hj => by have := own_base HO.out j hj; omega)
            have hA : w1.heap[w.heap.size]? = (wr.alloc (.cells #[.int .i64 ((k : Int) + 1)] 3)).heap[w.heap.size]? := G1.out.block w.heap.size (by have := HI.out.lt; simp; omega) (fun e => by have := own_base HO.out w.heap.size e.symm; omega)
            have hcell : ∀ j, w1.cell? ⟨w.heap.size, j, none⟩ = wr.cell? ⟨w.heap.size, j, none⟩ := fun j => (World.cell?_of_block hA).trans (World.cell?_alloc_past _ _ _ HI.out.lt)
            refine ⟨k + 1, by omega, by go_num, ?_, ⟨Nat.lt_of_lt_of_le HI.out.lt (by have := G1.out.size; simp at this; omega), (hcell 0).trans HI.out.i0, (hcell 1).trans HI.out.i1, (hcell 2).trans HI.out.i2, (hcell 3).trans HI.out.i3, (hcell 4).trans HI.out.i4⟩, hb1⟩
            · rw [hyes, List.length_append, List.map_append]; exact H1.out
          case measure => simp [intOf]; omega
      · have qa : (a == (k : Int) + 1) = false := by simpa using ta
        have Ta := Lib.hid ta
        clear ta
        by_cases tb : b = (k : Int) + 1
        · have qb : (b == (k : Int) + 1) = true := by simpa using tb
          have Tb := Lib.hid tb
          clear tb
          have Hh := Lib.hid (show hit true true false a b c ((k : Int) + 1) = true by unfold hit; simp [*])
          go_wp2_with (at_builtin; refine wpList_append_own _ rfl _ _ 44 rfl (w.heap.size + 1) 3 i0 (.int .i64 0) 1 8 Try.underlying44 hi hz0 hz1 hz2 rfl (by decide) _ _ _ rfl (HO.out.alloc _) ⟨wr.heap.size, 0, none⟩ 1 1 [.int .i64 ((k : Int) + 1)] rfl rfl (cell_one_new _ _ _) (by simp [Value.oneCell']) (by unfold maxLen; omega) (by omega) (by have := HI.out.lt; simp; omega) ?_; intro v' w1 hown1 hgrow1 _; have H1 := Lib.hid hown1; have G1 := Lib.hid hgrow1; clear hown1 hgrow1)
          go_roundw
          case rel =>
            have hyes := hits_yes Hh.out
            have hb1 : Below w.heap.size w w1 := (HB.out.alloc HB.out.size _).grown G1.out (by have := HB.out.size; simp; omega) (fun j hj => by have := own_base HO.out j hj; omega)
            have hA : w1.heap[w.heap.size]? = (wr.alloc (.cells #[.int .i64 ((k : Int) + 1)] 3)).heap[w.heap.size]? := G1.out.block w.heap.size (by have := HI.out.lt; simp; omega) (fun e => by have := own_base HO.out w.heap.size e.symm; omega)
            have hcell : ∀ j, w1.cell? ⟨w.heap.size, j, none⟩ = wr.cell? ⟨w.heap.size, j, none⟩ := fun j => (World.cell?_of_block hA).trans (World.cell?_alloc_past _ _ _ HI.out.lt)
            refine ⟨k + 1, by omega, by go_num, ?_, ⟨Nat.lt_of_lt_of_le HI.out.lt (by have := G1.out.size; simp at this; omega), (hcell 0).trans HI.out.i0, (hcell 1).trans HI.out.i1, (hcell 2).trans HI.out.i2, (hcell 3).trans HI.out.i3, (hcell 4).trans HI.out.i4⟩, hb1⟩
            · rw [hyes, List.length_append, List.map_append]; exact H1.out
          case measure => simp [intOf]; omega
        · have qb : (b == (k : Int) + 1) = false := by simpa using tb
          have Tb := Lib.hid tb
          clear tb
          have Hh := Lib.hid (show hit true true false a b c ((k : Int) + 1) = false by unfold hit; simp [*])
          go_wp2_with fail
          go_roundw
          case rel => exact ⟨k + 1, by omega, by go_num, by rw [hits_no Hh.out]; exact HO.out, HI.out, HB.out⟩
          case measure => simp [intOf]; omega
    · have hk15 : k = 15 := by omega
      subst hk15
      go_wp2_with fail
      go_ret
      exact ⟨_, rfl, own_weaken HO.out (by omega), HB.out⟩
set_option maxRecDepth 100000 in
set_option maxHeartbeats 4000000 in
theorem ref_reads_c21 (op a b c m : Int) (h0 : 0 ≤ op) (h1 : op ≤ 255) (hop : op < 30) (hv : validB op a b c m = true) (hc : op = 21) (k1 : decide ((1 : Int) < ((fS op).size : Int)) = true) (k2 : decide ((2 : Int) < ((fS op).size : Int)) = false) (w : World) :
    Calls Try.prog 33 #[.agg #[.int .u8 op, .int .i64 a, .int .i64 b, .int .i64 c, .int .i64 m]] w fun e w' => ∃ v, e = .returned v ∧ w'.ownsRow w.heap.size 3 1 v (hits true true false a b c 15).length ((hits true true false a b c 15).map (Value.int .i64)) ∧ Below w.heap.size w w' := by
  have hr := fun W => ref_valid_any op a b c m h0 h1 W
  rw [hv] at hr
  have Hr := Lib.hid hr
  have hf := fun W => format_any op h0 h1 W
  rw [decide_eq_true hop] at hf
  have Hf := Lib.hid hf
  obtain ⟨i0, hi, hz0, hz1, hz2⟩ := info_parts tinfo3
  have q19 : (op == 19) = false := by subst hc; decide
  have q21 : (op == 21) = true := by subst hc; decide
  have q22 : (op == 22) = false := by subst hc; decide
  have q23 : (op == 23) = false := by subst hc; decide
  have q25 : (op == 25) = false := by subst hc; decide
  have q27 : (op == 27) = false := by subst hc; decide
  clear hr hv hc hf hop h0 h1
  go_enter Try.func33, Try.ntmps33
  go_wp2_with fail
  have XI0 := Lib.hid ((IF.newAt op a b c m w w.heap.size rfl).alloc (.cells #[] 3))
  have BI := Lib.hid (below_new (below_new (Below.refl w.heap.size w) (.cells #[.int .u8 (op), .int .i64 (a), .int .i64 (b), .int .i64 (c), .int .i64 (m)] 23)) (.cells #[] 3))
  have O0 := Lib.hid (own_empty (w.alloc (.cells #[.int .u8 (op), .int .i64 (a), .int .i64 (b), .int .i64 (c), .int .i64 (m)] 23)) (w.heap.size + 1) (w.heap.size + 1) (by simp) (Nat.le_refl _))
  refine (Hr.out _).mono ?_
  rintro e w1 ⟨rfl, hb1⟩
  have B1 := Lib.hid (below_next BI.out hb1)
  have XI1 := Lib.hid (XI0.out.step hb1)
  have O1 := Lib.hid (own_far O0.out hb1)
  clear hb1
  have XI1_lt := XI1.out.lt
  have XI1_i0 := XI1.out.i0
  have XI1_i1 := XI1.out.i1
  have XI1_i2 := XI1.out.i2
  have XI1_i3 := XI1.out.i3
  have XI1_i4 := XI1.out.i4
  go_wp2_with fail
  refine (Hf.out _).mono ?_
  rintro e w2 ⟨rfl, hb2⟩
  have B2 := Lib.hid (below_next B1.out hb2)
  have XI2 := Lib.hid (XI1.out.step hb2)
  have O2 := Lib.hid (own_far O1.out hb2)
  clear hb2
  have XI2_lt := XI2.out.lt
  have XI2_i0 := XI2.out.i0
  have XI2_i1 := XI2.out.i1
  have XI2_i2 := XI2.out.i2
  have XI2_i3 := XI2.out.i3
  have XI2_i4 := XI2.out.i4
  go_wp2_with fail
  go_loopw [3, 9] (fun v r wr => ∃ k : Nat, k ≤ 15 ∧ r = .int .i64 ((k : Int) + 1) ∧ wr.ownsRow (w.heap.size + 1) 3 1 v (hits true true false a b c k).length ((hits true true false a b c k).map (Value.int .i64)) ∧ IF w.heap.size op a b c m wr ∧ Below w.heap.size w wr)
    (fun _ r _ => 16 - (intOf r).toNat)
  case atStart => exact ⟨0, by omega, rfl, O2.out, XI2.out, B2.out⟩
  case round =>
    obtain ⟨k, hk, rfl, hown, hI, hB⟩ := hrel
    have j1 := hI.i1
    have j2 := hI.i2
    have j3 := hI.i3
    have hll := hits_le true true false a b c k
    have HI := Lib.hid hI
    have HO := Lib.hid hown
    have HB := Lib.hid hB
    clear hI hown hB
    by_cases hlt : k < 15
    · by_cases ta : a = (k : Int) + 1
      · have qa : (a == (k : Int) + 1) = true := by simpa using ta
        have Ta := Lib.hid ta
        clear ta
        by_cases tb : b = (k : Int) + 1
        · have qb : (b == (k : Int) + 1) = true := by simpa using tb
          have Tb := Lib.hid tb
          clear tb
          have Hh := Lib.hid (show hit true true false a b c ((k : Int) + 1) = true by unfold hit; simp [*])
          go_wp2_with (at_builtin; refine wpList_append_own _ rfl _ _ 44 rfl (w.heap.size + 1) 3 i0 (.int .i64 0) 1 8 Try.underlying44 hi hz0 hz1 hz2 rfl (by decide) _ _ _ rfl (HO.out.alloc _) ⟨wr.heap.size, 0, none⟩ 1 1 [.int .i64 ((k : Int) + 1)] rfl rfl (cell_one_new _ _ _) (by simp [Value.oneCell']) (by unfold maxLen; omega) (by omega) (by have := HI.out.lt; simp; omega) ?_; intro v' w1 hown1 hgrow1 _; have H1 := Lib.hid hown1; have G1 := Lib.hid hgrow1; clear hown1 hgrow1)
          go_roundw
          case rel =>
            have hyes := hits_yes Hh.out
            have hb1 : Below w.heap.size w w1 := (HB.out.alloc HB.out.size _).grown G1.out (by have := HB.out.size; simp; omega) (fun j hj => by have := own_base HO.out j hj; omega)
            have hA : w1.heap[w.heap.size]? = (wr.alloc (.cells #[.int .i64 ((k : Int) + 1)] 3)).heap[w.heap.size]? := G1.out.block w.heap.size (by have := HI.out.lt; simp; omega) (fun e => by have := own_base HO.out w.heap.size e.symm; omega)
            have hcell : ∀ j, w1.cell? ⟨w.heap.size, j, none⟩ = wr.cell? ⟨w.heap.size, j, none⟩ := fun j => (World.cell?_of_block hA).trans (World.cell?_alloc_past _ _ _ HI.out.lt)
            refine ⟨k + 1, by omega, by go_num, ?_, ⟨Nat.lt_of_lt_of_le HI.out.lt (by have := G1.out.size; simp at this; omega), (hcell 0).trans HI.out.i0, (hcell 1).trans HI.out.i1, (hcell 2).trans HI.out.i2, (hcell 3).trans HI.out.i3, (hcell 4).trans HI.out.i4⟩, hb1⟩
            · rw [hyes, List.length_append, List.map_append]; exact H1.out
          case measure => simp [intOf]; omega
        · have qb : (b == (k : Int) + 1) = false := by simpa using tb
          have Tb := Lib.hid tb
          clear tb
          have Hh := Lib.hid (show hit true true false a b c ((k : Int) + 1) = true by unfold hit; simp [*])
          go_wp2_with (at_builtin; refine wpList_append_own _ rfl _ _ 44 rfl (w.heap.size + 1) 3 i0 (.int .i64 0) 1 8 Try.underlying44 hi hz0 hz1 hz2 rfl (by decide) _ _ _ rfl (HO.out.alloc _) ⟨wr.heap.size, 0, none⟩ 1 1 [.int .i64 ((k : Int) + 1)] rfl rfl (cell_one_new _ _ _) (by simp [Value.oneCell']) (by unfold maxLen; omega) (by omega) (by have := HI.out.lt; simp; omega) ?_; intro v' w1 hown1 hgrow1 _; have H1 := Lib.hid hown1; have G1 := Lib.hid hgrow1; clear hown1 hgrow1)
          go_roundw
          case rel =>
            have hyes := hits_yes Hh.out
            have hb1 : Below w.heap.size w w1 := (HB.out.alloc HB.out.size _).grown G1.out (by have := HB.out.size; simp; omega) (fun j hj => by have := own_base HO.out j hj; omega)
            have hA : w1.heap[w.heap.size]? = (wr.alloc (.cells #[.int .i64 ((k : Int) + 1)] 3)).heap[w.heap.size]? := G1.out.block w.heap.size (by have := HI.out.lt; simp; omega) (fun e => by have := own_base HO.out w.heap.size e.symm; omega)
            have hcell : ∀ j, w1.cell? ⟨w.heap.size, j, none⟩ = wr.cell? ⟨w.heap.size, j, none⟩ := fun j => (World.cell?_of_block hA).trans (World.cell?_alloc_past _ _ _ HI.out.lt)
            refine ⟨k + 1, by omega, by go_num, ?_, ⟨Nat.lt_of_lt_of_le HI.out.lt (by have := G1.out.size; simp at this; omega), (hcell 0).trans HI.out.i0, (hcell 1).trans HI.out.i1, (hcell 2).trans HI.out.i2, (hcell 3).trans HI.out.i3, (hcell 4).trans HI.out.i4⟩, hb1⟩
            · rw [hyes, List.length_append, List.map_append]; exact H1.out
          case measure => simp [intOf]; omega
      · have qa : (a == (k : Int) + 1) = false := by simpa using ta
        have Ta := Lib.hid ta
        clear ta
        by_cases tb : b = (k : Int) + 1
        · have qb : (b == (k : Int) + 1) = true := by simpa using tb
          have Tb := Lib.hid tb
          clear tb
          have Hh := Lib.hid (show hit true true false a b c ((k : Int) + 1) = true by unfold hit; simp [*])
          go_wp2_with (at_builtin; refine wpList_append_own _ rfl _ _ 44 rfl (w.heap.size + 1) 3 i0 (.int .i64 0) 1 8 Try.underlying44 hi hz0 hz1 hz2 rfl (by decide) _ _ _ rfl (HO.out.alloc _) ⟨wr.heap.size, 0, none⟩ 1 1 [.int .i64 ((k : Int) + 1)] rfl rfl (cell_one_new _ _ _) (by simp [Value.oneCell']) (by unfold maxLen; omega) (by omega) (by have := HI.out.lt; simp; omega) ?_; intro v' w1 hown1 hgrow1 _; have H1 := Lib.hid hown1; have G1 := Lib.hid hgrow1; clear hown1 hgrow1)
          go_roundw
          case rel =>
            have hyes := hits_yes Hh.out
            have hb1 : Below w.heap.size w w1 := (HB.out.alloc HB.out.size _).grown G1.out (by have := HB.out.size; simp; omega) (fun j hj => by have := own_base HO.out j hj; omega)
            have hA : w1.heap[w.heap.size]? = (wr.alloc (.cells #[.int .i64 ((k : Int) + 1)] 3)).heap[w.heap.size]? := G1.out.block w.heap.size (by have := HI.out.lt; simp; omega) (fun e => by have := own_base HO.out w.heap.size e.symm; omega)
            have hcell : ∀ j, w1.cell? ⟨w.heap.size, j, none⟩ = wr.cell? ⟨w.heap.size, j, none⟩ := fun j => (World.cell?_of_block hA).trans (World.cell?_alloc_past _ _ _ HI.out.lt)
            refine ⟨k + 1, by omega, by go_num, ?_, ⟨Nat.lt_of_lt_of_le HI.out.lt (by have := G1.out.size; simp at this; omega), (hcell 0).trans HI.out.i0, (hcell 1).trans HI.out.i1, (hcell 2).trans HI.out.i2, (hcell 3).trans HI.out.i3, (hcell 4).trans HI.out.i4⟩, hb1⟩
            · rw [hyes, List.length_append, List.map_append]; exact H1.out
          case measure => simp [intOf]; omega
        · have qb : (b == (k : Int) + 1) = false := by simpa using tb
          have Tb := Lib.hid tb
          clear tb
          have Hh := Lib.hid (show hit true true false a b c ((k : Int) + 1) = false by unfold hit; simp [*])
          go_wp2_with fail
          go_roundw
          case rel => exact ⟨k + 1, by omega, by go_num, by rw [hits_no Hh.out]; exact HO.out, HI.out, HB.out⟩
          case measure => simp [intOf]; omega
    · have hk15 : k = 15 := by omega
      subst hk15
      go_wp2_with fail
      go_ret
      exact ⟨_, rfl, own_weaken HO.out (by omega), HB.out⟩
set_option maxRecDepth 100000 in
set_option maxHeartbeats 4000000 in
theorem ref_reads_c22 (op a b c m : Int) (h0 : 0 ≤ op) (h1 : op ≤ 255) (hop : op < 30) (hv : validB op a b c m = true) (hc : op = 22) (k1 : decide ((1 : Int) < ((fS op).size : Int)) = false) (k2 : decide ((2 : Int) < ((fS op).size : Int)) = false) (w : World) :
    Calls Try.prog 33 #[.agg #[.int .u8 op, .int .i64 a, .int .i64 b, .int .i64 c, .int .i64 m]] w fun e w' => ∃ v, e = .returned v ∧ w'.ownsRow w.heap.size 3 1 v (hits true false false a b c 15).length ((hits true false false a b c 15).map (Value.int .i64)) ∧ Below w.heap.size w w' := by
  have hr := fun W => ref_valid_any op a b c m h0 h1 W
  rw [hv] at hr
  have Hr := Lib.hid hr
  have hf := fun W => format_any op h0 h1 W
  rw [decide_eq_true hop] at hf
  have Hf := Lib.hid hf
  obtain ⟨i0, hi, hz0, hz1, hz2⟩ := info_parts tinfo3
  have q19 : (op == 19) = false := by subst hc; decide
  have q21 : (op == 21) = false := by subst hc; decide
  have q22 : (op == 22) = true := by subst hc; decide
  have q23 : (op == 23) = false := by subst hc; decide
  have q25 : (op == 25) = false := by subst hc; decide
  have q27 : (op == 27) = false := by subst hc; decide
  clear hr hv hc hf hop h0 h1
  go_enter Try.func33, Try.ntmps33
  go_wp2_with fail
  have XI0 := Lib.hid ((IF.newAt op a b c m w w.heap.size rfl).alloc (.cells #[] 3))
  have BI := Lib.hid (below_new (below_new (Below.refl w.heap.size w) (.cells #[.int .u8 (op), .int .i64 (a), .int .i64 (b), .int .i64 (c), .int .i64 (m)] 23)) (.cells #[] 3))
  have O0 := Lib.hid (own_empty (w.alloc (.cells #[.int .u8 (op), .int .i64 (a), .int .i64 (b), .int .i64 (c), .int .i64 (m)] 23)) (w.heap.size + 1) (w.heap.size + 1) (by simp) (Nat.le_refl _))
  refine (Hr.out _).mono ?_
  rintro e w1 ⟨rfl, hb1⟩
  have B1 := Lib.hid (below_next BI.out hb1)
  have XI1 := Lib.hid (XI0.out.step hb1)
  have O1 := Lib.hid (own_far O0.out hb1)
  clear hb1
  have XI1_lt := XI1.out.lt
  have XI1_i0 := XI1.out.i0
  have XI1_i1 := XI1.out.i1
  have XI1_i2 := XI1.out.i2
  have XI1_i3 := XI1.out.i3
  have XI1_i4 := XI1.out.i4
  go_wp2_with fail
  refine (Hf.out _).mono ?_
  rintro e w2 ⟨rfl, hb2⟩
  have B2 := Lib.hid (below_next B1.out hb2)
  have XI2 := Lib.hid (XI1.out.step hb2)
  have O2 := Lib.hid (own_far O1.out hb2)
  clear hb2
  have XI2_lt := XI2.out.lt
  have XI2_i0 := XI2.out.i0
  have XI2_i1 := XI2.out.i1
  have XI2_i2 := XI2.out.i2
  have XI2_i3 := XI2.out.i3
  have XI2_i4 := XI2.out.i4
  go_wp2_with fail
  go_loopw [3, 9] (fun v r wr => ∃ k : Nat, k ≤ 15 ∧ r = .int .i64 ((k : Int) + 1) ∧ wr.ownsRow (w.heap.size + 1) 3 1 v (hits true false false a b c k).length ((hits true false false a b c k).map (Value.int .i64)) ∧ IF w.heap.size op a b c m wr ∧ Below w.heap.size w wr)
    (fun _ r _ => 16 - (intOf r).toNat)
  case atStart => exact ⟨0, by omega, rfl, O2.out, XI2.out, B2.out⟩
  case round =>
    obtain ⟨k, hk, rfl, hown, hI, hB⟩ := hrel
    have j1 := hI.i1
    have j2 := hI.i2
    have j3 := hI.i3
    have hll := hits_le true false false a b c k
    have HI := Lib.hid hI
    have HO := Lib.hid hown
    have HB := Lib.hid hB
    clear hI hown hB
    by_cases hlt : k < 15
    · by_cases ta : a = (k : Int) + 1
      · have qa : (a == (k : Int) + 1) = true := by simpa using ta
        have Ta := Lib.hid ta
        clear ta
        have Hh := Lib.hid (show hit true false false a b c ((k : Int) + 1) = true by unfold hit; simp [*])
        go_wp2_with (at_builtin; refine wpList_append_own _ rfl _ _ 44 rfl (w.heap.size + 1) 3 i0 (.int .i64 0) 1 8 Try.underlying44 hi hz0 hz1 hz2 rfl (by decide) _ _ _ rfl (HO.out.alloc _) ⟨wr.heap.size, 0, none⟩ 1 1 [.int .i64 ((k : Int) + 1)] rfl rfl (cell_one_new _ _ _) (by simp [Value.oneCell']) (by unfold maxLen; omega) (by omega) (by have := HI.out.lt; simp; omega) ?_; intro v' w1 hown1 hgrow1 _; have H1 := Lib.hid hown1; have G1 := Lib.hid hgrow1; clear hown1 hgrow1)
        go_roundw
        case rel =>
          have hyes := hits_yes Hh.out
          have hb1 : Below w.heap.size w w1 := (HB.out.alloc HB.out.size _).grown G1.out (by have := HB.out.size; simp; omega) (fun j hj => by have := own_base HO.out j hj; omega)
          have hA : w1.heap[w.heap.size]? = (wr.alloc (.cells #[.int .i64 ((k : Int) + 1)] 3)).heap[w.heap.size]? := G1.out.block w.heap.size (by have := HI.out.lt; simp; omega) (fun e => by have := own_base HO.out w.heap.size e.symm; omega)
          have hcell : ∀ j, w1.cell? ⟨w.heap.size, j, none⟩ = wr.cell? ⟨w.heap.size, j, none⟩ := fun j => (World.cell?_of_block hA).trans (World.cell?_alloc_past _ _ _ HI.out.lt)
          refine ⟨k + 1, by omega, by go_num, ?_, ⟨Nat.lt_of_lt_of_le HI.out.lt (by have := G1.out.size; simp at this; omega), (hcell 0).trans HI.out.i0, (hcell 1).trans HI.out.i1, (hcell 2).trans HI.out.i2, (hcell 3).trans HI.out.i3, (hcell 4).trans HI.out.i4⟩, hb1⟩
          · rw [hyes, List.length_append, List.map_append]; exact H1.out
        case measure => simp [intOf]; omega
      · have qa : (a == (k : Int) + 1) = false := by simpa using ta
        have Ta := Lib.hid ta
        clear ta
        have Hh := Lib.hid (show hit true false false a b c ((k : Int) + 1) = false by unfold hit; simp [*])
        go_wp2_with fail
        go_roundw
        case rel => exact ⟨k + 1, by omega, by go_num, by rw [hits_no Hh.out]; exact HO.out, HI.out, HB.out⟩
        case measure => simp [intOf]; omega
    · have hk15 : k = 15 := by omega
      subst hk15
      go_wp2_with fail
      go_ret
      exact ⟨_, rfl, own_weaken HO.out (by omega), HB.out⟩
set_option maxRecDepth 100000 in
set_option maxHeartbeats 4000000 in
theorem ref_reads_c23 (op a b c m : Int) (h0 : 0 ≤ op) (h1 : op ≤ 255) (hop : op < 30) (hv : validB op a b c m = true) (hc : op = 23) (k1 : decide ((1 : Int) < ((fS op).size : Int)) = false) (k2 : decide ((2 : Int) < ((fS op).size : Int)) = false) (w : World) :
    Calls Try.prog 33 #[.agg #[.int .u8 op, .int .i64 a, .int .i64 b, .int .i64 c, .int .i64 m]] w fun e w' => ∃ v, e = .returned v ∧ w'.ownsRow w.heap.size 3 1 v (hits true false false a b c 15).length ((hits true false false a b c 15).map (Value.int .i64)) ∧ Below w.heap.size w w' := by
  have hr := fun W => ref_valid_any op a b c m h0 h1 W
  rw [hv] at hr
  have Hr := Lib.hid hr
  have hf := fun W => format_any op h0 h1 W
  rw [decide_eq_true hop] at hf
  have Hf := Lib.hid hf
  obtain ⟨i0, hi, hz0, hz1, hz2⟩ := info_parts tinfo3
  have q19 : (op == 19) = false := by subst hc; decide
  have q21 : (op == 21) = false := by subst hc; decide
  have q22 : (op == 22) = false := by subst hc; decide
  have q23 : (op == 23) = true := by subst hc; decide
  have q25 : (op == 25) = false := by subst hc; decide
  have q27 : (op == 27) = false := by subst hc; decide
  clear hr hv hc hf hop h0 h1
  go_enter Try.func33, Try.ntmps33
  go_wp2_with fail
  have XI0 := Lib.hid ((IF.newAt op a b c m w w.heap.size rfl).alloc (.cells #[] 3))
  have BI := Lib.hid (below_new (below_new (Below.refl w.heap.size w) (.cells #[.int .u8 (op), .int .i64 (a), .int .i64 (b), .int .i64 (c), .int .i64 (m)] 23)) (.cells #[] 3))
  have O0 := Lib.hid (own_empty (w.alloc (.cells #[.int .u8 (op), .int .i64 (a), .int .i64 (b), .int .i64 (c), .int .i64 (m)] 23)) (w.heap.size + 1) (w.heap.size + 1) (by simp) (Nat.le_refl _))
  refine (Hr.out _).mono ?_
  rintro e w1 ⟨rfl, hb1⟩
  have B1 := Lib.hid (below_next BI.out hb1)
  have XI1 := Lib.hid (XI0.out.step hb1)
  have O1 := Lib.hid (own_far O0.out hb1)
  clear hb1
  have XI1_lt := XI1.out.lt
  have XI1_i0 := XI1.out.i0
  have XI1_i1 := XI1.out.i1
  have XI1_i2 := XI1.out.i2
  have XI1_i3 := XI1.out.i3
  have XI1_i4 := XI1.out.i4
  go_wp2_with fail
  refine (Hf.out _).mono ?_
  rintro e w2 ⟨rfl, hb2⟩
  have B2 := Lib.hid (below_next B1.out hb2)
  have XI2 := Lib.hid (XI1.out.step hb2)
  have O2 := Lib.hid (own_far O1.out hb2)
  clear hb2
  have XI2_lt := XI2.out.lt
  have XI2_i0 := XI2.out.i0
  have XI2_i1 := XI2.out.i1
  have XI2_i2 := XI2.out.i2
  have XI2_i3 := XI2.out.i3
  have XI2_i4 := XI2.out.i4
  go_wp2_with fail
  go_loopw [3, 9] (fun v r wr => ∃ k : Nat, k ≤ 15 ∧ r = .int .i64 ((k : Int) + 1) ∧ wr.ownsRow (w.heap.size + 1) 3 1 v (hits true false false a b c k).length ((hits true false false a b c k).map (Value.int .i64)) ∧ IF w.heap.size op a b c m wr ∧ Below w.heap.size w wr)
    (fun _ r _ => 16 - (intOf r).toNat)
  case atStart => exact ⟨0, by omega, rfl, O2.out, XI2.out, B2.out⟩
  case round =>
    obtain ⟨k, hk, rfl, hown, hI, hB⟩ := hrel
    have j1 := hI.i1
    have j2 := hI.i2
    have j3 := hI.i3
    have hll := hits_le true false false a b c k
    have HI := Lib.hid hI
    have HO := Lib.hid hown
    have HB := Lib.hid hB
    clear hI hown hB
    by_cases hlt : k < 15
    · by_cases ta : a = (k : Int) + 1
      · have qa : (a == (k : Int) + 1) = true := by simpa using ta
        have Ta := Lib.hid ta
        clear ta
        have Hh := Lib.hid (show hit true false false a b c ((k : Int) + 1) = true by unfold hit; simp [*])
        go_wp2_with (at_builtin; refine wpList_append_own _ rfl _ _ 44 rfl (w.heap.size + 1) 3 i0 (.int .i64 0) 1 8 Try.underlying44 hi hz0 hz1 hz2 rfl (by decide) _ _ _ rfl (HO.out.alloc _) ⟨wr.heap.size, 0, none⟩ 1 1 [.int .i64 ((k : Int) + 1)] rfl rfl (cell_one_new _ _ _) (by simp [Value.oneCell']) (by unfold maxLen; omega) (by omega) (by have := HI.out.lt; simp; omega) ?_; intro v' w1 hown1 hgrow1 _; have H1 := Lib.hid hown1; have G1 := Lib.hid hgrow1; clear hown1 hgrow1)
        go_roundw
        case rel =>
          have hyes := hits_yes Hh.out
          have hb1 : Below w.heap.size w w1 := (HB.out.alloc HB.out.size _).grown G1.out (by have := HB.out.size; simp; omega) (fun j hj => by have := own_base HO.out j hj; omega)
          have hA : w1.heap[w.heap.size]? = (wr.alloc (.cells #[.int .i64 ((k : Int) + 1)] 3)).heap[w.heap.size]? := G1.out.block w.heap.size (by have := HI.out.lt; simp; omega) (fun e => by have := own_base HO.out w.heap.size e.symm; omega)
          have hcell : ∀ j, w1.cell? ⟨w.heap.size, j, none⟩ = wr.cell? ⟨w.heap.size, j, none⟩ := fun j => (World.cell?_of_block hA).trans (World.cell?_alloc_past _ _ _ HI.out.lt)
          refine ⟨k + 1, by omega, by go_num, ?_, ⟨Nat.lt_of_lt_of_le HI.out.lt (by have := G1.out.size; simp at this; omega), (hcell 0).trans HI.out.i0, (hcell 1).trans HI.out.i1, (hcell 2).trans HI.out.i2, (hcell 3).trans HI.out.i3, (hcell 4).trans HI.out.i4⟩, hb1⟩
          · rw [hyes, List.length_append, List.map_append]; exact H1.out
        case measure => simp [intOf]; omega
      · have qa : (a == (k : Int) + 1) = false := by simpa using ta
        have Ta := Lib.hid ta
        clear ta
        have Hh := Lib.hid (show hit true false false a b c ((k : Int) + 1) = false by unfold hit; simp [*])
        go_wp2_with fail
        go_roundw
        case rel => exact ⟨k + 1, by omega, by go_num, by rw [hits_no Hh.out]; exact HO.out, HI.out, HB.out⟩
        case measure => simp [intOf]; omega
    · have hk15 : k = 15 := by omega
      subst hk15
      go_wp2_with fail
      go_ret
      exact ⟨_, rfl, own_weaken HO.out (by omega), HB.out⟩
set_option maxRecDepth 100000 in
set_option maxHeartbeats 4000000 in
theorem ref_reads_c25 (op a b c m : Int) (h0 : 0 ≤ op) (h1 : op ≤ 255) (hop : op < 30) (hv : validB op a b c m = true) (hc : op = 25) (k1 : decide ((1 : Int) < ((fS op).size : Int)) = false) (k2 : decide ((2 : Int) < ((fS op).size : Int)) = false) (w : World) :
    Calls Try.prog 33 #[.agg #[.int .u8 op, .int .i64 a, .int .i64 b, .int .i64 c, .int .i64 m]] w fun e w' => ∃ v, e = .returned v ∧ w'.ownsRow w.heap.size 3 1 v (hits true false false a b c 15).length ((hits true false false a b c 15).map (Value.int .i64)) ∧ Below w.heap.size w w' := by
  have hr := fun W => ref_valid_any op a b c m h0 h1 W
  rw [hv] at hr
  have Hr := Lib.hid hr
  have hf := fun W => format_any op h0 h1 W
  rw [decide_eq_true hop] at hf
  have Hf := Lib.hid hf
  obtain ⟨i0, hi, hz0, hz1, hz2⟩ := info_parts tinfo3
  have q19 : (op == 19) = false := by subst hc; decide
  have q21 : (op == 21) = false := by subst hc; decide
  have q22 : (op == 22) = false := by subst hc; decide
  have q23 : (op == 23) = false := by subst hc; decide
  have q25 : (op == 25) = true := by subst hc; decide
  have q27 : (op == 27) = false := by subst hc; decide
  clear hr hv hc hf hop h0 h1
  go_enter Try.func33, Try.ntmps33
  go_wp2_with fail
  have XI0 := Lib.hid ((IF.newAt op a b c m w w.heap.size rfl).alloc (.cells #[] 3))
  have BI := Lib.hid (below_new (below_new (Below.refl w.heap.size w) (.cells #[.int .u8 (op), .int .i64 (a), .int .i64 (b), .int .i64 (c), .int .i64 (m)] 23)) (.cells #[] 3))
  have O0 := Lib.hid (own_empty (w.alloc (.cells #[.int .u8 (op), .int .i64 (a), .int .i64 (b), .int .i64 (c), .int .i64 (m)] 23)) (w.heap.size + 1) (w.heap.size + 1) (by simp) (Nat.le_refl _))
  refine (Hr.out _).mono ?_
  rintro e w1 ⟨rfl, hb1⟩
  have B1 := Lib.hid (below_next BI.out hb1)
  have XI1 := Lib.hid (XI0.out.step hb1)
  have O1 := Lib.hid (own_far O0.out hb1)
  clear hb1
  have XI1_lt := XI1.out.lt
  have XI1_i0 := XI1.out.i0
  have XI1_i1 := XI1.out.i1
  have XI1_i2 := XI1.out.i2
  have XI1_i3 := XI1.out.i3
  have XI1_i4 := XI1.out.i4
  go_wp2_with fail
  refine (Hf.out _).mono ?_
  rintro e w2 ⟨rfl, hb2⟩
  have B2 := Lib.hid (below_next B1.out hb2)
  have XI2 := Lib.hid (XI1.out.step hb2)
  have O2 := Lib.hid (own_far O1.out hb2)
  clear hb2
  have XI2_lt := XI2.out.lt
  have XI2_i0 := XI2.out.i0
  have XI2_i1 := XI2.out.i1
  have XI2_i2 := XI2.out.i2
  have XI2_i3 := XI2.out.i3
  have XI2_i4 := XI2.out.i4
  go_wp2_with fail
  go_loopw [3, 9] (fun v r wr => ∃ k : Nat, k ≤ 15 ∧ r = .int .i64 ((k : Int) + 1) ∧ wr.ownsRow (w.heap.size + 1) 3 1 v (hits true false false a b c k).length ((hits true false false a b c k).map (Value.int .i64)) ∧ IF w.heap.size op a b c m wr ∧ Below w.heap.size w wr)
    (fun _ r _ => 16 - (intOf r).toNat)
  case atStart => exact ⟨0, by omega, rfl, O2.out, XI2.out, B2.out⟩
  case round =>
    obtain ⟨k, hk, rfl, hown, hI, hB⟩ := hrel
    have j1 := hI.i1
    have j2 := hI.i2
    have j3 := hI.i3
    have hll := hits_le true false false a b c k
    have HI := Lib.hid hI
    have HO := Lib.hid hown
    have HB := Lib.hid hB
    clear hI hown hB
    by_cases hlt : k < 15
    · by_cases ta : a = (k : Int) + 1
      · have qa : (a == (k : Int) + 1) = true := by simpa using ta
        have Ta := Lib.hid ta
        clear ta
        have Hh := Lib.hid (show hit true false false a b c ((k : Int) + 1) = true by unfold hit; simp [*])
        go_wp2_with (at_builtin; refine wpList_append_own _ rfl _ _ 44 rfl (w.heap.size + 1) 3 i0 (.int .i64 0) 1 8 Try.underlying44 hi hz0 hz1 hz2 rfl (by decide) _ _ _ rfl (HO.out.alloc _) ⟨wr.heap.size, 0, none⟩ 1 1 [.int .i64 ((k : Int) + 1)] rfl rfl (cell_one_new _ _ _) (by simp [Value.oneCell']) (by unfold maxLen; omega) (by omega) (by have := HI.out.lt; simp; omega) ?_; intro v' w1 hown1 hgrow1 _; have H1 := Lib.hid hown1; have G1 := Lib.hid hgrow1; clear hown1 hgrow1)
        go_roundw
        case rel =>
          have hyes := hits_yes Hh.out
          have hb1 : Below w.heap.size w w1 := (HB.out.alloc HB.out.size _).grown G1.out (by have := HB.out.size; simp; omega) (fun j hj => by have := own_base HO.out j hj; omega)
          have hA : w1.heap[w.heap.size]? = (wr.alloc (.cells #[.int .i64 ((k : Int) + 1)] 3)).heap[w.heap.size]? := G1.out.block w.heap.size (by have := HI.out.lt; simp; omega) (fun e => by have := own_base HO.out w.heap.size e.symm; omega)
          have hcell : ∀ j, w1.cell? ⟨w.heap.size, j, none⟩ = wr.cell? ⟨w.heap.size, j, none⟩ := fun j => (World.cell?_of_block hA).trans (World.cell?_alloc_past _ _ _ HI.out.lt)
          refine ⟨k + 1, by omega, by go_num, ?_, ⟨Nat.lt_of_lt_of_le HI.out.lt (by have := G1.out.size; simp at this; omega), (hcell 0).trans HI.out.i0, (hcell 1).trans HI.out.i1, (hcell 2).trans HI.out.i2, (hcell 3).trans HI.out.i3, (hcell 4).trans HI.out.i4⟩, hb1⟩
          · rw [hyes, List.length_append, List.map_append]; exact H1.out
        case measure => simp [intOf]; omega
      · have qa : (a == (k : Int) + 1) = false := by simpa using ta
        have Ta := Lib.hid ta
        clear ta
        have Hh := Lib.hid (show hit true false false a b c ((k : Int) + 1) = false by unfold hit; simp [*])
        go_wp2_with fail
        go_roundw
        case rel => exact ⟨k + 1, by omega, by go_num, by rw [hits_no Hh.out]; exact HO.out, HI.out, HB.out⟩
        case measure => simp [intOf]; omega
    · have hk15 : k = 15 := by omega
      subst hk15
      go_wp2_with fail
      go_ret
      exact ⟨_, rfl, own_weaken HO.out (by omega), HB.out⟩
set_option maxRecDepth 100000 in
set_option maxHeartbeats 4000000 in
theorem ref_reads_c27 (op a b c m : Int) (h0 : 0 ≤ op) (h1 : op ≤ 255) (hop : op < 30) (hv : validB op a b c m = true) (hc : op = 27) (k1 : decide ((1 : Int) < ((fS op).size : Int)) = false) (k2 : decide ((2 : Int) < ((fS op).size : Int)) = false) (w : World) :
    Calls Try.prog 33 #[.agg #[.int .u8 op, .int .i64 a, .int .i64 b, .int .i64 c, .int .i64 m]] w fun e w' => ∃ v, e = .returned v ∧ w'.ownsRow w.heap.size 3 1 v (hits true false false a b c 15).length ((hits true false false a b c 15).map (Value.int .i64)) ∧ Below w.heap.size w w' := by
  have hr := fun W => ref_valid_any op a b c m h0 h1 W
  rw [hv] at hr
  have Hr := Lib.hid hr
  have hf := fun W => format_any op h0 h1 W
  rw [decide_eq_true hop] at hf
  have Hf := Lib.hid hf
  obtain ⟨i0, hi, hz0, hz1, hz2⟩ := info_parts tinfo3
  have q19 : (op == 19) = false := by subst hc; decide
  have q21 : (op == 21) = false := by subst hc; decide
  have q22 : (op == 22) = false := by subst hc; decide
  have q23 : (op == 23) = false := by subst hc; decide
  have q25 : (op == 25) = false := by subst hc; decide
  have q27 : (op == 27) = true := by subst hc; decide
  clear hr hv hc hf hop h0 h1
  go_enter Try.func33, Try.ntmps33
  go_wp2_with fail
  have XI0 := Lib.hid ((IF.newAt op a b c m w w.heap.size rfl).alloc (.cells #[] 3))
  have BI := Lib.hid (below_new (below_new (Below.refl w.heap.size w) (.cells #[.int .u8 (op), .int .i64 (a), .int .i64 (b), .int .i64 (c), .int .i64 (m)] 23)) (.cells #[] 3))
  have O0 := Lib.hid (own_empty (w.alloc (.cells #[.int .u8 (op), .int .i64 (a), .int .i64 (b), .int .i64 (c), .int .i64 (m)] 23)) (w.heap.size + 1) (w.heap.size + 1) (by simp) (Nat.le_refl _))
  refine (Hr.out _).mono ?_
  rintro e w1 ⟨rfl, hb1⟩
  have B1 := Lib.hid (below_next BI.out hb1)
  have XI1 := Lib.hid (XI0.out.step hb1)
  have O1 := Lib.hid (own_far O0.out hb1)
  clear hb1
  have XI1_lt := XI1.out.lt
  have XI1_i0 := XI1.out.i0
  have XI1_i1 := XI1.out.i1
  have XI1_i2 := XI1.out.i2
  have XI1_i3 := XI1.out.i3
  have XI1_i4 := XI1.out.i4
  go_wp2_with fail
  refine (Hf.out _).mono ?_
  rintro e w2 ⟨rfl, hb2⟩
  have B2 := Lib.hid (below_next B1.out hb2)
  have XI2 := Lib.hid (XI1.out.step hb2)
  have O2 := Lib.hid (own_far O1.out hb2)
  clear hb2
  have XI2_lt := XI2.out.lt
  have XI2_i0 := XI2.out.i0
  have XI2_i1 := XI2.out.i1
  have XI2_i2 := XI2.out.i2
  have XI2_i3 := XI2.out.i3
  have XI2_i4 := XI2.out.i4
  go_wp2_with fail
  go_loopw [3, 9] (fun v r wr => ∃ k : Nat, k ≤ 15 ∧ r = .int .i64 ((k : Int) + 1) ∧ wr.ownsRow (w.heap.size + 1) 3 1 v (hits true false false a b c k).length ((hits true false false a b c k).map (Value.int .i64)) ∧ IF w.heap.size op a b c m wr ∧ Below w.heap.size w wr)
    (fun _ r _ => 16 - (intOf r).toNat)
  case atStart => exact ⟨0, by omega, rfl, O2.out, XI2.out, B2.out⟩
  case round =>
    obtain ⟨k, hk, rfl, hown, hI, hB⟩ := hrel
    have j1 := hI.i1
    have j2 := hI.i2
    have j3 := hI.i3
    have hll := hits_le true false false a b c k
    have HI := Lib.hid hI
    have HO := Lib.hid hown
    have HB := Lib.hid hB
    clear hI hown hB
    by_cases hlt : k < 15
    · by_cases ta : a = (k : Int) + 1
      · have qa : (a == (k : Int) + 1) = true := by simpa using ta
        have Ta := Lib.hid ta
        clear ta
        have Hh := Lib.hid (show hit true false false a b c ((k : Int) + 1) = true by unfold hit; simp [*])
        go_wp2_with (at_builtin; refine wpList_append_own _ rfl _ _ 44 rfl (w.heap.size + 1) 3 i0 (.int .i64 0) 1 8 Try.underlying44 hi hz0 hz1 hz2 rfl (by decide) _ _ _ rfl (HO.out.alloc _) ⟨wr.heap.size, 0, none⟩ 1 1 [.int .i64 ((k : Int) + 1)] rfl rfl (cell_one_new _ _ _) (by simp [Value.oneCell']) (by unfold maxLen; omega) (by omega) (by have := HI.out.lt; simp; omega) ?_; intro v' w1 hown1 hgrow1 _; have H1 := Lib.hid hown1; have G1 := Lib.hid hgrow1; clear hown1 hgrow1)
        go_roundw
        case rel =>
          have hyes := hits_yes Hh.out
          have hb1 : Below w.heap.size w w1 := (HB.out.alloc HB.out.size _).grown G1.out (by have := HB.out.size; simp; omega) (fun j hj => by have := own_base HO.out j hj; omega)
          have hA : w1.heap[w.heap.size]? = (wr.alloc (.cells #[.int .i64 ((k : Int) + 1)] 3)).heap[w.heap.size]? := G1.out.block w.heap.size (by have := HI.out.lt; simp; omega) (fun e => by have := own_base HO.out w.heap.size e.symm; omega)
          have hcell : ∀ j, w1.cell? ⟨w.heap.size, j, none⟩ = wr.cell? ⟨w.heap.size, j, none⟩ := fun j => (World.cell?_of_block hA).trans (World.cell?_alloc_past _ _ _ HI.out.lt)
          refine ⟨k + 1, by omega, by go_num, ?_, ⟨Nat.lt_of_lt_of_le HI.out.lt (by have := G1.out.size; simp at this; omega), (hcell 0).trans HI.out.i0, (hcell 1).trans HI.out.i1, (hcell 2).trans HI.out.i2, (hcell 3).trans HI.out.i3, (hcell 4).trans HI.out.i4⟩, hb1⟩
          · rw [hyes, List.length_append, List.map_append]; exact H1.out
        case measure => simp [intOf]; omega
      · have qa : (a == (k : Int) + 1) = false := by simpa using ta
        have Ta := Lib.hid ta
        clear ta
        have Hh := Lib.hid (show hit true false false a b c ((k : Int) + 1) = false by unfold hit; simp [*])
        go_wp2_with fail
        go_roundw
        case rel => exact ⟨k + 1, by omega, by go_num, by rw [hits_no Hh.out]; exact HO.out, HI.out, HB.out⟩
        case measure => simp [intOf]; omega
    · have hk15 : k = 15 := by omega
      subst hk15
      go_wp2_with fail
      go_ret
      exact ⟨_, rfl, own_weaken HO.out (by omega), HB.out⟩
set_option maxRecDepth 100000 in
set_option maxHeartbeats 4000000 in
theorem ref_reads_no00 (op a b c m : Int) (h0 : 0 ≤ op) (h1 : op ≤ 255) (hop : op < 30) (hv : validB op a b c m = true) (hc : op ≠ 19 ∧ op ≠ 21 ∧ op ≠ 22 ∧ op ≠ 23 ∧ op ≠ 25 ∧ op ≠ 27) (k1 : decide ((1 : Int) < ((fS op).size : Int)) = false) (k2 : decide ((2 : Int) < ((fS op).size : Int)) = false) (w : World) :
    Calls Try.prog 33 #[.agg #[.int .u8 op, .int .i64 a, .int .i64 b, .int .i64 c, .int .i64 m]] w fun e w' => ∃ v, e = .returned v ∧ w'.ownsRow w.heap.size 3 1 v (hits false false false a b c 15).length ((hits false false false a b c 15).map (Value.int .i64)) ∧ Below w.heap.size w w' := by
  have hr := fun W => ref_valid_any op a b c m h0 h1 W
  rw [hv] at hr
  have Hr := Lib.hid hr
  have hf := fun W => format_any op h0 h1 W
  rw [decide_eq_true hop] at hf
  have Hf := Lib.hid hf
  obtain ⟨i0, hi, hz0, hz1, hz2⟩ := info_parts tinfo3
  have q19 : (op == 19) = false := by simpa using hc.1
  have q21 : (op == 21) = false := by simpa using hc.2.1
  have q22 : (op == 22) = false := by simpa using hc.2.2.1
  have q23 : (op == 23) = false := by simpa using hc.2.2.2.1
  have q25 : (op == 25) = false := by simpa using hc.2.2.2.2.1
  have q27 : (op == 27) = false := by simpa using hc.2.2.2.2.2
  clear hr hv hc hf hop h0 h1
  go_enter Try.func33, Try.ntmps33
  go_wp2_with fail
  have XI0 := Lib.hid ((IF.newAt op a b c m w w.heap.size rfl).alloc (.cells #[] 3))
  have BI := Lib.hid (below_new (below_new (Below.refl w.heap.size w) (.cells #[.int .u8 (op), .int .i64 (a), .int .i64 (b), .int .i64 (c), .int .i64 (m)] 23)) (.cells #[] 3))
  have O0 := Lib.hid (own_empty (w.alloc (.cells #[.int .u8 (op), .int .i64 (a), .int .i64 (b), .int .i64 (c), .int .i64 (m)] 23)) (w.heap.size + 1) (w.heap.size + 1) (by simp) (Nat.le_refl _))
  refine (Hr.out _).mono ?_
  rintro e w1 ⟨rfl, hb1⟩
  have B1 := Lib.hid (below_next BI.out hb1)
  have XI1 := Lib.hid (XI0.out.step hb1)
  have O1 := Lib.hid (own_far O0.out hb1)
  clear hb1
  have XI1_lt := XI1.out.lt
  have XI1_i0 := XI1.out.i0
  have XI1_i1 := XI1.out.i1
  have XI1_i2 := XI1.out.i2
  have XI1_i3 := XI1.out.i3
  have XI1_i4 := XI1.out.i4
  go_wp2_with fail
  refine (Hf.out _).mono ?_
  rintro e w2 ⟨rfl, hb2⟩
  have B2 := Lib.hid (below_next B1.out hb2)
  have XI2 := Lib.hid (XI1.out.step hb2)
  have O2 := Lib.hid (own_far O1.out hb2)
  clear hb2
  have XI2_lt := XI2.out.lt
  have XI2_i0 := XI2.out.i0
  have XI2_i1 := XI2.out.i1
  have XI2_i2 := XI2.out.i2
  have XI2_i3 := XI2.out.i3
  have XI2_i4 := XI2.out.i4
  go_wp2_with fail
  go_loopw [3, 9] (fun v r wr => ∃ k : Nat, k ≤ 15 ∧ r = .int .i64 ((k : Int) + 1) ∧ wr.ownsRow (w.heap.size + 1) 3 1 v (hits false false false a b c k).length ((hits false false false a b c k).map (Value.int .i64)) ∧ IF w.heap.size op a b c m wr ∧ Below w.heap.size w wr)
    (fun _ r _ => 16 - (intOf r).toNat)
  case atStart => exact ⟨0, by omega, rfl, O2.out, XI2.out, B2.out⟩
  case round =>
    obtain ⟨k, hk, rfl, hown, hI, hB⟩ := hrel
    have j1 := hI.i1
    have j2 := hI.i2
    have j3 := hI.i3
    have hll := hits_le false false false a b c k
    have HI := Lib.hid hI
    have HO := Lib.hid hown
    have HB := Lib.hid hB
    clear hI hown hB
    by_cases hlt : k < 15
    · have Hh := Lib.hid (show hit false false false a b c ((k : Int) + 1) = false by unfold hit; simp [*])
      go_wp2_with fail
      go_roundw
      case rel => exact ⟨k + 1, by omega, by go_num, by rw [hits_no Hh.out]; exact HO.out, HI.out, HB.out⟩
      case measure => simp [intOf]; omega
    · have hk15 : k = 15 := by omega
      subst hk15
      go_wp2_with fail
      go_ret
      exact ⟨_, rfl, own_weaken HO.out (by omega), HB.out⟩
set_option maxRecDepth 100000 in
set_option maxHeartbeats 4000000 in
theorem ref_reads_no10 (op a b c m : Int) (h0 : 0 ≤ op) (h1 : op ≤ 255) (hop : op < 30) (hv : validB op a b c m = true) (hc : op ≠ 19 ∧ op ≠ 21 ∧ op ≠ 22 ∧ op ≠ 23 ∧ op ≠ 25 ∧ op ≠ 27) (k1 : decide ((1 : Int) < ((fS op).size : Int)) = true) (k2 : decide ((2 : Int) < ((fS op).size : Int)) = false) (w : World) :
    Calls Try.prog 33 #[.agg #[.int .u8 op, .int .i64 a, .int .i64 b, .int .i64 c, .int .i64 m]] w fun e w' => ∃ v, e = .returned v ∧ w'.ownsRow w.heap.size 3 1 v (hits false true false a b c 15).length ((hits false true false a b c 15).map (Value.int .i64)) ∧ Below w.heap.size w w' := by
  have hr := fun W => ref_valid_any op a b c m h0 h1 W
  rw [hv] at hr
  have Hr := Lib.hid hr
  have hf := fun W => format_any op h0 h1 W
  rw [decide_eq_true hop] at hf
  have Hf := Lib.hid hf
  obtain ⟨i0, hi, hz0, hz1, hz2⟩ := info_parts tinfo3
  have q19 : (op == 19) = false := by simpa using hc.1
  have q21 : (op == 21) = false := by simpa using hc.2.1
  have q22 : (op == 22) = false := by simpa using hc.2.2.1
  have q23 : (op == 23) = false := by simpa using hc.2.2.2.1
  have q25 : (op == 25) = false := by simpa using hc.2.2.2.2.1
  have q27 : (op == 27) = false := by simpa using hc.2.2.2.2.2
  clear hr hv hc hf hop h0 h1
  go_enter Try.func33, Try.ntmps33
  go_wp2_with fail
  have XI0 := Lib.hid ((IF.newAt op a b c m w w.heap.size rfl).alloc (.cells #[] 3))
  have BI := Lib.hid (below_new (below_new (Below.refl w.heap.size w) (.cells #[.int .u8 (op), .int .i64 (a), .int .i64 (b), .int .i64 (c), .int .i64 (m)] 23)) (.cells #[] 3))
  have O0 := Lib.hid (own_empty (w.alloc (.cells #[.int .u8 (op), .int .i64 (a), .int .i64 (b), .int .i64 (c), .int .i64 (m)] 23)) (w.heap.size + 1) (w.heap.size + 1) (by simp) (Nat.le_refl _))
  refine (Hr.out _).mono ?_
  rintro e w1 ⟨rfl, hb1⟩
  have B1 := Lib.hid (below_next BI.out hb1)
  have XI1 := Lib.hid (XI0.out.step hb1)
  have O1 := Lib.hid (own_far O0.out hb1)
  clear hb1
  have XI1_lt := XI1.out.lt
  have XI1_i0 := XI1.out.i0
  have XI1_i1 := XI1.out.i1
  have XI1_i2 := XI1.out.i2
  have XI1_i3 := XI1.out.i3
  have XI1_i4 := XI1.out.i4
  go_wp2_with fail
  refine (Hf.out _).mono ?_
  rintro e w2 ⟨rfl, hb2⟩
  have B2 := Lib.hid (below_next B1.out hb2)
  have XI2 := Lib.hid (XI1.out.step hb2)
  have O2 := Lib.hid (own_far O1.out hb2)
  clear hb2
  have XI2_lt := XI2.out.lt
  have XI2_i0 := XI2.out.i0
  have XI2_i1 := XI2.out.i1
  have XI2_i2 := XI2.out.i2
  have XI2_i3 := XI2.out.i3
  have XI2_i4 := XI2.out.i4
  go_wp2_with fail
  go_loopw [3, 9] (fun v r wr => ∃ k : Nat, k ≤ 15 ∧ r = .int .i64 ((k : Int) + 1) ∧ wr.ownsRow (w.heap.size + 1) 3 1 v (hits false true false a b c k).length ((hits false true false a b c k).map (Value.int .i64)) ∧ IF w.heap.size op a b c m wr ∧ Below w.heap.size w wr)
    (fun _ r _ => 16 - (intOf r).toNat)
  case atStart => exact ⟨0, by omega, rfl, O2.out, XI2.out, B2.out⟩
  case round =>
    obtain ⟨k, hk, rfl, hown, hI, hB⟩ := hrel
    have j1 := hI.i1
    have j2 := hI.i2
    have j3 := hI.i3
    have hll := hits_le false true false a b c k
    have HI := Lib.hid hI
    have HO := Lib.hid hown
    have HB := Lib.hid hB
    clear hI hown hB
    by_cases hlt : k < 15
    · by_cases tb : b = (k : Int) + 1
      · have qb : (b == (k : Int) + 1) = true := by simpa using tb
        have Tb := Lib.hid tb
        clear tb
        have Hh := Lib.hid (show hit false true false a b c ((k : Int) + 1) = true by unfold hit; simp [*])
        go_wp2_with (at_builtin; refine wpList_append_own _ rfl _ _ 44 rfl (w.heap.size + 1) 3 i0 (.int .i64 0) 1 8 Try.underlying44 hi hz0 hz1 hz2 rfl (by decide) _ _ _ rfl (HO.out.alloc _) ⟨wr.heap.size, 0, none⟩ 1 1 [.int .i64 ((k : Int) + 1)] rfl rfl (cell_one_new _ _ _) (by simp [Value.oneCell']) (by unfold maxLen; omega) (by omega) (by have := HI.out.lt; simp; omega) ?_; intro v' w1 hown1 hgrow1 _; have H1 := Lib.hid hown1; have G1 := Lib.hid hgrow1; clear hown1 hgrow1)
        go_roundw
        case rel =>
          have hyes := hits_yes Hh.out
          have hb1 : Below w.heap.size w w1 := (HB.out.alloc HB.out.size _).grown G1.out (by have := HB.out.size; simp; omega) (fun j hj => by have := own_base HO.out j hj; omega)
          have hA : w1.heap[w.heap.size]? = (wr.alloc (.cells #[.int .i64 ((k : Int) + 1)] 3)).heap[w.heap.size]? := G1.out.block w.heap.size (by have := HI.out.lt; simp; omega) (fun e => by have := own_base HO.out w.heap.size e.symm; omega)
          have hcell : ∀ j, w1.cell? ⟨w.heap.size, j, none⟩ = wr.cell? ⟨w.heap.size, j, none⟩ := fun j => (World.cell?_of_block hA).trans (World.cell?_alloc_past _ _ _ HI.out.lt)
          refine ⟨k + 1, by omega, by go_num, ?_, ⟨Nat.lt_of_lt_of_le HI.out.lt (by have := G1.out.size; simp at this; omega), (hcell 0).trans HI.out.i0, (hcell 1).trans HI.out.i1, (hcell 2).trans HI.out.i2, (hcell 3).trans HI.out.i3, (hcell 4).trans HI.out.i4⟩, hb1⟩
          · rw [hyes, List.length_append, List.map_append]; exact H1.out
        case measure => simp [intOf]; omega
      · have qb : (b == (k : Int) + 1) = false := by simpa using tb
        have Tb := Lib.hid tb
        clear tb
        have Hh := Lib.hid (show hit false true false a b c ((k : Int) + 1) = false by unfold hit; simp [*])
        go_wp2_with fail
        go_roundw
        case rel => exact ⟨k + 1, by omega, by go_num, by rw [hits_no Hh.out]; exact HO.out, HI.out, HB.out⟩
        case measure => simp [intOf]; omega
    · have hk15 : k = 15 := by omega
      subst hk15
      go_wp2_with fail
      go_ret
      exact ⟨_, rfl, own_weaken HO.out (by omega), HB.out⟩
set_option maxRecDepth 100000 in
set_option maxHeartbeats 4000000 in
theorem ref_reads_no11 (op a b c m : Int) (h0 : 0 ≤ op) (h1 : op ≤ 255) (hop : op < 30) (hv : validB op a b c m = true) (hc : op ≠ 19 ∧ op ≠ 21 ∧ op ≠ 22 ∧ op ≠ 23 ∧ op ≠ 25 ∧ op ≠ 27) (k1 : decide ((1 : Int) < ((fS op).size : Int)) = true) (k2 : decide ((2 : Int) < ((fS op).size : Int)) = true) (w : World) :
    Calls Try.prog 33 #[.agg #[.int .u8 op, .int .i64 a, .int .i64 b, .int .i64 c, .int .i64 m]] w fun e w' => ∃ v, e = .returned v ∧ w'.ownsRow w.heap.size 3 1 v (hits false true true a b c 15).length ((hits false true true a b c 15).map (Value.int .i64)) ∧ Below w.heap.size w w' := by
  have hr := fun W => ref_valid_any op a b c m h0 h1 W
  rw [hv] at hr
  have Hr := Lib.hid hr
  have hf := fun W => format_any op h0 h1 W
  rw [decide_eq_true hop] at hf
  have Hf := Lib.hid hf
  obtain ⟨i0, hi, hz0, hz1, hz2⟩ := info_parts tinfo3
  have q19 : (op == 19) = false := by simpa using hc.1
  have q21 : (op == 21) = false := by simpa using hc.2.1
  have q22 : (op == 22) = false := by simpa using hc.2.2.1
  have q23 : (op == 23) = false := by simpa using hc.2.2.2.1
  have q25 : (op == 25) = false := by simpa using hc.2.2.2.2.1
  have q27 : (op == 27) = false := by simpa using hc.2.2.2.2.2
  clear hr hv hc hf hop h0 h1
  go_enter Try.func33, Try.ntmps33
  go_wp2_with fail
  have XI0 := Lib.hid ((IF.newAt op a b c m w w.heap.size rfl).alloc (.cells #[] 3))
  have BI := Lib.hid (below_new (below_new (Below.refl w.heap.size w) (.cells #[.int .u8 (op), .int .i64 (a), .int .i64 (b), .int .i64 (c), .int .i64 (m)] 23)) (.cells #[] 3))
  have O0 := Lib.hid (own_empty (w.alloc (.cells #[.int .u8 (op), .int .i64 (a), .int .i64 (b), .int .i64 (c), .int .i64 (m)] 23)) (w.heap.size + 1) (w.heap.size + 1) (by simp) (Nat.le_refl _))
  refine (Hr.out _).mono ?_
  rintro e w1 ⟨rfl, hb1⟩
  have B1 := Lib.hid (below_next BI.out hb1)
  have XI1 := Lib.hid (XI0.out.step hb1)
  have O1 := Lib.hid (own_far O0.out hb1)
  clear hb1
  have XI1_lt := XI1.out.lt
  have XI1_i0 := XI1.out.i0
  have XI1_i1 := XI1.out.i1
  have XI1_i2 := XI1.out.i2
  have XI1_i3 := XI1.out.i3
  have XI1_i4 := XI1.out.i4
  go_wp2_with fail
  refine (Hf.out _).mono ?_
  rintro e w2 ⟨rfl, hb2⟩
  have B2 := Lib.hid (below_next B1.out hb2)
  have XI2 := Lib.hid (XI1.out.step hb2)
  have O2 := Lib.hid (own_far O1.out hb2)
  clear hb2
  have XI2_lt := XI2.out.lt
  have XI2_i0 := XI2.out.i0
  have XI2_i1 := XI2.out.i1
  have XI2_i2 := XI2.out.i2
  have XI2_i3 := XI2.out.i3
  have XI2_i4 := XI2.out.i4
  go_wp2_with fail
  go_loopw [3, 9] (fun v r wr => ∃ k : Nat, k ≤ 15 ∧ r = .int .i64 ((k : Int) + 1) ∧ wr.ownsRow (w.heap.size + 1) 3 1 v (hits false true true a b c k).length ((hits false true true a b c k).map (Value.int .i64)) ∧ IF w.heap.size op a b c m wr ∧ Below w.heap.size w wr)
    (fun _ r _ => 16 - (intOf r).toNat)
  case atStart => exact ⟨0, by omega, rfl, O2.out, XI2.out, B2.out⟩
  case round =>
    obtain ⟨k, hk, rfl, hown, hI, hB⟩ := hrel
    have j1 := hI.i1
    have j2 := hI.i2
    have j3 := hI.i3
    have hll := hits_le false true true a b c k
    have HI := Lib.hid hI
    have HO := Lib.hid hown
    have HB := Lib.hid hB
    clear hI hown hB
    by_cases hlt : k < 15
    · by_cases tb : b = (k : Int) + 1
      · have qb : (b == (k : Int) + 1) = true := by simpa using tb
        have Tb := Lib.hid tb
        clear tb
        by_cases tc : c = (k : Int) + 1
        · have qc : (c == (k : Int) + 1) = true := by simpa using tc
          have Tc := Lib.hid tc
          clear tc
          have Hh := Lib.hid (show hit false true true a b c ((k : Int) + 1) = true by unfold hit; simp [*])
          go_wp2_with (at_builtin; refine wpList_append_own _ rfl _ _ 44 rfl (w.heap.size + 1) 3 i0 (.int .i64 0) 1 8 Try.underlying44 hi hz0 hz1 hz2 rfl (by decide) _ _ _ rfl (HO.out.alloc _) ⟨wr.heap.size, 0, none⟩ 1 1 [.int .i64 ((k : Int) + 1)] rfl rfl (cell_one_new _ _ _) (by simp [Value.oneCell']) (by unfold maxLen; omega) (by omega) (by have := HI.out.lt; simp; omega) ?_; intro v' w1 hown1 hgrow1 _; have H1 := Lib.hid hown1; have G1 := Lib.hid hgrow1; clear hown1 hgrow1)
          go_roundw
          case rel =>
            have hyes := hits_yes Hh.out
            have hb1 : Below w.heap.size w w1 := (HB.out.alloc HB.out.size _).grown G1.out (by have := HB.out.size; simp; omega) (fun j hj => by have := own_base HO.out j hj; omega)
            have hA : w1.heap[w.heap.size]? = (wr.alloc (.cells #[.int .i64 ((k : Int) + 1)] 3)).heap[w.heap.size]? := G1.out.block w.heap.size (by have := HI.out.lt; simp; omega) (fun e => by have := own_base HO.out w.heap.size e.symm; omega)
            have hcell : ∀ j, w1.cell? ⟨w.heap.size, j, none⟩ = wr.cell? ⟨w.heap.size, j, none⟩ := fun j => (World.cell?_of_block hA).trans (World.cell?_alloc_past _ _ _ HI.out.lt)
            refine ⟨k + 1, by omega, by go_num, ?_, ⟨Nat.lt_of_lt_of_le HI.out.lt (by have := G1.out.size; simp at this; omega), (hcell 0).trans HI.out.i0, (hcell 1).trans HI.out.i1, (hcell 2).trans HI.out.i2, (hcell 3).trans HI.out.i3, (hcell 4).trans HI.out.i4⟩, hb1⟩
            · rw [hyes, List.length_append, List.map_append]; exact H1.out
          case measure => simp [intOf]; omega
        · have qc : (c == (k : Int) + 1) = false := by simpa using tc
          have Tc := Lib.hid tc
          clear tc
          have Hh := Lib.hid (show hit false true true a b c ((k : Int) + 1) = true by unfold hit; simp [*])
          go_wp2_with (at_builtin; refine wpList_append_own _ rfl _ _ 44 rfl (w.heap.size + 1) 3 i0 (.int .i64 0) 1 8 Try.underlying44 hi hz0 hz1 hz2 rfl (by decide) _ _ _ rfl (HO.out.alloc _) ⟨wr.heap.size, 0, none⟩ 1 1 [.int .i64 ((k : Int) + 1)] rfl rfl (cell_one_new _ _ _) (by simp [Value.oneCell']) (by unfold maxLen; omega) (by omega) (by have := HI.out.lt; simp; omega) ?_; intro v' w1 hown1 hgrow1 _; have H1 := Lib.hid hown1; have G1 := Lib.hid hgrow1; clear hown1 hgrow1)
          go_roundw
          case rel =>
            have hyes := hits_yes Hh.out
            have hb1 : Below w.heap.size w w1 := (HB.out.alloc HB.out.size _).grown G1.out (by have := HB.out.size; simp; omega) (fun j hj => by have := own_base HO.out j hj; omega)
            have hA : w1.heap[w.heap.size]? = (wr.alloc (.cells #[.int .i64 ((k : Int) + 1)] 3)).heap[w.heap.size]? := G1.out.block w.heap.size (by have := HI.out.lt; simp; omega) (fun e => by have := own_base HO.out w.heap.size e.symm; omega)
            have hcell : ∀ j, w1.cell? ⟨w.heap.size, j, none⟩ = wr.cell? ⟨w.heap.size, j, none⟩ := fun j => (World.cell?_of_block hA).trans (World.cell?_alloc_past _ _ _ HI.out.lt)
            refine ⟨k + 1, by omega, by go_num, ?_, ⟨Nat.lt_of_lt_of_le HI.out.lt (by have := G1.out.size; simp at this; omega), (hcell 0).trans HI.out.i0, (hcell 1).trans HI.out.i1, (hcell 2).trans HI.out.i2, (hcell 3).trans HI.out.i3, (hcell 4).trans HI.out.i4⟩, hb1⟩
            · rw [hyes, List.length_append, List.map_append]; exact H1.out
          case measure => simp [intOf]; omega
      · have qb : (b == (k : Int) + 1) = false := by simpa using tb
        have Tb := Lib.hid tb
        clear tb
        by_cases tc : c = (k : Int) + 1
        · have qc : (c == (k : Int) + 1) = true := by simpa using tc
          have Tc := Lib.hid tc
          clear tc
          have Hh := Lib.hid (show hit false true true a b c ((k : Int) + 1) = true by unfold hit; simp [*])
          go_wp2_with (at_builtin; refine wpList_append_own _ rfl _ _ 44 rfl (w.heap.size + 1) 3 i0 (.int .i64 0) 1 8 Try.underlying44 hi hz0 hz1 hz2 rfl (by decide) _ _ _ rfl (HO.out.alloc _) ⟨wr.heap.size, 0, none⟩ 1 1 [.int .i64 ((k : Int) + 1)] rfl rfl (cell_one_new _ _ _) (by simp [Value.oneCell']) (by unfold maxLen; omega) (by omega) (by have := HI.out.lt; simp; omega) ?_; intro v' w1 hown1 hgrow1 _; have H1 := Lib.hid hown1; have G1 := Lib.hid hgrow1; clear hown1 hgrow1)
          go_roundw
          case rel =>
            have hyes := hits_yes Hh.out
            have hb1 : Below w.heap.size w w1 := (HB.out.alloc HB.out.size _).grown G1.out (by have := HB.out.size; simp; omega) (fun j hj => by have := own_base HO.out j hj; omega)
            have hA : w1.heap[w.heap.size]? = (wr.alloc (.cells #[.int .i64 ((k : Int) + 1)] 3)).heap[w.heap.size]? := G1.out.block w.heap.size (by have := HI.out.lt; simp; omega) (fun e => by have := own_base HO.out w.heap.size e.symm; omega)
            have hcell : ∀ j, w1.cell? ⟨w.heap.size, j, none⟩ = wr.cell? ⟨w.heap.size, j, none⟩ := fun j => (World.cell?_of_block hA).trans (World.cell?_alloc_past _ _ _ HI.out.lt)
            refine ⟨k + 1, by omega, by go_num, ?_, ⟨Nat.lt_of_lt_of_le HI.out.lt (by have := G1.out.size; simp at this; omega), (hcell 0).trans HI.out.i0, (hcell 1).trans HI.out.i1, (hcell 2).trans HI.out.i2, (hcell 3).trans HI.out.i3, (hcell 4).trans HI.out.i4⟩, hb1⟩
            · rw [hyes, List.length_append, List.map_append]; exact H1.out
          case measure => simp [intOf]; omega
        · have qc : (c == (k : Int) + 1) = false := by simpa using tc
          have Tc := Lib.hid tc
          clear tc
          have Hh := Lib.hid (show hit false true true a b c ((k : Int) + 1) = false by unfold hit; simp [*])
          go_wp2_with fail
          go_roundw
          case rel => exact ⟨k + 1, by omega, by go_num, by rw [hits_no Hh.out]; exact HO.out, HI.out, HB.out⟩
          case measure => simp [intOf]; omega
    · have hk15 : k = 15 := by omega
      subst hk15
      go_wp2_with fail
      go_ret
      exact ⟨_, rfl, own_weaken HO.out (by omega), HB.out⟩
end Go.Proofs.Ytgjpenhfechhcaa
