/- The contract of isa.Reads: the registers that the instruction reads, sorted, each once, without zero. -/
import Derived.Test.YtgjpenhfechhcaaA15
namespace Go.Proofs.Ytgjpenhfechhcaa
set_option linter.unusedVariables false
set_option linter.unusedSimpArgs false
open Go.RowKit Go.Proofs.YtgjpenhfechhcaaW.PrintWords Go.Proofs.YtgjpenhfechhcaaW.PrintLast Go.Proofs.YtgjpenhfechhcaaW.PrintMore
open PIsaDecodes

/-- the registers that an instruction's letters name -/
def ltrs (op a b c m : Int) (k : Nat) : List Int := (List.range k).map fun (j : Nat) => opnd a b c m (bt (rowOf op).f4 (j : Nat))
theorem ltrs_len (op a b c m : Int) (k : Nat) : (ltrs op a b c m k).length = k := by unfold ltrs; simp
theorem ltrs_succ (op a b c m : Int) (k : Nat) : ltrs op a b c m (k + 1) = ltrs op a b c m k ++ [opnd a b c m (bt (rowOf op).f4 k)] := by unfold ltrs; rw [List.range_succ, List.map_append]; rfl
def fin (zs : List Int) : List Int := (Lib.compact (zs.mergeSort fun x y => decide (x ≤ y))).filter fun x => !(x == 0)
def readsV (op a b c m : Int) : List Int := if validB op a b c m = true then fin (ltrs op a b c m (rowOf op).f4.size) else []
theorem reads_small_fin : ∀ n : Fin 256, (rowOf (n.1 : Int)).f4.size ≤ 2 := by decide +kernel
theorem reads_small (op : Int) (h0 : 0 ≤ op) (h1 : op ≤ 255) : (rowOf op).f4.size ≤ 2 := by
  have h := reads_small_fin ⟨op.toNat, by omega⟩
  have e : ((⟨op.toNat, by omega⟩ : Fin 256).1 : Int) = op := by show ((op.toNat : Nat) : Int) = op; omega
  rwa [e] at h
theorem iFieldAt {A : Nat} {op a b c m : Int} {W : World} (h : IF A op a b c m W) (ch : Int) : W.cell? ⟨A, fieldOff ch, none⟩ = some (.int .i64 (opnd a b c m ch)) := by
  unfold fieldOff opnd
  by_cases h1 : ch = 97
  · simp only [if_pos h1]; exact h.i1
  · by_cases h2 : ch = 98
    · simp only [if_neg h1, if_pos h2]; exact h.i2
    · by_cases h3 : ch = 99
      · simp only [if_neg h1, if_neg h2, if_pos h3]; exact h.i3
      · simp only [if_neg h1, if_neg h2, if_neg h3]; exact h.i4
theorem fin_nil : ((Lib.compact (([] : List Int).mergeSort fun x y => decide (x ≤ y))).filter fun x => !(x == 0)) = [] := by simp [Lib.compact, Lib.compactUpTo]
theorem iKeep {A : Nat} {op a b c m : Int} {W W' : World} (h : IF A op a b c m W) (hc : ∀ j, W'.cell? ⟨A, j, none⟩ = W.cell? ⟨A, j, none⟩) (hs : W.heap.size ≤ W'.heap.size) : IF A op a b c m W' :=
  ⟨Nat.lt_of_lt_of_le h.lt hs, (hc 0).trans h.i0, (hc 1).trans h.i1, (hc 2).trans h.i2, (hc 3).trans h.i3, (hc 4).trans h.i4⟩
theorem below_lower {B B' : Nat} {w w' : World} (h : Below B w w') (hb : B' ≤ B) : Below B' w w' := h.mono hb
theorem below_then {B : Nat} {w w1 w2 : World} (h : Below B w w1) (k : Below B w1 w2) : Below B w w2 := h.trans k
set_option maxRecDepth 100000 in
set_option maxHeartbeats 4000000 in
theorem reads_bad (op a b c m : Int) (h0 : 0 ≤ op) (h1 : op ≤ 255) (hv : validB op a b c m = false) (w : World) :
    Calls Try.prog 32 #[.agg #[.int .u8 op, .int .i64 a, .int .i64 b, .int .i64 c, .int .i64 m]] w fun e w' => ∃ v, e = .returned v ∧ w'.ownsRow w.heap.size 3 1 v (([] : List Int)).length ((([] : List Int)).map (Value.int .i64)) ∧ Below w.heap.size w w' := by
  have hr := fun W => valid_any op a b c m h0 h1 W
  rw [hv] at hr
  have Hr := Lib.hid hr
  have hf := fun W => find_any op h0 h1 W
  have Hf := Lib.hid hf
  clear hr hf hv
  go_enter Try.func32, Try.ntmps32
  go_wp2_with fail
  have XI0 := Lib.hid (IF.newAt (op) (a) (b) (c) (m) (w) (w.heap.size) (by simp))
  have BnI := Lib.hid (below_new (Below.refl w.heap.size w) (.cells #[.int .u8 (op), .int .i64 (a), .int .i64 (b), .int .i64 (c), .int .i64 (m)] 23))
  refine (Hf.out _).mono ?_
  rintro e w1 ⟨rfl, hb1⟩
  have B1 := Lib.hid (below_next BnI.out hb1)
  have XI1 := Lib.hid (XI0.out.step hb1)
  clear hb1
  have XI1_lt := XI1.out.lt
  have XI1_i0 := XI1.out.i0
  have XI1_i1 := XI1.out.i1
  have XI1_i2 := XI1.out.i2
  have XI1_i3 := XI1.out.i3
  have XI1_i4 := XI1.out.i4
  go_wp2_with fail
  have XI1' := Lib.hid (XI1.out.alloc (.cells #[.string (rowOf op).f0, .string (rowOf op).f1, .int .i64 (rowOf op).f2, .int .i64 (rowOf op).f3, .string (rowOf op).f4, .string (rowOf op).f5] 71))
  have XR1 := Lib.hid (RwF.newAt op (w1) (w1.heap.size) (by simp))
  have BxR1 := Lib.hid (below_new B1.out (.cells #[.string (rowOf op).f0, .string (rowOf op).f1, .int .i64 (rowOf op).f2, .int .i64 (rowOf op).f3, .string (rowOf op).f4, .string (rowOf op).f5] 71))
  refine (Hr.out _).mono ?_
  rintro e w2 ⟨rfl, hb2⟩
  have B2 := Lib.hid (below_next BxR1.out hb2)
  have XI2 := Lib.hid (XI1'.out.step hb2)
  have XR2 := Lib.hid (XR1.out.step hb2)
  clear hb2
  have XI2_lt := XI2.out.lt
  have XI2_i0 := XI2.out.i0
  have XI2_i1 := XI2.out.i1
  have XI2_i2 := XI2.out.i2
  have XI2_i3 := XI2.out.i3
  have XI2_i4 := XI2.out.i4
  have XR2_lt := XR2.out.lt
  have XR2_r0 := XR2.out.r0
  have XR2_r1 := XR2.out.r1
  have XR2_r2 := XR2.out.r2
  have XR2_r3 := XR2.out.r3
  have XR2_r4 := XR2.out.r4
  have XR2_r5 := XR2.out.r5
  obtain ⟨zs, hzs⟩ : ∃ zs, zs = ([] : List Int) := ⟨_, rfl⟩
  have OW := (⟨rfl, .inl ⟨rfl, rfl⟩⟩ : w2.ownsRow w2.heap.size 3 1 (.slice none 0 0) ([] : List Int).length (([] : List Int).map (Value.int .i64)))
  have BW := B2.out
  have HBS : w2.heap.size ≤ w2.heap.size := Nat.le_refl _
  have HLO : w.heap.size ≤ w2.heap.size := Below.size B2.out
  rw [← hzs] at OW
  have Hlen : zs.length < 4611686018427387904 := by rw [hzs]; decide
  have Hsort := Lib.hid (sort_own (w2.heap.size) _ zs _ OW Hlen HBS)
  have BH := Lib.hid BW
  clear OW BW
  go_wp2_with fail
  refine Hsort.out.mono ?_
  rintro e w4 ⟨rfl, O4, B4⟩
  have HL4 : (zs.mergeSort fun x y => decide (x ≤ y)).length = zs.length := List.length_mergeSort _
  rw [← HL4] at O4
  have Hcomp := Lib.hid (compact_own (w2.heap.size) _ (zs.mergeSort fun x y => decide (x ≤ y)) w4 O4 (by rw [HL4]; exact Hlen) (Nat.le_trans HBS B4.size))
  have BH4 := Lib.hid (BH.out.trans (below_lower B4 HLO))
  have HBS4 : w2.heap.size ≤ w4.heap.size := Nat.le_trans HBS B4.size
  clear O4 B4
  go_wp2_with fail
  refine Hcomp.out.mono ?_
  rintro e w5 ⟨v5, rfl, O5, B5⟩
  have hcl := compact_len (zs.mergeSort fun x y => decide (x ≤ y))
  have Hdel := Lib.hid (delete_own (w2.heap.size) v5 (Lib.compact (zs.mergeSort fun x y => decide (x ≤ y))) w5 O5 (by omega) (Nat.le_trans HBS4 B5.size))
  have BH5 := Lib.hid (BH4.out.trans (below_lower B5 HLO))
  clear O5 B5 hcl
  go_wp2_with fail
  refine Hdel.out.mono ?_
  rintro e w6 ⟨v6, rfl, O6, B6⟩
  have BH6 := BH5.out.trans (below_lower B6 HLO)
  go_wp2_with fail
  go_ret
  subst hzs
  rw [fin_nil] at O6
  exact ⟨v6, rfl, own_weaken O6 HLO, BH6⟩
set_option maxRecDepth 100000 in
set_option maxHeartbeats 4000000 in
theorem reads_good (op a b c m : Int) (h0 : 0 ≤ op) (h1 : op ≤ 255) (hv : validB op a b c m = true) (w : World) :
    Calls Try.prog 32 #[.agg #[.int .u8 op, .int .i64 a, .int .i64 b, .int .i64 c, .int .i64 m]] w fun e w' => ∃ v, e = .returned v ∧ w'.ownsRow w.heap.size 3 1 v (fin (ltrs op a b c m (rowOf op).f4.size)).length ((fin (ltrs op a b c m (rowOf op).f4.size)).map (Value.int .i64)) ∧ Below w.heap.size w w' := by
  have hr := fun W => valid_any op a b c m h0 h1 W
  rw [hv] at hr
  have Hr := Lib.hid hr
  have hf := fun W => find_any op h0 h1 W
  have Hf := Lib.hid hf
  have kb := fun W => print_bytes (P := Try.prog) 9 75 5 Try.underlying9 Try.underlying75 Try.underlying5 (rowOf op).f4 W
  have hsz := reads_small op h0 h1
  obtain ⟨i0, hi, hz0, hz1, hz2⟩ := info_parts tinfo3
  clear hr hf hv
  go_enter Try.func32, Try.ntmps32
  go_wp2_with fail
  have XI0 := Lib.hid (IF.newAt (op) (a) (b) (c) (m) (w) (w.heap.size) (by simp))
  have BnI := Lib.hid (below_new (Below.refl w.heap.size w) (.cells #[.int .u8 (op), .int .i64 (a), .int .i64 (b), .int .i64 (c), .int .i64 (m)] 23))
  refine (Hf.out _).mono ?_
  rintro e w1 ⟨rfl, hb1⟩
  have B1 := Lib.hid (below_next BnI.out hb1)
  have XI1 := Lib.hid (XI0.out.step hb1)
  clear hb1
  have XI1_lt := XI1.out.lt
  have XI1_i0 := XI1.out.i0
  have XI1_i1 := XI1.out.i1
  have XI1_i2 := XI1.out.i2
  have XI1_i3 := XI1.out.i3
  have XI1_i4 := XI1.out.i4
  go_wp2_with fail
  have XI1' := Lib.hid (XI1.out.alloc (.cells #[.string (rowOf op).f0, .string (rowOf op).f1, .int .i64 (rowOf op).f2, .int .i64 (rowOf op).f3, .string (rowOf op).f4, .string (rowOf op).f5] 71))
  have XR1 := Lib.hid (RwF.newAt op (w1) (w1.heap.size) (by simp))
  have BxR1 := Lib.hid (below_new B1.out (.cells #[.string (rowOf op).f0, .string (rowOf op).f1, .int .i64 (rowOf op).f2, .int .i64 (rowOf op).f3, .string (rowOf op).f4, .string (rowOf op).f5] 71))
  refine (Hr.out _).mono ?_
  rintro e w2 ⟨rfl, hb2⟩
  have B2 := Lib.hid (below_next BxR1.out hb2)
  have XI2 := Lib.hid (XI1'.out.step hb2)
  have XR2 := Lib.hid (XR1.out.step hb2)
  clear hb2
  have XI2_lt := XI2.out.lt
  have XI2_i0 := XI2.out.i0
  have XI2_i1 := XI2.out.i1
  have XI2_i2 := XI2.out.i2
  have XI2_i3 := XI2.out.i3
  have XI2_i4 := XI2.out.i4
  have XR2_lt := XR2.out.lt
  have XR2_r0 := XR2.out.r0
  have XR2_r1 := XR2.out.r1
  have XR2_r2 := XR2.out.r2
  have XR2_r3 := XR2.out.r3
  have XR2_r4 := XR2.out.r4
  have XR2_r5 := XR2.out.r5
  go_wp2_with fail
  go_loopw [3, 20] (fun v i wr => ∃ k : Nat, k ≤ (rowOf op).f4.size ∧ i = .int .i64 k ∧ wr.ownsRow (w2.heap.size + 1) 3 1 v k ((ltrs op a b c m k).map (Value.int .i64)) ∧ IF w.heap.size op a b c m wr ∧ Below w.heap.size w wr ∧
        (w2.heap.size + 1 ≤ wr.heap.size) ∧ (∀ j, j < (rowOf op).f4.size → wr.cell? ⟨w2.heap.size, j, none⟩ = some (.int .u8 (bt (rowOf op).f4 j))))
      (fun _ i _ => (rowOf op).f4.size - (intOf i).toNat)
  case atStart =>
    have hbb : Below w2.heap.size w2 (Lib.bytesWorld w2 5 (rowOf op).f4) := bytes_below (Below.refl _ _) (Nat.le_refl _) _ _
    refine ⟨0, by omega, rfl, ⟨by rw [List.length_map, ltrs_len], .inl ⟨rfl, rfl⟩⟩, XI2.out.step hbb, B2.out.trans (below_lower hbb (Below.size B2.out)), by rw [Lib.bytesWorld_size]; omega, ?_⟩
    intro j hj
    have h := (bytes_reads w2 5 (rowOf op).f4 (by omega)).at_ (j : Int) (by omega) (by omega)
    obtain ⟨ad, e1, e2⟩ := h
    cases e1
    rw [rd_bytesOf] at e2
    cases j <;> simpa [Addr.add] using e2
  case round =>
    obtain ⟨k, hk, rfl, hown, hI, hB, hlt, hby⟩ := hrel
    have Hlow : w.heap.size ≤ w2.heap.size := Below.size B2.out
    have Hlow2 : w.heap.size < w2.heap.size := XI2.out.lt
    by_cases hk4 : k < (rowOf op).f4.size
    · have hck := hby k hk4
      obtain ⟨ch, hch⟩ : ∃ ch, ch = bt (rowOf op).f4 k := ⟨_, rfl⟩
      rw [← hch] at hck
      have hx := iFieldAt hI ch
      have HI := Lib.hid hI
      have HO := Lib.hid hown
      have HB := Lib.hid hB
      have Hby := Lib.hid hby
      have Hch := Lib.hid hch
      clear hI hown hB hby hch
      go_wp2_with (first
            | (go_at_call 52; refine (field_any _ _ _ _).mono ?_; rintro e w' ⟨rfl, rfl⟩; simp only [Nat.zero_add])
            | (at_builtin; refine wpList_append_own _ rfl _ _ 44 rfl (w2.heap.size + 1) 3 i0 (.int .i64 0) 1 8 Try.underlying44 hi hz0 hz1 hz2 rfl (by decide) _ _ _ rfl (HO.out.alloc _) ⟨wr.heap.size, 0, none⟩ 1 1 [.int .i64 (opnd a b c m ch)] rfl rfl (cell_one_new _ _ _) (by simp [Value.oneCell']) (by unfold maxLen; omega) (by omega) (by simp; omega) ?_; intro v' w3 hown3 hgrow3 _; have H3 := Lib.hid hown3; have G3 := Lib.hid hgrow3; clear hown3 hgrow3))
      go_roundw
      case rel =>
        have hnb : ∀ j, j ≤ w2.heap.size → w3.heap[j]? = (wr.alloc (.cells #[.int .i64 (opnd a b c m ch)] 3)).heap[j]? := fun j hj => G3.out.block j (by simp; omega) (fun e => by have := own_base HO.out j e.symm; omega)
        have hb3 : Below (w2.heap.size + 1) wr w3 := ((Below.refl _ _).alloc hlt _).grown G3.out (by simp; omega) (fun j hj => by have := own_base HO.out j hj; omega)
        refine ⟨k + 1, by omega, by go_num, ?_, iKeep HI.out (fun j => (hb3.cell (p := ⟨w.heap.size, j, none⟩) (by show w.heap.size < _; omega))) hb3.size, HB.out.trans (below_lower hb3 (by omega)), Nat.le_trans hlt hb3.size, fun j hj => (hb3.cell (p := ⟨w2.heap.size, j, none⟩) (by show w2.heap.size < _; omega)).trans (Hby.out j hj)⟩
        rw [ltrs_succ, List.map_append, ← Hch.out]
        exact H3.out
      case measure => simp [intOf]; omega
    · have hkk : k = (rowOf op).f4.size := by omega
      subst hkk
      obtain ⟨zs, hzs⟩ : ∃ zs, zs = ltrs op a b c m (rowOf op).f4.size := ⟨_, rfl⟩
      have OW := hown
      have BW := hB
      have HBS : w2.heap.size + 1 ≤ wr.heap.size := hlt
      have HLO : w.heap.size ≤ w2.heap.size + 1 := by omega
      rw [← hzs] at OW
      have hll : zs.length = (rowOf op).f4.size := by rw [hzs, ltrs_len]
      rw [← hll] at OW
      have Hlen : zs.length < 4611686018427387904 := by rw [hzs]; rw [ltrs_len]; omega
      have Hsort := Lib.hid (sort_own (w2.heap.size + 1) _ zs _ OW Hlen HBS)
      have BH := Lib.hid BW
      clear OW BW hown hB hby hI
      go_wp2_with fail
      refine Hsort.out.mono ?_
      rintro e w4 ⟨rfl, O4, B4⟩
      have HL4 : (zs.mergeSort fun x y => decide (x ≤ y)).length = zs.length := List.length_mergeSort _
      rw [← HL4] at O4
      have Hcomp := Lib.hid (compact_own (w2.heap.size + 1) _ (zs.mergeSort fun x y => decide (x ≤ y)) w4 O4 (by rw [HL4]; exact Hlen) (Nat.le_trans HBS B4.size))
      have BH4 := Lib.hid (BH.out.trans (below_lower B4 HLO))
      have HBS4 : w2.heap.size + 1 ≤ w4.heap.size := Nat.le_trans HBS B4.size
      clear O4 B4
      go_wp2_with fail
      refine Hcomp.out.mono ?_
      rintro e w5 ⟨v5, rfl, O5, B5⟩
      have hcl := compact_len (zs.mergeSort fun x y => decide (x ≤ y))
      have Hdel := Lib.hid (delete_own (w2.heap.size + 1) v5 (Lib.compact (zs.mergeSort fun x y => decide (x ≤ y))) w5 O5 (by omega) (Nat.le_trans HBS4 B5.size))
      have BH5 := Lib.hid (BH4.out.trans (below_lower B5 HLO))
      clear O5 B5 hcl
      go_wp2_with fail
      refine Hdel.out.mono ?_
      rintro e w6 ⟨v6, rfl, O6, B6⟩
      have BH6 := BH5.out.trans (below_lower B6 HLO)
      go_wp2_with fail
      go_ret
      subst hzs
      exact ⟨v6, rfl, own_weaken O6 HLO, BH6⟩
theorem reads_any (op a b c m : Int) (h0 : 0 ≤ op) (h1 : op ≤ 255) (w : World) :
    Calls Try.prog 32 #[.agg #[.int .u8 op, .int .i64 a, .int .i64 b, .int .i64 c, .int .i64 m]] w fun e w' => ∃ v, e = .returned v ∧ w'.ownsRow w.heap.size 3 1 v (readsV op a b c m).length ((readsV op a b c m).map (Value.int .i64)) ∧ Below w.heap.size w w' := by
  unfold readsV
  cases hv : validB op a b c m
  · exact reads_bad op a b c m h0 h1 hv w
  · exact reads_good op a b c m h0 h1 hv w
end Go.Proofs.Ytgjpenhfechhcaa
