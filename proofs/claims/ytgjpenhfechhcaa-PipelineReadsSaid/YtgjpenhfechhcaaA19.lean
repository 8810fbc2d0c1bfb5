/- The contracts of the pipeline's small functions and of their references: Valid, base, branch, Hazard. -/
import Derived.Test.YtgjpenhfechhcaaA18
import Derived.Test.YtgjpenhfechhcaaPIsaNamesx1
import Derived.LoopN
namespace Go.Proofs.Ytgjpenhfechhcaa
set_option linter.unusedVariables false
set_option linter.unusedSimpArgs false
open Go.RowKit Go.Proofs.YtgjpenhfechhcaaW.PrintWords Go.Proofs.YtgjpenhfechhcaaW.PrintLast Go.Proofs.YtgjpenhfechhcaaW.PrintMore
open PIsaDecodes

/-- block A holds a timing -/
structure TF (A : Nat) (mul div tk hz : Int) (W : World) : Prop where
  lt : A < W.heap.size
  i0 : W.cell? ⟨A, 0, none⟩ = some (.int .i64 mul)
  i1 : W.cell? ⟨A, 1, none⟩ = some (.int .i64 div)
  i2 : W.cell? ⟨A, 2, none⟩ = some (.int .i64 tk)
  i3 : W.cell? ⟨A, 3, none⟩ = some (.int .i64 hz)
theorem TF.step {A : Nat} {mul div tk hz : Int} {W W' : World} (h : TF A mul div tk hz W) (hb : Below W.heap.size W W') : TF A mul div tk hz W' :=
  ⟨Nat.lt_of_lt_of_le h.lt hb.size, (hb.cell (p := ⟨A, 0, none⟩) h.lt).trans h.i0, (hb.cell (p := ⟨A, 1, none⟩) h.lt).trans h.i1, (hb.cell (p := ⟨A, 2, none⟩) h.lt).trans h.i2, (hb.cell (p := ⟨A, 3, none⟩) h.lt).trans h.i3⟩
theorem TF.newAt (mul div tk hz : Int) (W : World) (A : Nat) (hA : A = W.heap.size) : TF A mul div tk hz (W.alloc (.cells #[.int .i64 mul, .int .i64 div, .int .i64 tk, .int .i64 hz] 49)) := by
  subst hA
  refine ⟨by simp, ?_, ?_, ?_, ?_⟩ <;> (rw [World.cell?_alloc_at _ _ _ _ rfl]; rfl)
theorem TF.alloc {A : Nat} {mul div tk hz : Int} {W : World} (h : TF A mul div tk hz W) (o : Obj) : TF A mul div tk hz (W.alloc o) := h.step ((Below.refl _ _).alloc (Nat.le_refl _) o)

theorem index_none (A : Option Addr) (c : Nat) (s : Int) (w : World) : Calls Try.prog 72 #[.slice A 0 c, .int .i64 s] w fun e w' => e = .returned (.int .i64 (-1)) ∧ w' = w := by
  go_enter Try.func72, Try.ntmps72
  go_wp2_with fail
  refine wp_loop_rounds 1 ?_
  rw [rounds_succ]
  go_wp2_with fail
  go_ret
  exact ⟨rfl, rfl⟩
set_option maxRecDepth 100000 in
set_option maxHeartbeats 4000000 in
theorem index_some (g c : Nat) (zs : List Int) (s : Int) (hl : zs.length ≤ 9223372036854775807) (w : World) (hF : RF g zs w) : Calls Try.prog 72 #[.slice (some ⟨g, 0, none⟩) zs.length c, .int .i64 s] w fun e w' => ∃ r, e = .returned (.int .i64 r) ∧ decide (0 ≤ r) = zs.contains s ∧ w' = w := by
  have HF := Lib.hid hF
  clear hF
  go_enter Try.func72, Try.ntmps72
  go_wp2_with fail
  go_loopw [5, 8] (fun _ i wr => ∃ k : Nat, k ≤ zs.length ∧ i = .int .i64 k ∧ (∀ j, j < k → zs.getD j 0 ≠ s) ∧ wr = w) (fun _ i _ => zs.length - (intOf i).toNat)
  case atStart => exact ⟨0, by omega, rfl, fun j hj => by omega, rfl⟩
  case round =>
    obtain ⟨k, hk, rfl, hno, rfl⟩ := hrel
    by_cases hlt : k < zs.length
    · have c1 := HF.out.at_ k hlt
      obtain ⟨x, hx⟩ : ∃ x, zs.getD k 0 = x := ⟨_, rfl⟩
      rw [hx] at c1
      have Hno := Lib.hid hno
      clear hno
      by_cases he : s = x
      · have e1 : (s == x) = true := by simpa using he
        have He := Lib.hid he
        have Hx := Lib.hid hx
        clear he hx
        go_wp2_with fail
        go_ret
        refine ⟨(k : Int), rfl, ?_, rfl⟩
        have hm : s ∈ zs := by
          rw [He.out, ← Hx.out, List.getD_eq_getElem?_getD, List.getElem?_eq_getElem hlt]; simp
        rw [List.contains_iff_mem.2 hm]
        exact decide_eq_true (by omega)
      · have e1 : (s == x) = false := by simpa using he
        have He := Lib.hid he
        have Hx := Lib.hid hx
        clear he hx
        go_wp2_with fail
        go_roundw
        case rel => exact ⟨k + 1, by omega, by go_num, fun j hj => by
            by_cases hjk : j = k
            · subst hjk; rw [Hx.out]; exact fun h => He.out h.symm
            · exact Hno.out j (by omega), by simp⟩
        case measure => simp [intOf]; omega
    · have hkk : k = zs.length := by omega
      subst hkk
      have Hno := Lib.hid hno
      clear hno
      go_wp2_with fail
      go_ret
      refine ⟨-1, rfl, ?_, rfl⟩
      have hm : zs.contains s = false := by
        rw [Bool.eq_false_iff]
        intro h
        obtain ⟨j, hj, hje⟩ := List.getElem_of_mem (List.contains_iff_mem.1 h)
        exact Hno.out j hj (by rw [List.getD_eq_getElem?_getD, List.getElem?_eq_getElem hj]; exact hje)
      rw [hm]; rfl
theorem contains_none (A : Option Addr) (c : Nat) (s : Int) (w : World) : Calls Try.prog 63 #[.slice A 0 c, .int .i64 s] w fun e w' => e = .returned (.bool false) ∧ w' = w := by
  have H := Lib.hid (fun W => index_none A c s W)
  go_enter Try.func63, Try.ntmps63
  go_wp2_with fail
  refine (H.out _).mono ?_
  rintro e w1 ⟨rfl, rfl⟩
  go_wp2_with fail
  go_ret
  exact ⟨rfl, rfl⟩
theorem contains_some (g c : Nat) (zs : List Int) (s : Int) (hl : zs.length ≤ 9223372036854775807) (q : Bool) (hq : zs.contains s = q) (w : World) (hF : RF g zs w) : Calls Try.prog 63 #[.slice (some ⟨g, 0, none⟩) zs.length c, .int .i64 s] w fun e w' => e = .returned (.bool q) ∧ w' = w := by
  have h := index_some g c zs s hl w hF
  rw [hq] at h
  have H := Lib.hid h
  clear hF h hq
  go_enter Try.func63, Try.ntmps63
  go_wp2_with fail
  refine H.out.mono ?_
  rintro e w1 ⟨r, rfl, hr, rfl⟩
  go_wp2_with fail
  go_ret
  exact ⟨rfl, rfl⟩
theorem contains_own (base n : Nat) (v : Value) (zs : List Int) (s : Int) (hl : zs.length ≤ 9223372036854775807) (q : Bool) (hq : zs.contains s = q) (w : World) (h : w.ownsRow base 3 1 v n (zs.map (Value.int .i64))) : Calls Try.prog 63 #[v, .int .i64 s] w fun e w' => e = .returned (.bool q) ∧ Below w.heap.size w w' := by
  by_cases hz : zs.length = 0
  · obtain ⟨A, c, rfl⟩ := own_none h hz
    have : zs = [] := List.length_eq_zero_iff.1 hz
    subst this
    subst hq
    refine (contains_none A c s w).mono ?_
    rintro e w' ⟨rfl, rfl⟩
    exact ⟨rfl, Below.refl _ _⟩
  · obtain ⟨g, c, rfl, _, hF⟩ := own_some h hz
    refine (contains_some g c zs s hl q hq w hF).mono ?_
    rintro e w' ⟨rfl, rfl⟩
    exact ⟨rfl, Below.refl _ _⟩
theorem fin_small (zs : List Int) (h : zs.length ≤ 2) : (fin zs).length ≤ 100 := by
  unfold fin
  have h1 := List.length_filter_le (fun x : Int => !(x == 0)) (Lib.compact (zs.mergeSort fun x y => decide (x ≤ y)))
  have h2 := compact_len (zs.mergeSort fun x y => decide (x ≤ y))
  rw [List.length_mergeSort] at h2
  omega
theorem readsV_small (op a b c m : Int) (h0 : 0 ≤ op) (h1 : op ≤ 255) : (readsV op a b c m).length ≤ 100 := by
  unfold readsV
  split
  · exact fin_small _ (by rw [ltrs_len]; exact reads_small op h0 h1)
  · simp
/-- a hazard -/
def hazB (op a b c m s : Int) : Bool := (readsV op a b c m).contains s
set_option maxRecDepth 100000 in
set_option maxHeartbeats 4000000 in
theorem hazard_any (s op a b c m : Int) (h0 : 0 ≤ op) (h1 : op ≤ 255) (r : Bool) (hr : hazB op a b c m s = r) (w : World) :
    Calls Try.prog 41 #[.int .i64 s, .agg #[.int .u8 op, .int .i64 a, .int .i64 b, .int .i64 c, .int .i64 m]] w fun e w' => e = .returned (.bool r) ∧ Below w.heap.size w w' := by
  unfold hazB at hr
  have rd1 := fun W => reads_any op a b c m h0 h1 W
  have hsm := readsV_small op a b c m h0 h1
  obtain ⟨L, hL⟩ : ∃ L, readsV op a b c m = L := ⟨_, rfl⟩
  rw [hL] at rd1 hsm hr
  have H1 := Lib.hid rd1
  have H2 := Lib.hid (fun base n v W h => contains_own base n v L s (by omega) r hr W h)
  clear rd1 hL hsm hr
  go_enter Try.func41, Try.ntmps41
  go_wp2_with fail
  have XI0 := Lib.hid (IF.newAt (op) (a) (b) (c) (m) (w) (w.heap.size) (by simp))
  have BxI0 := Lib.hid (below_new (Below.refl w.heap.size w) (.cells #[.int .u8 (op), .int .i64 (a), .int .i64 (b), .int .i64 (c), .int .i64 (m)] 23))
  refine (H1.out _).mono ?_
  rintro e w1 ⟨vP, rfl, o1, hb1⟩
  have XP1 := Lib.hid o1
  clear o1
  have B1 := Lib.hid (below_next BxI0.out hb1)
  have XI1 := Lib.hid (XI0.out.step hb1)
  clear hb1
  have XI1_lt := XI1.out.lt
  have XI1_i0 := XI1.out.i0
  have XI1_i1 := XI1.out.i1
  have XI1_i2 := XI1.out.i2
  have XI1_i3 := XI1.out.i3
  have XI1_i4 := XI1.out.i4
  go_wp2_with fail
  refine (H2.out _ _ _ _ XP1.out).mono ?_
  rintro e w2 ⟨rfl, hb2⟩
  have B2 := Lib.hid (below_next B1.out hb2)
  have XI2 := Lib.hid (XI1.out.step hb2)
  have XP2 := Lib.hid (own_far XP1.out hb2)
  clear hb2
  have XI2_lt := XI2.out.lt
  have XI2_i0 := XI2.out.i0
  have XI2_i1 := XI2.out.i1
  have XI2_i2 := XI2.out.i2
  have XI2_i3 := XI2.out.i3
  have XI2_i4 := XI2.out.i4
  go_wp2_with fail
  go_ret
  exact ⟨rfl, B2.out⟩
set_option maxRecDepth 100000 in
set_option maxHeartbeats 4000000 in
theorem ref_hazard_any (s op a b c m : Int) (h0 : 0 ≤ op) (h1 : op ≤ 255) (r : Bool) (hr : hazB op a b c m s = r) (w : World) :
    Calls Try.prog 42 #[.int .i64 s, .agg #[.int .u8 op, .int .i64 a, .int .i64 b, .int .i64 c, .int .i64 m]] w fun e w' => e = .returned (.bool r) ∧ Below w.heap.size w w' := by
  subst hr
  unfold hazB
  have rd1 := fun W => ref_reads_any op a b c m h0 h1 W
  have hsm := readsV_small op a b c m h0 h1
  obtain ⟨L, hL⟩ : ∃ L, readsV op a b c m = L := ⟨_, rfl⟩
  rw [hL] at rd1 hsm
  rw [hL]
  have H1 := Lib.hid rd1
  clear rd1 hL
  by_cases hlen : L.length = 0
  · go_enter Try.func42, Try.ntmps42
    go_wp2_with fail
    have XI0 := Lib.hid (IF.newAt (op) (a) (b) (c) (m) (w) (w.heap.size) (by simp))
    have BxI0 := Lib.hid (below_new (Below.refl w.heap.size w) (.cells #[.int .u8 (op), .int .i64 (a), .int .i64 (b), .int .i64 (c), .int .i64 (m)] 23))
    refine (H1.out _).mono ?_
    rintro e w1 ⟨vP, rfl, o1, hb1⟩
    have XP1 := Lib.hid o1
    clear o1
    have B1 := Lib.hid (below_next BxI0.out hb1)
    have XI1 := Lib.hid (XI0.out.step hb1)
    clear hb1
    have XI1_lt := XI1.out.lt
    have XI1_i0 := XI1.out.i0
    have XI1_i1 := XI1.out.i1
    have XI1_i2 := XI1.out.i2
    have XI1_i3 := XI1.out.i3
    have XI1_i4 := XI1.out.i4
    obtain ⟨AP, cP, rfl⟩ := own_none XP1.out hlen
    clear XP1
    go_wp2_with fail
    refine wp_loop_rounds 1 ?_
    rw [rounds_succ]
    go_wp2_with fail
    go_ret
    exact ⟨ret_bool (by rw [List.length_eq_zero_iff.1 hlen]; rfl), B1.out⟩
  · go_enter Try.func42, Try.ntmps42
    go_wp2_with fail
    have XI0 := Lib.hid (IF.newAt (op) (a) (b) (c) (m) (w) (w.heap.size) (by simp))
    have BxI0 := Lib.hid (below_new (Below.refl w.heap.size w) (.cells #[.int .u8 (op), .int .i64 (a), .int .i64 (b), .int .i64 (c), .int .i64 (m)] 23))
    refine (H1.out _).mono ?_
    rintro e w1 ⟨vP, rfl, o1, hb1⟩
    have XP1 := Lib.hid o1
    clear o1
    have B1 := Lib.hid (below_next BxI0.out hb1)
    have XI1 := Lib.hid (XI0.out.step hb1)
    clear hb1
    have XI1_lt := XI1.out.lt
    have XI1_i0 := XI1.out.i0
    have XI1_i1 := XI1.out.i1
    have XI1_i2 := XI1.out.i2
    have XI1_i3 := XI1.out.i3
    have XI1_i4 := XI1.out.i4
    obtain ⟨gP, cP, rfl, _, hP⟩ := own_some XP1.out hlen
    have FP := Lib.hid hP
    clear hP XP1
    go_wp2_with fail
    go_loopw [6] (fun i wr => ∃ k : Nat, k ≤ L.length ∧ i = .int .i64 k ∧ (∀ j, j < k → L.getD j 0 ≠ s) ∧ RF gP L wr ∧ Below w.heap.size w wr) (fun i _ => L.length - (intOf i).toNat)
    case atStart => exact ⟨0, by omega, rfl, fun j hj => by omega, FP.out, B1.out⟩
    case round =>
      obtain ⟨k, hk, rfl, hno, hP, hB⟩ := hrel
      by_cases hlt : k < L.length
      · have c1 := hP.at_ k hlt
        obtain ⟨x, hx⟩ : ∃ x, L.getD k 0 = x := ⟨_, rfl⟩
        rw [hx] at c1
        have Hno := Lib.hid hno
        have GP := Lib.hid hP
        have GB := Lib.hid hB
        have Hx := Lib.hid hx
        clear hno hP hB hx FP
        by_cases he : x = s
        · have e1 : (x == s) = true := by simpa using he
          have He := Lib.hid he
          clear he
          go_wp2_with fail
          go_ret
          have hm : s ∈ L := by
            rw [← He.out, ← Hx.out, List.getD_eq_getElem?_getD, List.getElem?_eq_getElem hlt]; simp
          exact ⟨ret_bool (List.contains_iff_mem.2 hm).symm, GB.out⟩
        · have e1 : (x == s) = false := by simpa using he
          have He := Lib.hid he
          clear he
          go_wp2_with fail
          go_roundw
          case rel => exact ⟨k + 1, by omega, by go_num, fun j hj => by
            by_cases hjk : j = k
            · subst hjk; rw [Hx.out]; exact fun h => He.out h
            · exact Hno.out j (by omega), GP.out, GB.out⟩
          case measure => simp [intOf]; omega
      · have hkk : k = L.length := by omega
        subst hkk
        have Hno := Lib.hid hno
        clear hno
        go_wp2_with fail
        go_ret
        have hm : L.contains s = false := by
          rw [Bool.eq_false_iff]
          intro h
          obtain ⟨j, hj, hje⟩ := List.getElem_of_mem (List.contains_iff_mem.1 h)
          exact Hno.out j hj (by rw [List.getD_eq_getElem?_getD, List.getElem?_eq_getElem hj]; exact hje)
        exact ⟨ret_bool hm.symm, hB⟩
/-- a timing's delays are in range -/
def okD (x : Int) : Bool := decide (0 ≤ x) && decide (x ≤ 1000)
def tval (mul div tk hz : Int) : Bool := okD mul && (okD div && (okD tk && okD hz))
theorem gives62 (x : Int) (W : World) : FnGives Try.prog 62 #[] #[.int .i64 x] (.bool (!okD x)) W := by
  show Calls Try.prog 62 #[.int .i64 x] W _
  by_cases h1 : x < 0
  · have e1 : decide (x < 0) = true := decide_eq_true h1
    have e2 : okD x = false := by unfold okD; simp; omega
    rw [e2]
    clear e2 h1
    go_enter Try.func62, Try.ntmps62
    go_wp2_with fail
    go_ret; exact ⟨rfl, 0, rfl⟩
  · have e1 : decide (x < 0) = false := decide_eq_false h1
    by_cases h2 : 1000 < x
    · have e2 : decide (1000 < x) = true := decide_eq_true h2
      have e3 : okD x = false := by unfold okD; simp; omega
      rw [e3]
      clear e3 h1 h2
      go_enter Try.func62, Try.ntmps62
      go_wp2_with fail
      go_ret; exact ⟨rfl, 0, rfl⟩
    · have e2 : decide (1000 < x) = false := decide_eq_false h2
      have e3 : okD x = true := by unfold okD; simp; omega
      rw [e3]
      clear e3 h1 h2
      go_enter Try.func62, Try.ntmps62
      go_wp2_with fail
      go_ret; exact ⟨rfl, 0, rfl⟩
theorem own_new4 (x0 x1 x2 x3 : Int) (W : World) : ∀ j, j < [x0, x1, x2, x3].length → (W.alloc (.cells #[.int .i64 x0, .int .i64 x1, .int .i64 x2, .int .i64 x3] 3)).cell? ⟨W.heap.size, 0 + j, none⟩ = some (.int .i64 [x0, x1, x2, x3][j]!) := by
  intro j hj
  have : j = 0 ∨ j = 1 ∨ j = 2 ∨ j = 3 := by simp at hj; omega
  rcases this with rfl | rfl | rfl | rfl <;> (rw [World.cell?_alloc_at _ _ _ _ rfl]; rfl)
theorem cont61 (mul div tk hz : Int) (r : Bool) (hr : tval mul div tk hz = r) (W : World) :
    Calls Try.prog 61 #[.slice (some ⟨W.heap.size, 0, none⟩) 4 4, .func (.func 62) #[] #[]] (W.alloc (.cells #[.int .i64 mul, .int .i64 div, .int .i64 tk, .int .i64 hz] 3)) fun e w' => e = .returned (.bool (!r)) ∧ ∃ q, w' = (W.alloc (.cells #[.int .i64 mul, .int .i64 div, .int .i64 tk, .int .i64 hz] 3)).drewN q := by
  have eg : ∀ args w, (callFunc 62 args).run Try.prog w = .ok (.enter 62 args) w := enters_of Try.func62 (by kernel_rfl) rfl
  have hc := AnyE.slices_ContainsFunc Try.laysContainsFunc (Value.int .i64) (fun x => !okD x) 62 #[] eg W.heap.size 0 4 4 [mul, div, tk, hz] (W.alloc (.cells #[.int .i64 mul, .int .i64 div, .int .i64 tk, .int .i64 hz] 3))
    (fun W x _ => gives62 x W) (by simp) (by decide) (own_new4 mul div tk hz W)
  have hq : (([mul, div, tk, hz] : List Int).take 4).any (fun x => !okD x) = !r := by rw [← hr]; unfold tval; simp [Bool.not_and]
  rw [hq] at hc
  exact hc
set_option maxRecDepth 100000 in
set_option maxHeartbeats 4000000 in
theorem valid8_any (mul div tk hz : Int) (r : Bool) (hr : tval mul div tk hz = r) (w : World) :
    Calls Try.prog 37 #[.agg #[.int .i64 mul, .int .i64 div, .int .i64 tk, .int .i64 hz]] w fun e w' => e = .returned (.bool r) ∧ Below w.heap.size w w' := by
  have Hq := Lib.hid (fun W => cont61 mul div tk hz r hr W)
  clear hr
  go_enter Try.func37, Try.ntmps37
  go_wp2_with fail
  have B0 := Lib.hid (below_new (below_new (Below.refl w.heap.size w) (.cells #[.int .i64 mul, .int .i64 div, .int .i64 tk, .int .i64 hz] 49)) (.cells #[.int .i64 mul, .int .i64 div, .int .i64 tk, .int .i64 hz] 3))
  have Hq' := Hq.out (w.alloc (.cells #[.int .i64 mul, .int .i64 div, .int .i64 tk, .int .i64 hz] 49))
  simp only [World.size_alloc] at Hq'
  refine Hq'.mono ?_
  rintro e w1 ⟨rfl, q, rfl⟩
  have B1 := Lib.hid (below_next B0.out (below_dn _ q))
  go_wp2_with fail
  go_ret
  exact ⟨rfl, B1.out⟩
set_option maxRecDepth 100000 in
set_option maxHeartbeats 4000000 in
theorem rvalid8_0lo (mul div tk hz : Int) (l0 : decide (mul < 0) = true) (w : World) :
    Calls Try.prog 38 #[.agg #[.int .i64 mul, .int .i64 div, .int .i64 tk, .int .i64 hz]] w fun e w' => e = .returned (.bool false) ∧ Below w.heap.size w w' := by
  go_enter Try.func38, Try.ntmps38
  go_wp2_with fail
  have B0 := Lib.hid (below_new (below_new (Below.refl w.heap.size w) (.cells #[.int .i64 mul, .int .i64 div, .int .i64 tk, .int .i64 hz] 49)) (.cells #[.int .i64 mul, .int .i64 div, .int .i64 tk, .int .i64 hz] 3))
  refine wp_loop_rounds 5 ?_
  rw [rounds_succ]
  go_wp2_with fail
  go_ret
  exact ⟨rfl, B0.out⟩
set_option maxRecDepth 100000 in
set_option maxHeartbeats 4000000 in
theorem rvalid8_0hi (mul div tk hz : Int) (l0 : decide (mul < 0) = false) (g0 : decide (1000 < mul) = true) (w : World) :
    Calls Try.prog 38 #[.agg #[.int .i64 mul, .int .i64 div, .int .i64 tk, .int .i64 hz]] w fun e w' => e = .returned (.bool false) ∧ Below w.heap.size w w' := by
  go_enter Try.func38, Try.ntmps38
  go_wp2_with fail
  have B0 := Lib.hid (below_new (below_new (Below.refl w.heap.size w) (.cells #[.int .i64 mul, .int .i64 div, .int .i64 tk, .int .i64 hz] 49)) (.cells #[.int .i64 mul, .int .i64 div, .int .i64 tk, .int .i64 hz] 3))
  refine wp_loop_rounds 5 ?_
  rw [rounds_succ]
  go_wp2_with fail
  go_ret
  exact ⟨rfl, B0.out⟩
set_option maxRecDepth 100000 in
set_option maxHeartbeats 4000000 in
theorem rvalid8_1lo (mul div tk hz : Int) (l0 : decide (mul < 0) = false) (g0 : decide (1000 < mul) = false) (l1 : decide (div < 0) = true) (w : World) :
    Calls Try.prog 38 #[.agg #[.int .i64 mul, .int .i64 div, .int .i64 tk, .int .i64 hz]] w fun e w' => e = .returned (.bool false) ∧ Below w.heap.size w w' := by
  go_enter Try.func38, Try.ntmps38
  go_wp2_with fail
  have B0 := Lib.hid (below_new (below_new (Below.refl w.heap.size w) (.cells #[.int .i64 mul, .int .i64 div, .int .i64 tk, .int .i64 hz] 49)) (.cells #[.int .i64 mul, .int .i64 div, .int .i64 tk, .int .i64 hz] 3))
  refine wp_loop_rounds 5 ?_
  rw [rounds_succ]
  go_wp2_with fail
  rw [rounds_succ]
  go_wp2_with fail
  go_ret
  exact ⟨rfl, B0.out⟩
set_option maxRecDepth 100000 in
set_option maxHeartbeats 4000000 in
theorem rvalid8_1hi (mul div tk hz : Int) (l0 : decide (mul < 0) = false) (g0 : decide (1000 < mul) = false) (l1 : decide (div < 0) = false) (g1 : decide (1000 < div) = true) (w : World) :
    Calls Try.prog 38 #[.agg #[.int .i64 mul, .int .i64 div, .int .i64 tk, .int .i64 hz]] w fun e w' => e = .returned (.bool false) ∧ Below w.heap.size w w' := by
  go_enter Try.func38, Try.ntmps38
  go_wp2_with fail
  have B0 := Lib.hid (below_new (below_new (Below.refl w.heap.size w) (.cells #[.int .i64 mul, .int .i64 div, .int .i64 tk, .int .i64 hz] 49)) (.cells #[.int .i64 mul, .int .i64 div, .int .i64 tk, .int .i64 hz] 3))
  refine wp_loop_rounds 5 ?_
  rw [rounds_succ]
  go_wp2_with fail
  rw [rounds_succ]
  go_wp2_with fail
  go_ret
  exact ⟨rfl, B0.out⟩
set_option maxRecDepth 100000 in
set_option maxHeartbeats 4000000 in
theorem rvalid8_2lo (mul div tk hz : Int) (l0 : decide (mul < 0) = false) (g0 : decide (1000 < mul) = false) (l1 : decide (div < 0) = false) (g1 : decide (1000 < div) = false) (l2 : decide (tk < 0) = true) (w : World) :
    Calls Try.prog 38 #[.agg #[.int .i64 mul, .int .i64 div, .int .i64 tk, .int .i64 hz]] w fun e w' => e = .returned (.bool false) ∧ Below w.heap.size w w' := by
  go_enter Try.func38, Try.ntmps38
  go_wp2_with fail
  have B0 := Lib.hid (below_new (below_new (Below.refl w.heap.size w) (.cells #[.int .i64 mul, .int .i64 div, .int .i64 tk, .int .i64 hz] 49)) (.cells #[.int .i64 mul, .int .i64 div, .int .i64 tk, .int .i64 hz] 3))
  refine wp_loop_rounds 5 ?_
  rw [rounds_succ]
  go_wp2_with fail
  rw [rounds_succ]
  go_wp2_with fail
  rw [rounds_succ]
  go_wp2_with fail
  go_ret
  exact ⟨rfl, B0.out⟩
set_option maxRecDepth 100000 in
set_option maxHeartbeats 4000000 in
theorem rvalid8_2hi (mul div tk hz : Int) (l0 : decide (mul < 0) = false) (g0 : decide (1000 < mul) = false) (l1 : decide (div < 0) = false) (g1 : decide (1000 < div) = false) (l2 : decide (tk < 0) = false) (g2 : decide (1000 < tk) = true) (w : World) :
    Calls Try.prog 38 #[.agg #[.int .i64 mul, .int .i64 div, .int .i64 tk, .int .i64 hz]] w fun e w' => e = .returned (.bool false) ∧ Below w.heap.size w w' := by
  go_enter Try.func38, Try.ntmps38
  go_wp2_with fail
  have B0 := Lib.hid (below_new (below_new (Below.refl w.heap.size w) (.cells #[.int .i64 mul, .int .i64 div, .int .i64 tk, .int .i64 hz] 49)) (.cells #[.int .i64 mul, .int .i64 div, .int .i64 tk, .int .i64 hz] 3))
  refine wp_loop_rounds 5 ?_
  rw [rounds_succ]
  go_wp2_with fail
  rw [rounds_succ]
  go_wp2_with fail
  rw [rounds_succ]
  go_wp2_with fail
  go_ret
  exact ⟨rfl, B0.out⟩
set_option maxRecDepth 100000 in
set_option maxHeartbeats 4000000 in
theorem rvalid8_3lo (mul div tk hz : Int) (l0 : decide (mul < 0) = false) (g0 : decide (1000 < mul) = false) (l1 : decide (div < 0) = false) (g1 : decide (1000 < div) = false) (l2 : decide (tk < 0) = false) (g2 : decide (1000 < tk) = false) (l3 : decide (hz < 0) = true) (w : World) :
    Calls Try.prog 38 #[.agg #[.int .i64 mul, .int .i64 div, .int .i64 tk, .int .i64 hz]] w fun e w' => e = .returned (.bool false) ∧ Below w.heap.size w w' := by
  go_enter Try.func38, Try.ntmps38
  go_wp2_with fail
  have B0 := Lib.hid (below_new (below_new (Below.refl w.heap.size w) (.cells #[.int .i64 mul, .int .i64 div, .int .i64 tk, .int .i64 hz] 49)) (.cells #[.int .i64 mul, .int .i64 div, .int .i64 tk, .int .i64 hz] 3))
  refine wp_loop_rounds 5 ?_
  rw [rounds_succ]
  go_wp2_with fail
  rw [rounds_succ]
  go_wp2_with fail
  rw [rounds_succ]
  go_wp2_with fail
  rw [rounds_succ]
  go_wp2_with fail
  go_ret
  exact ⟨rfl, B0.out⟩
set_option maxRecDepth 100000 in
set_option maxHeartbeats 4000000 in
theorem rvalid8_3hi (mul div tk hz : Int) (l0 : decide (mul < 0) = false) (g0 : decide (1000 < mul) = false) (l1 : decide (div < 0) = false) (g1 : decide (1000 < div) = false) (l2 : decide (tk < 0) = false) (g2 : decide (1000 < tk) = false) (l3 : decide (hz < 0) = false) (g3 : decide (1000 < hz) = true) (w : World) :
    Calls Try.prog 38 #[.agg #[.int .i64 mul, .int .i64 div, .int .i64 tk, .int .i64 hz]] w fun e w' => e = .returned (.bool false) ∧ Below w.heap.size w w' := by
  go_enter Try.func38, Try.ntmps38
  go_wp2_with fail
  have B0 := Lib.hid (below_new (below_new (Below.refl w.heap.size w) (.cells #[.int .i64 mul, .int .i64 div, .int .i64 tk, .int .i64 hz] 49)) (.cells #[.int .i64 mul, .int .i64 div, .int .i64 tk, .int .i64 hz] 3))
  refine wp_loop_rounds 5 ?_
  rw [rounds_succ]
  go_wp2_with fail
  rw [rounds_succ]
  go_wp2_with fail
  rw [rounds_succ]
  go_wp2_with fail
  rw [rounds_succ]
  go_wp2_with fail
  go_ret
  exact ⟨rfl, B0.out⟩
set_option maxRecDepth 100000 in
set_option maxHeartbeats 4000000 in
theorem rvalid8_4ok (mul div tk hz : Int) (l0 : decide (mul < 0) = false) (g0 : decide (1000 < mul) = false) (l1 : decide (div < 0) = false) (g1 : decide (1000 < div) = false) (l2 : decide (tk < 0) = false) (g2 : decide (1000 < tk) = false) (l3 : decide (hz < 0) = false) (g3 : decide (1000 < hz) = false) (w : World) :
    Calls Try.prog 38 #[.agg #[.int .i64 mul, .int .i64 div, .int .i64 tk, .int .i64 hz]] w fun e w' => e = .returned (.bool true) ∧ Below w.heap.size w w' := by
  go_enter Try.func38, Try.ntmps38
  go_wp2_with fail
  have B0 := Lib.hid (below_new (below_new (Below.refl w.heap.size w) (.cells #[.int .i64 mul, .int .i64 div, .int .i64 tk, .int .i64 hz] 49)) (.cells #[.int .i64 mul, .int .i64 div, .int .i64 tk, .int .i64 hz] 3))
  refine wp_loop_rounds 5 ?_
  rw [rounds_succ]
  go_wp2_with fail
  rw [rounds_succ]
  go_wp2_with fail
  rw [rounds_succ]
  go_wp2_with fail
  rw [rounds_succ]
  go_wp2_with fail
  rw [rounds_succ]
  go_wp2_with fail
  go_ret
  exact ⟨rfl, B0.out⟩
theorem rvalid8_any (mul div tk hz : Int) (r : Bool) (hr : tval mul div tk hz = r) (w : World) :
    Calls Try.prog 38 #[.agg #[.int .i64 mul, .int .i64 div, .int .i64 tk, .int .i64 hz]] w fun e w' => e = .returned (.bool r) ∧ Below w.heap.size w w' := by
  subst hr
  have lo : ∀ x : Int, x < 0 → okD x = false := fun x h => by unfold okD; simp; omega
  have hi : ∀ x : Int, 1000 < x → okD x = false := fun x h => by unfold okD; simp; omega
  have yes : ∀ x : Int, ¬ x < 0 → ¬ 1000 < x → okD x = true := fun x h h2 => by unfold okD; simp; omega
  unfold tval
  by_cases l0 : mul < 0
  · rw [lo mul l0]; simpa using rvalid8_0lo mul div tk hz (decide_eq_true l0) w
  by_cases g0 : 1000 < mul
  · rw [hi mul g0]; simpa using rvalid8_0hi mul div tk hz (decide_eq_false l0) (decide_eq_true g0) w
  by_cases l1 : div < 0
  · rw [yes mul l0 g0, lo div l1]; simpa using rvalid8_1lo mul div tk hz (decide_eq_false l0) (decide_eq_false g0) (decide_eq_true l1) w
  by_cases g1 : 1000 < div
  · rw [yes mul l0 g0, hi div g1]; simpa using rvalid8_1hi mul div tk hz (decide_eq_false l0) (decide_eq_false g0) (decide_eq_false l1) (decide_eq_true g1) w
  by_cases l2 : tk < 0
  · rw [yes mul l0 g0, yes div l1 g1, lo tk l2]; simpa using rvalid8_2lo mul div tk hz (decide_eq_false l0) (decide_eq_false g0) (decide_eq_false l1) (decide_eq_false g1) (decide_eq_true l2) w
  by_cases g2 : 1000 < tk
  · rw [yes mul l0 g0, yes div l1 g1, hi tk g2]; simpa using rvalid8_2hi mul div tk hz (decide_eq_false l0) (decide_eq_false g0) (decide_eq_false l1) (decide_eq_false g1) (decide_eq_false l2) (decide_eq_true g2) w
  by_cases l3 : hz < 0
  · rw [yes mul l0 g0, yes div l1 g1, yes tk l2 g2, lo hz l3]; simpa using rvalid8_3lo mul div tk hz (decide_eq_false l0) (decide_eq_false g0) (decide_eq_false l1) (decide_eq_false g1) (decide_eq_false l2) (decide_eq_false g2) (decide_eq_true l3) w
  by_cases g3 : 1000 < hz
  · rw [yes mul l0 g0, yes div l1 g1, yes tk l2 g2, hi hz g3]; simpa using rvalid8_3hi mul div tk hz (decide_eq_false l0) (decide_eq_false g0) (decide_eq_false l1) (decide_eq_false g1) (decide_eq_false l2) (decide_eq_false g2) (decide_eq_false l3) (decide_eq_true g3) w
  rw [yes mul l0 g0, yes div l1 g1, yes tk l2 g2, yes hz l3 g3]
  exact rvalid8_4ok mul div tk hz (decide_eq_false l0) (decide_eq_false g0) (decide_eq_false l1) (decide_eq_false g1) (decide_eq_false l2) (decide_eq_false g2) (decide_eq_false l3) (decide_eq_false g3) w
end Go.Proofs.Ytgjpenhfechhcaa
