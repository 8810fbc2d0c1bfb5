/- The awake check of layer 26. -/
import Derived.Test.YtcbofikjcgdjmaaB23
import Derived.Test.YtcbofikjcgdjmaaB21
namespace Go.Proofs.Ytcbofikjcgdjmaa
set_option linter.unusedVariables false
set_option linter.unusedSimpArgs false
open Go.RowKit

theorem gzA : GZ bA (prevL bA) := ⟨by decide, by decide +kernel, by decide +kernel, by decide +kernel⟩
theorem gzB : GZ bB (prevL bB) := ⟨by decide, by decide +kernel, by decide +kernel, by decide +kernel⟩
theorem graphA (A : Option Addr) (c : Nat) (w : World) (h : RV w A gA) :
    Calls Try.prog 29 #[.slice A 4 c] w fun e w' => (∃ B c' P, e = .returned (.agg #[.slice B 4 c', .slice (some P) 4 4]) ∧ BV w' B bA ∧ RV w' (some P) (prevL bA)) ∧ Below w.heap.size w w' :=
  graph29 A gA c w h (by decide) (by decide +kernel) (by decide +kernel)
theorem graphB (A : Option Addr) (c : Nat) (w : World) (h : RV w A gB) :
    Calls Try.prog 29 #[.slice A 3 c] w fun e w' => (∃ B c' P, e = .returned (.agg #[.slice B 3 c', .slice (some P) 3 3]) ∧ BV w' B bB ∧ RV w' (some P) (prevL bB)) ∧ Below w.heap.size w w' :=
  graph29 A gB c w h (by decide) (by decide +kernel) (by decide +kernel)
theorem findA (A B : Option Addr) (c d : Nat) (w : World) (h : BV w A bA) (h' : RV w B (prevL bA)) :
    Calls Try.prog 20 #[.agg #[.slice A 4 c, .slice B 4 d]] w fun e w' => (∃ L cap, e = .returned (.tuple #[.slice L 1 cap, .int .i64 (-1), .int .i64 0]) ∧ LV w' L [lpA1]) ∧ Below w.heap.size w w' := by
  obtain ⟨R, hR, hE⟩ := treeA
  refine (find20_main A B bA (prevL bA) c d w h h' gzA bA_valid 6 R hR).mono fun e w' hh => ?_
  obtain ⟨_, h2, h3⟩ := hh
  obtain ⟨L, cap, he, hL⟩ := h2 hE
  rw [lsA] at he hL
  exact ⟨⟨L, cap, he, hL⟩, h3⟩
theorem findB (A B : Option Addr) (c d : Nat) (w : World) (h : BV w A bB) (h' : RV w B (prevL bB)) :
    Calls Try.prog 20 #[.agg #[.slice A 3 c, .slice B 3 d]] w fun e w' => (∃ q : Nat, q < 3 ∧ e = .returned (.tuple #[.slice none 0 0, .int .i64 q, .int .i64 16])) ∧ Below w.heap.size w w' := by
  obtain ⟨R, hR, q, hq, h0, h1⟩ := treeB
  refine (find20_main A B bB (prevL bB) c d w h h' gzB bB_valid 6 R hR).mono fun e w' hh => ?_
  obtain ⟨h2, _, h3⟩ := hh
  exact ⟨⟨q.2.toNat, by omega, by rw [h2 q hq, Int.toNat_of_nonneg h0]⟩, h3⟩
theorem entriesA (A B : Option Addr) (m c d : Nat) (A1 B1 : Option Addr) (c1 d1 : Nat) (w : World) (h : BV w A bA) (h1 : IV w A1 [1, 2]) (h2 : IV w B1 [2]) :
    Calls Try.prog 17 #[.agg #[.slice A 4 c, .slice B m d], .agg #[.int .i64 1, .slice A1 2 c1, .slice B1 1 d1, .int .i64 (-1)]] w fun e w' => (∃ R cap, e = .returned (.slice R 1 cap) ∧ EV w' R [(0, 1)]) ∧ Below w.heap.size w w' := by
  have := entries17 A B bA m c d lpA1 A1 B1 c1 d1 w h (by decide) (by decide +kernel) (by decide +kernel) (by decide) h1 h2
  rw [show (edgK bA bA.length).filter (fun e => entP lpA1 e.1 e.2) = [(0, 1)] from entA] at this
  exact this
theorem exitsA (A B : Option Addr) (m c d : Nat) (A1 B1 : Option Addr) (c1 d1 : Nat) (w : World) (h : BV w A bA) (h1 : IV w A1 [1, 2]) (h2 : IV w B1 [2]) :
    Calls Try.prog 18 #[.agg #[.slice A 4 c, .slice B m d], .agg #[.int .i64 1, .slice A1 2 c1, .slice B1 1 d1, .int .i64 (-1)]] w fun e w' => (∃ R cap, e = .returned (.slice R 1 cap) ∧ EV w' R [(2, 3)]) ∧ Below w.heap.size w w' := by
  have := exits18 A B bA m c d lpA1 A1 B1 c1 d1 w h (by decide) (by decide +kernel) (by decide +kernel) (by decide) h1 h2
  rw [show (edgK bA bA.length).filter (fun e => exiP lpA1 e.1 e.2) = [(2, 3)] from exiA] at this
  exact this

theorem cell_new' (W : World) (n : Nat) (cs : Array Value) (t : TypeId) (k : Nat) (v : Value) (hn : W.heap.size = n) (h : cs[k]? = some v) : (W.alloc (.cells cs t)).cell? ⟨n, k, none⟩ = some v := by
  subst hn
  simp [World.cell?_alloc_at, h]
theorem iv_new1 (w : World) (x : Int) : IV (w.alloc (.cells #[.int .i64 x] 3)) (some ⟨w.heap.size, 0, none⟩) [x] := fun _ =>
  ⟨w.heap.size, 0, rfl, by simp, fun j hj => by
    match j, hj with
    | 0, _ => simp⟩
theorem iv_new2 (w : World) (x y : Int) : IV (w.alloc (.cells #[.int .i64 x, .int .i64 y] 3)) (some ⟨w.heap.size, 0, none⟩) [x, y] := fun _ =>
  ⟨w.heap.size, 0, rfl, by simp, fun j hj => by
    match j, hj with
    | 0, _ => simp
    | 1, _ => simp⟩
theorem rvA (w : World) : RV ((((w.alloc (Obj.cells #[Value.int IntKind.i64 1] 3)).alloc (Obj.cells #[Value.int IntKind.i64 2] 3)).alloc
              (Obj.cells #[Value.int IntKind.i64 1, Value.int IntKind.i64 3] 3)).alloc
          (Obj.cells
            #[Value.slice (some { block := w.heap.size, off := 0 }) 1 1,
              Value.slice (some { block := w.heap.size + 1, off := 0 }) 1 1,
              Value.slice (some { block := w.heap.size + 1 + 1, off := 0 }) 2 2, Value.slice none 0 0]
            28)) (some { block := w.heap.size + 1 + 1 + 1, off := 0 }) gA := fun _ =>
  ⟨w.heap.size + 1 + 1 + 1, 0, rfl, by simp, fun j hj => by
    have h1 := iv_new1 w 1
    have h2 := iv_new1 (w.alloc (Obj.cells #[Value.int IntKind.i64 1] 3)) 2
    have h3 := iv_new2 ((w.alloc (Obj.cells #[Value.int IntKind.i64 1] 3)).alloc (Obj.cells #[Value.int IntKind.i64 2] 3)) 1 3
    rw [World.size_alloc] at h2
    rw [World.size_alloc, World.size_alloc] at h3
    match j, hj with
    | 0, _ => exact ⟨_, 1, cell_new' _ _ _ _ _ _ (by simp) rfl, ((h1.alloc _).alloc _).alloc _⟩
    | 1, _ => exact ⟨_, 1, cell_new' _ _ _ _ _ _ (by simp) rfl, (h2.alloc _).alloc _⟩
    | 2, _ => exact ⟨_, 2, cell_new' _ _ _ _ _ _ (by simp) rfl, h3.alloc _⟩
    | 3, _ => exact ⟨none, 0, cell_new' _ _ _ _ _ _ (by simp) rfl, IV.nil _ _⟩⟩
theorem rvB (w : World) : RV ((((w.alloc (Obj.cells #[Value.int IntKind.i64 1, Value.int IntKind.i64 2] 3)).alloc (Obj.cells #[Value.int IntKind.i64 2] 3)).alloc
              (Obj.cells #[Value.int IntKind.i64 1] 3)).alloc
          (Obj.cells
            #[Value.slice (some { block := w.heap.size, off := 0 }) 2 2,
              Value.slice (some { block := w.heap.size + 1, off := 0 }) 1 1,
              Value.slice (some { block := w.heap.size + 1 + 1, off := 0 }) 1 1]
            28)) (some { block := w.heap.size + 1 + 1 + 1, off := 0 }) gB := fun _ =>
  ⟨w.heap.size + 1 + 1 + 1, 0, rfl, by simp, fun j hj => by
    have h1 := iv_new2 w 1 2
    have h2 := iv_new1 (w.alloc (Obj.cells #[Value.int IntKind.i64 1, Value.int IntKind.i64 2] 3)) 2
    have h3 := iv_new1 ((w.alloc (Obj.cells #[Value.int IntKind.i64 1, Value.int IntKind.i64 2] 3)).alloc (Obj.cells #[Value.int IntKind.i64 2] 3)) 1
    rw [World.size_alloc] at h2
    rw [World.size_alloc, World.size_alloc] at h3
    match j, hj with
    | 0, _ => exact ⟨_, 2, cell_new' _ _ _ _ _ _ (by simp) rfl, ((h1.alloc _).alloc _).alloc _⟩
    | 1, _ => exact ⟨_, 1, cell_new' _ _ _ _ _ _ (by simp) rfl, (h2.alloc _).alloc _⟩
    | 2, _ => exact ⟨_, 1, cell_new' _ _ _ _ _ _ (by simp) rfl, h3.alloc _⟩⟩
theorem lvA {W : World} {L : Option Addr} (h : LV W L [lpA1]) : ∃ b off A c B d, L = some ⟨b, off, none⟩ ∧ b < W.heap.size ∧ W.cell? ⟨b, off, none⟩ = some (.int .i64 1) ∧ W.cell? ⟨b, off + 1, none⟩ = some (.slice A 2 c) ∧ W.cell? ⟨b, off + 2, none⟩ = some (.slice B 1 d) ∧ W.cell? ⟨b, off + 3, none⟩ = some (.int .i64 (-1)) ∧ IV W A [1, 2] ∧ IV W B [2] := by
  obtain ⟨b, off, rfl, hlt, hc⟩ := h (by simp)
  obtain ⟨A, c, B, d, h0, h1, h2, h3, h4, h5⟩ := hc 0 (by simp)
  exact ⟨b, off, A, c, B, d, rfl, hlt, h0, h1, h2, h3, h4, h5⟩
theorem evA {W : World} {R : Option Addr} {x y : Int} (h : EV W R [(x, y)]) : ∃ b off, R = some ⟨b, off, none⟩ ∧ b < W.heap.size ∧ W.cell? ⟨b, off, none⟩ = some (.int .i64 x) ∧ W.cell? ⟨b, off + 1, none⟩ = some (.int .i64 y) := by
  obtain ⟨b, off, rfl, hlt, hc⟩ := h (by simp)
  exact ⟨b, off, rfl, hlt, (hc 0 (by simp)).1, (hc 0 (by simp)).2⟩

/-- the graph's variable and the one loop, in memory -/
structure KA (b off g : Nat) (A B' B : Option Addr) (P : Addr) (c d c' : Nat) (W : World) : Prop where
  x0 : W.cell? ⟨b, off, none⟩ = some (.int .i64 1)
  x1 : W.cell? ⟨b, off + 1, none⟩ = some (.slice A 2 c)
  x2 : W.cell? ⟨b, off + 2, none⟩ = some (.slice B' 1 d)
  x3 : W.cell? ⟨b, off + 3, none⟩ = some (.int .i64 (-1))
  y0 : W.cell? ⟨g, 0, none⟩ = some (.slice B 4 c')
  y1 : W.cell? ⟨g, 1, none⟩ = some (.slice (some P) 4 4)
  lb : b < W.heap.size
  lg : g < W.heap.size
  i1 : IV W A [1, 2]
  i2 : IV W B' [2]
  bv : BV W B bA
theorem KA.below {b off g : Nat} {A B' B : Option Addr} {P : Addr} {c d c' : Nat} {W W' : World} (h : KA b off g A B' B P c d c' W) (hb : Below W.heap.size W W') : KA b off g A B' B P c d c' W' :=
  ⟨(hb.cell h.lb).trans h.x0, (hb.cell h.lb).trans h.x1, (hb.cell h.lb).trans h.x2, (hb.cell h.lb).trans h.x3, (hb.cell h.lg).trans h.y0, (hb.cell h.lg).trans h.y1,
    Nat.lt_of_lt_of_le h.lb hb.size, Nat.lt_of_lt_of_le h.lg hb.size, h.i1.step hb, h.i2.step hb, h.bv.step hb⟩
theorem KA.alloc {b off g : Nat} {A B' B : Option Addr} {P : Addr} {c d c' : Nat} {W : World} (h : KA b off g A B' B P c d c' W) (o : Obj) : KA b off g A B' B P c d c' (W.alloc o) := h.below (below_new (Below.refl _ _) o)
theorem below_through {W W' : World} {o : Obj} (h : Below (W.alloc o).heap.size (W.alloc o) W') : Below W.heap.size W W' := (below_new (Below.refl _ _) o).trans (h.mono (by simp))

theorem keepKA {w W W' : World} {b off g : Nat} {A B' B : Option Addr} {P : Addr} {c d c' : Nat} (hb : Below W.heap.size W W')
    (h : W.cell? ⟨b, off, none⟩ = some (.int .i64 1) ∧ W.cell? ⟨b, off + 1, none⟩ = some (.slice A 2 c) ∧ W.cell? ⟨b, off + 2, none⟩ = some (.slice B' 1 d) ∧ W.cell? ⟨b, off + 3, none⟩ = some (.int .i64 (-1)) ∧ W.cell? ⟨g, 0, none⟩ = some (.slice B 4 c') ∧ W.cell? ⟨g, 1, none⟩ = some (.slice (some P) 4 4) ∧ KA b off g A B' B P c d c' W ∧ Below w.heap.size w W) :
    W'.cell? ⟨b, off, none⟩ = some (.int .i64 1) ∧ W'.cell? ⟨b, off + 1, none⟩ = some (.slice A 2 c) ∧ W'.cell? ⟨b, off + 2, none⟩ = some (.slice B' 1 d) ∧ W'.cell? ⟨b, off + 3, none⟩ = some (.int .i64 (-1)) ∧ W'.cell? ⟨g, 0, none⟩ = some (.slice B 4 c') ∧ W'.cell? ⟨g, 1, none⟩ = some (.slice (some P) 4 4) ∧ KA b off g A B' B P c d c' W' ∧ Below w.heap.size w W' := by
  obtain ⟨_, _, _, _, _, _, h7, h8⟩ := h
  have k := h7.below hb
  exact ⟨k.x0, k.x1, k.x2, k.x3, k.y0, k.y1, k, h8.trans (hb.mono h8.size)⟩
theorem kaOf {w W : World} {b off g : Nat} {A B' B : Option Addr} {P : Addr} {c d c' : Nat}
    (h : W.cell? ⟨b, off, none⟩ = some (.int .i64 1) ∧ W.cell? ⟨b, off + 1, none⟩ = some (.slice A 2 c) ∧ W.cell? ⟨b, off + 2, none⟩ = some (.slice B' 1 d) ∧ W.cell? ⟨b, off + 3, none⟩ = some (.int .i64 (-1)) ∧ W.cell? ⟨g, 0, none⟩ = some (.slice B 4 c') ∧ W.cell? ⟨g, 1, none⟩ = some (.slice (some P) 4 4) ∧ KA b off g A B' B P c d c' W ∧ Below w.heap.size w W) : KA b off g A B' B P c d c' W := h.2.2.2.2.2.2.1
theorem below_dr (W : World) : Below W.heap.size W W.drew := (Below.refl _ _).drew

set_option maxRecDepth 100000 in
set_option maxHeartbeats 4000000 in
theorem awake11 (w : World) : Calls Try.prog 11 #[] w fun e w' => e = .returned (.bool true) ∧ Below w.heap.size w w' := by
  have HGA := Lib.hid graphA
  have HRA := Lib.hid (rvA w)
  have HFA := Lib.hid findA
  have HI := Lib.hid (fun A A' c d (w : World) (h : IV w A [1, 2]) (h' : IV w A' [1, 2]) => ints24 A A' [1, 2] [1, 2] c d w h h' (by decide) (by decide))
  have HJ := Lib.hid (fun A A' c d (w : World) (h : IV w A [2]) (h' : IV w A' [2]) => ints24 A A' [2] [2] c d w h h' (by decide) (by decide))
  go_enter Try.func11, Try.ntmps11
  go_wp2_with fail
  refine (HGA.out _ _ _ HRA.out).mono ?_
  rintro e w1 ⟨⟨B, c', P, rfl, hBV, hRV⟩, hb1⟩
  have HBV := Lib.hid hBV
  have HRV := Lib.hid hRV
  have HB1 := Lib.hid hb1
  clear hBV hRV hb1 HGA HRA
  go_wp2_with fail
  refine (HFA.out _ _ _ _ _ (HBV.out.alloc _) (HRV.out.alloc _)).mono ?_
  rintro e w2 ⟨⟨L, cap, rfl, hL⟩, hb2⟩
  obtain ⟨b, off, A, c, B', d, rfl, hlt, g0, g1, g2, g3, hA, hB⟩ := lvA hL
  have HK := Lib.hid (show KA b off w1.heap.size A B' B P c d c' w2 from ⟨g0, g1, g2, g3, (hb2.cell (p := ⟨w1.heap.size, 0, none⟩) (by simp)).trans (cell_new' _ _ _ _ _ _ rfl rfl), (hb2.cell (p := ⟨w1.heap.size, 1, none⟩) (by simp)).trans (cell_new' _ _ _ _ _ _ rfl rfl), hlt, by have := hb2.size; simp at this; omega, hA, hB, (HBV.out.alloc _).step hb2⟩)
  have HBL := Lib.hid (show Below w.heap.size w w2 from ((below_new (below_new (below_new (below_new (Below.refl _ _) _) _) _) _).trans (HB1.out.mono (by simp; omega))).trans ((below_through hb2).mono (by have := HB1.out.size; simp at this; omega)))
  clear hA hB hL hb2 HFA HBV HRV HB1
  go_wp2_with fail
  refine (HI.out _ _ _ _ _ (HK.out.i1.alloc _) (iv_new2 _ 1 2)).mono ?_
  rintro e w3 ⟨rfl, hb3⟩
  clear g0 g1 g2 g3 hlt
  have HK3 := Lib.hid (HK.out.below (below_through hb3))
  have HBL3 := Lib.hid (HBL.out.trans ((below_through hb3).mono HBL.out.size))
  clear hb3 HK HBL HI
  have g0 := HK3.out.x0
  have g1 := HK3.out.x1
  have g2 := HK3.out.x2
  have g3 := HK3.out.x3
  have y0 := HK3.out.y0
  have y1 := HK3.out.y1
  have hlb := HK3.out.lb
  have hlg := HK3.out.lg
  go_wp2_with fail
  refine (HJ.out _ _ _ _ _ (HK3.out.i2.alloc _) (iv_new1 _ 2)).mono ?_
  rintro e w4 ⟨rfl, hb4⟩
  clear g0 g1 g2 g3 y0 y1 hlb hlg
  have HK4 := Lib.hid (HK3.out.below (below_through hb4))
  have HBL4 := Lib.hid (HBL3.out.trans ((below_through hb4).mono HBL3.out.size))
  clear hb4 HK3 HBL3 HJ
  have g0 := HK4.out.x0
  have g1 := HK4.out.x1
  have g2 := HK4.out.x2
  have g3 := HK4.out.x3
  have y0 := HK4.out.y0
  have y1 := HK4.out.y1
  have hlb := HK4.out.lb
  have hlg := HK4.out.lg
  go_wp2_with fail
  have HEN := Lib.hid entriesA
  have HEX := Lib.hid exitsA
  have HS0 := Lib.hid (keepKA (below_dr w4) ⟨g0, g1, g2, g3, y0, y1, HK4.out, HBL4.out⟩)
  go_region_held3 (fun W => W.cell? ⟨b, off, none⟩ = some (.int .i64 1) ∧ W.cell? ⟨b, off + 1, none⟩ = some (.slice A 2 c) ∧ W.cell? ⟨b, off + 2, none⟩ = some (.slice B' 1 d) ∧ W.cell? ⟨b, off + 3, none⟩ = some (.int .i64 (-1)) ∧ W.cell? ⟨w1.heap.size, 0, none⟩ = some (.slice B 4 c') ∧ W.cell? ⟨w1.heap.size, 1, none⟩ = some (.slice (some P) 4 4) ∧ KA b off w1.heap.size A B' B P c d c' W ∧ Below w.heap.size w W)
    (((repeat (apply keepKA; assumption)); exact HS0.out))
    (first | (go_at_call 17; refine (HEN.out _ _ _ _ _ _ _ _ _ _ (kaOf (w := w) (by assumption)).bv (kaOf (w := w) (by assumption)).i1 (kaOf (w := w) (by assumption)).i2).mono ?_; rintro e w' ⟨⟨R, cap', rfl, hR⟩, hb'⟩) | (go_at_call 18; refine (HEX.out _ _ _ _ _ _ _ _ _ _ (kaOf (w := w) (by assumption)).bv (kaOf (w := w) (by assumption)).i1 (kaOf (w := w) (by assumption)).i2).mono ?_; rintro e w' ⟨⟨R, cap', rfl, hR⟩, hb'⟩))
  rename_i w5 hb5 R1 cap1 hR1 hH
  have HBL5 := Lib.hid hH.2.2.2.2.2.2.2
  obtain ⟨b1, o1, rfl, hl1, e0, e1⟩ := evA (hR1.step hb')
  obtain ⟨b2, o2, rfl, hl2, f0, f1⟩ := evA hR
  clear hH hR1 hR hb5 hb' g0 g1 g2 g3 y0 y1 hlb hlg HK4 HBL4 HS0 HEN HEX
  have HRB := Lib.hid (rvB w')
  have HE1 := Lib.hid (show _ ∧ _ ∧ _ ∧ _ ∧ b1 < w'.heap.size ∧ b2 < w'.heap.size from ⟨e0, e1, f0, f1, hl1, hl2⟩)
  clear e0 e1 f0 f1 hl1 hl2
  have HGB := Lib.hid graphB
  have HFB := Lib.hid findB
  go_wp2_with fail
  refine (HGB.out _ _ _ HRB.out).mono ?_
  rintro e w6 ⟨⟨B2, c2, P2, rfl, hBV, hRV⟩, hb6⟩
  have HBV := Lib.hid hBV
  have HRV := Lib.hid hRV
  have HB6 := Lib.hid hb6
  clear hBV hRV hb6
  go_wp2_with fail
  refine (HFB.out _ _ _ _ _ HBV.out HRV.out).mono ?_
  rintro e w7 ⟨⟨q, hq, rfl⟩, hb7⟩
  have HB7 := Lib.hid (show Below w'.heap.size w' w7 from (below_new (below_new (below_new (below_new (Below.refl _ _) _) _) _) _).trans ((HB6.out.mono (by simp; omega)).trans (hb7.mono (by have := HB6.out.size; simp at this; omega))))
  clear hb7
  have e0 := (HB7.out.cell (p := ⟨b1, o1, none⟩) HE1.out.2.2.2.2.1).trans HE1.out.1
  have e1 := (HB7.out.cell (p := ⟨b1, o1 + 1, none⟩) HE1.out.2.2.2.2.1).trans HE1.out.2.1
  have f0 := (HB7.out.cell (p := ⟨b2, o2, none⟩) HE1.out.2.2.2.2.2).trans HE1.out.2.2.1
  have f1 := (HB7.out.cell (p := ⟨b2, o2 + 1, none⟩) HE1.out.2.2.2.2.2).trans HE1.out.2.2.2.1
  have q1 := fun W => run_eql35 0 1 0 1 W
  have q2 := fun W => run_eql35 2 3 2 3 W
  have hge : decide ((0 : Int) ≤ (q : Int)) = true := by simp
  simp only [show ((0 : Int) == 0 && (1 : Int) == 1) = true from rfl] at q1
  simp only [show ((2 : Int) == 2 && (3 : Int) == 3) = true from rfl] at q2
  go_wp2_with fail
  go_ret
  exact ⟨rfl, HBL5.out.trans (HB7.out.mono HBL5.out.size)⟩
end Go.Proofs.Ytcbofikjcgdjmaa
