/- The contracts of Sequence and of its reference, for timings in range. -/
import Derived.Test.YtgjpenhfechhcaaA20
import Derived.BigQuiet
import Derived.IntWalk
import Derived.Deep.RegionHeld3
namespace Go.Proofs.Ytgjpenhfechhcaa
set_option linter.unusedVariables false
set_option linter.unusedSimpArgs false
open Go.RowKit Go.Proofs.YtgjpenhfechhcaaW.PrintWords Go.Proofs.YtgjpenhfechhcaaW.PrintLast Go.Proofs.YtgjpenhfechhcaaW.PrintMore
open PIsaDecodes

/-- an instruction -/
structure Ins where
  op : Int
  a : Int
  b : Int
  c : Int
  m : Int
instance : Inhabited Ins := ⟨⟨0, 0, 0, 0, 0⟩⟩
def nth (l : List Ins) (i : Nat) : Ins := l.getD i default
/-- block g holds instructions from the cell off on -/
structure SF (g off : Nat) (l : List Ins) (W : World) : Prop where
  lt : g < W.heap.size
  at0 : ∀ i, i < l.length → W.cell? ⟨g, off + i * 5, none⟩ = some (.int .u8 (nth l i).op)
  at1 : ∀ i, i < l.length → W.cell? ⟨g, off + i * 5 + 1, none⟩ = some (.int .i64 (nth l i).a)
  at2 : ∀ i, i < l.length → W.cell? ⟨g, off + i * 5 + 2, none⟩ = some (.int .i64 (nth l i).b)
  at3 : ∀ i, i < l.length → W.cell? ⟨g, off + i * 5 + 3, none⟩ = some (.int .i64 (nth l i).c)
  at4 : ∀ i, i < l.length → W.cell? ⟨g, off + i * 5 + 4, none⟩ = some (.int .i64 (nth l i).m)
theorem SF.step {g off : Nat} {l : List Ins} {W W' : World} (h : SF g off l W) (hb : Below W.heap.size W W') : SF g off l W' :=
  ⟨Nat.lt_of_lt_of_le h.lt hb.size, fun i hi => (hb.cell (p := ⟨g, off + i * 5, none⟩) h.lt).trans (h.at0 i hi), fun i hi => (hb.cell (p := ⟨g, off + i * 5 + 1, none⟩) h.lt).trans (h.at1 i hi), fun i hi => (hb.cell (p := ⟨g, off + i * 5 + 2, none⟩) h.lt).trans (h.at2 i hi), fun i hi => (hb.cell (p := ⟨g, off + i * 5 + 3, none⟩) h.lt).trans (h.at3 i hi), fun i hi => (hb.cell (p := ⟨g, off + i * 5 + 4, none⟩) h.lt).trans (h.at4 i hi)⟩
theorem SF.alloc {g off : Nat} {l : List Ins} {W : World} (h : SF g off l W) (o : Obj) : SF g off l (W.alloc o) := h.step ((Below.refl _ _).alloc (Nat.le_refl _) o)
/-- a slice of instructions -/
def SV (v : Value) (l : List Ins) (W : World) : Prop := (l = [] ∧ ∃ A c, v = .slice A 0 c) ∨ ∃ g off c, v = .slice (some ⟨g, off, none⟩) l.length c ∧ SF g off l W
theorem SV.step {v : Value} {l : List Ins} {W W' : World} (h : SV v l W) (hb : Below W.heap.size W W') : SV v l W' := by
  rcases h with h | ⟨g, off, c, hv, h⟩
  · exact .inl h
  · exact .inr ⟨g, off, c, hv, h.step hb⟩
theorem SV.alloc {v : Value} {l : List Ins} {W : World} (h : SV v l W) (o : Obj) : SV v l (W.alloc o) := h.step ((Below.refl _ _).alloc (Nat.le_refl _) o)
def insOK (l : List Ins) : Prop := ∀ i, i < l.length → 0 ≤ (nth l i).op ∧ (nth l i).op ≤ 255
/-- the time of the first k instructions, and the state behind them -/
def seqK (mul div tk hz s : Int) (l : List Ins) : Nat → Int × Int
  | 0 => (0, s)
  | k + 1 => ((seqK mul div tk hz s l k).1 + cycV mul div tk hz (nth l k).op (nth l k).a (nth l k).b (nth l k).c (nth l k).m (seqK mul div tk hz s l k).2 false, nextV (nth l k).op (nth l k).a (nth l k).b (nth l k).c (nth l k).m)
theorem seqK_in {mul div tk hz : Int} (s : Int) (l : List Ins) (hm : 0 ≤ mul ∧ mul ≤ 1000) (hd : 0 ≤ div ∧ div ≤ 1000) (ht : 0 ≤ tk ∧ tk ≤ 1000) (hh : 0 ≤ hz ∧ hz ≤ 1000) : ∀ k : Nat, (k : Int) ≤ (seqK mul div tk hz s l k).1 ∧ (seqK mul div tk hz s l k).1 ≤ 3001 * (k : Int) := by
  intro k
  induction k with
  | zero => simp [seqK]
  | succ k ih =>
    have h := cycV_in (op := (nth l k).op) (a := (nth l k).a) (b := (nth l k).b) (c := (nth l k).c) (m := (nth l k).m) (s := (seqK mul div tk hz s l k).2) (taken := false) hm hd ht hh
    show _ ≤ (seqK mul div tk hz s l k).1 + _ ∧ (seqK mul div tk hz s l k).1 + _ ≤ _
    omega
theorem below_dr (W : World) : Below W.heap.size W W.drew := ⟨rfl, rfl, rfl, Nat.le_refl _, fun _ _ => rfl⟩
theorem below_dt {W W' : World} (h : Below W.drew.heap.size W.drew W') : Below W.heap.size W W' := ⟨h.os, h.tape, h.output, h.size, h.block⟩
theorem ret_two {k k' : IntKind} {a b c d : Int} (h : a = b) (h' : c = d) : Ending.returned (.tuple #[.int k a, .int k' c]) = .returned (.tuple #[.int k b, .int k' d]) := by rw [h, h']
set_option maxRecDepth 100000 in
set_option maxHeartbeats 4000000 in
theorem seq43_none (mul div tk hz s : Int) (A : Option Addr) (cp : Nat) (w : World) :
    Calls Try.prog 43 #[.agg #[.int .i64 mul, .int .i64 div, .int .i64 tk, .int .i64 hz], .int .i64 s, .slice A 0 cp] w fun e w' => e = .returned (.tuple #[.int .i64 0, .int .i64 s]) ∧ Below w.heap.size w w' := by
  go_enter Try.func43, Try.ntmps43
  go_wp2_with fail
  have XT0 := Lib.hid (TF.newAt (mul) (div) (tk) (hz) (w) (w.heap.size) (by simp))
  have BxT0 := Lib.hid (below_new (Below.refl w.heap.size w) (.cells #[.int .i64 (mul), .int .i64 (div), .int .i64 (tk), .int .i64 (hz)] 49))
  refine wp_loop_rounds 1 ?_
  rw [rounds_succ]
  go_wp2_with fail
  go_ret2
  exact ⟨rfl, BxT0.out⟩
set_option maxRecDepth 100000 in
set_option maxHeartbeats 4000000 in
theorem seq43_some (mul div tk hz s : Int) (hm : 0 ≤ mul ∧ mul ≤ 1000) (hd : 0 ≤ div ∧ div ≤ 1000) (ht : 0 ≤ tk ∧ tk ≤ 1000) (hh : 0 ≤ hz ∧ hz ≤ 1000) (l : List Ins) (hl : l.length ≤ 1000000) (hop : insOK l) (g off cp : Nat) (w : World) (hS : SF g off l w) :
    Calls Try.prog 43 #[.agg #[.int .i64 mul, .int .i64 div, .int .i64 tk, .int .i64 hz], .int .i64 s, .slice (some ⟨g, off, none⟩) l.length cp] w fun e w' => e = .returned (.tuple #[.int .i64 (seqK mul div tk hz s l l.length).1, .int .i64 (seqK mul div tk hz s l l.length).2]) ∧ Below w.heap.size w w' := by
  have HK := Lib.hid (seqK_in s l hm hd ht hh)
  have Hcyc := Lib.hid (fun (s' op a b c m : Int) (h0 : 0 ≤ op) (h1 : op ≤ 255) r hr W => cycles44 s' mul div tk hz op a b c m hm hd ht hh h0 h1 false r hr W)
  have HC := Lib.hid (fun (op a b c m s' : Int) => cycV_in (op := op) (a := a) (b := b) (c := c) (m := m) (s := s') (taken := false) hm hd ht hh)
  have HS := Lib.hid hS
  clear hm hd ht hh hS
  go_enter Try.func43, Try.ntmps43
  go_wp2_with fail
  have XT0 := Lib.hid (TF.newAt (mul) (div) (tk) (hz) (w) (w.heap.size) (by simp))
  have BxT0 := Lib.hid (below_new (Below.refl w.heap.size w) (.cells #[.int .i64 (mul), .int .i64 (div), .int .i64 (tk), .int .i64 (hz)] 49))
  have HS0 := Lib.hid (HS.out.alloc (.cells #[.int .i64 mul, .int .i64 div, .int .i64 tk, .int .i64 hz] 49))
  go_loopw [1, 8, 13] (fun s' n i wr => ∃ k : Nat, k ≤ l.length ∧ i = .int .i64 k ∧ n = .int .i64 (seqK mul div tk hz s l k).1 ∧ s' = .int .i64 (seqK mul div tk hz s l k).2 ∧ SF g off l wr ∧ TF w.heap.size mul div tk hz wr ∧ Below w.heap.size w wr) (fun _ _ i _ => l.length - (intOf i).toNat)
  case atStart => exact ⟨0, by omega, rfl, rfl, rfl, HS0.out, XT0.out, BxT0.out⟩
  case round =>
    obtain ⟨k, hk, rfl, rfl, rfl, hS, hT, hB⟩ := hrel
    have hb := HK.out k
    obtain ⟨N, hN⟩ : ∃ N, (seqK mul div tk hz s l k).1 = N := ⟨_, rfl⟩
    obtain ⟨S, hS'⟩ : ∃ S, (seqK mul div tk hz s l k).2 = S := ⟨_, rfl⟩
    rw [hN] at hb
    simp only [hN, hS']
    have HN := Lib.hid hN
    have HS' := Lib.hid hS'
    clear hN hS'
    by_cases hlt : k < l.length
    · have hsucc : seqK mul div tk hz s l (k + 1) = (N + cycV mul div tk hz (nth l k).op (nth l k).a (nth l k).b (nth l k).c (nth l k).m S false, nextV (nth l k).op (nth l k).a (nth l k).b (nth l k).c (nth l k).m) := by rw [← HN.out, ← HS'.out]; rfl
      have hopk := hop k hlt
      have c0 := hS.at0 k hlt
      have c1 := hS.at1 k hlt
      have c2 := hS.at2 k hlt
      have c3 := hS.at3 k hlt
      have c4 := hS.at4 k hlt
      generalize nth l k = x at hsucc hopk c0 c1 c2 c3 c4
      obtain ⟨op, a, b, c, m⟩ := x
      dsimp only at hsucc hopk c0 c1 c2 c3 c4
      have hC := HC.out op a b c m S
      obtain ⟨C, hCC⟩ : ∃ C, cycV mul div tk hz op a b c m S false = C := ⟨_, rfl⟩
      obtain ⟨X, hX⟩ : ∃ X, nextV op a b c m = X := ⟨_, rfl⟩
      rw [hCC] at hC hsucc
      rw [hX] at hsucc
      have H1 := Lib.hid (fun W => Hcyc.out S op a b c m hopk.1 hopk.2 C hCC W)
      have H2 := Lib.hid (fun W => next_any op a b c m hopk.1 hopk.2 X hX W)
      have HSu := Lib.hid hsucc
      have t0 := hT.i0
      have t1 := hT.i1
      have t2 := hT.i2
      have t3 := hT.i3
      have tlt := hT.lt
      have slt := hS.lt
      have GS := Lib.hid hS
      have GT := Lib.hid hT
      have GB := Lib.hid hB
      clear hS hT hB hsucc hopk hCC hX hop
      go_wp2_with fail
      have GT' := Lib.hid (GT.out.alloc (.cells #[.int .u8 (op), .int .i64 (a), .int .i64 (b), .int .i64 (c), .int .i64 (m)] 23))
      have GS' := Lib.hid (GS.out.alloc (.cells #[.int .u8 (op), .int .i64 (a), .int .i64 (b), .int .i64 (c), .int .i64 (m)] 23))
      have XI0 := Lib.hid (IF.newAt (op) (a) (b) (c) (m) (wr) (wr.heap.size) (by simp))
      have BxI0 := Lib.hid (below_new GB.out (.cells #[.int .u8 (op), .int .i64 (a), .int .i64 (b), .int .i64 (c), .int .i64 (m)] 23))
      refine (H1.out _).mono ?_
      rintro e w1 ⟨rfl, hb1⟩
      have B1 := Lib.hid (below_next BxI0.out hb1)
      have XT1 := Lib.hid (GT'.out.step hb1)
      have XS1 := Lib.hid (GS'.out.step hb1)
      have XI1 := Lib.hid (XI0.out.step hb1)
      clear hb1
      have XT1_lt := XT1.out.lt
      have XT1_i0 := XT1.out.i0
      have XT1_i1 := XT1.out.i1
      have XT1_i2 := XT1.out.i2
      have XT1_i3 := XT1.out.i3
      have XS1_lt := XS1.out.lt
      have XI1_lt := XI1.out.lt
      have XI1_i0 := XI1.out.i0
      have XI1_i1 := XI1.out.i1
      have XI1_i2 := XI1.out.i2
      have XI1_i3 := XI1.out.i3
      have XI1_i4 := XI1.out.i4
      go_wp2_with fail
      refine (H2.out _).mono ?_
      rintro e w2 ⟨rfl, hb2⟩
      have B2 := Lib.hid (below_next B1.out hb2)
      have XT2 := Lib.hid (XT1.out.step hb2)
      have XS2 := Lib.hid (XS1.out.step hb2)
      have XI2 := Lib.hid (XI1.out.step hb2)
      clear hb2
      have XT2_lt := XT2.out.lt
      have XT2_i0 := XT2.out.i0
      have XT2_i1 := XT2.out.i1
      have XT2_i2 := XT2.out.i2
      have XT2_i3 := XT2.out.i3
      have XS2_lt := XS2.out.lt
      have XI2_lt := XI2.out.lt
      have XI2_i0 := XI2.out.i0
      have XI2_i1 := XI2.out.i1
      have XI2_i2 := XI2.out.i2
      have XI2_i3 := XI2.out.i3
      have XI2_i4 := XI2.out.i4
      go_wp2_with fail
      go_roundw
      case rel =>
        refine ⟨k + 1, by omega, by go_num, ?_, ?_, XS2.out, XT2.out, B2.out⟩
        · rw [HSu.out]
        · rw [HSu.out]
      case measure => simp [intOf]; omega
    · have hkk : k = l.length := by omega
      subst hkk
      have GB := Lib.hid hB
      clear hS hT hB hop HC Hcyc
      go_wp2_with fail
      go_ret2
      exact ⟨ret_two HN.out.symm HS'.out.symm, GB.out⟩
theorem seq43 (mul div tk hz s : Int) (hm : 0 ≤ mul ∧ mul ≤ 1000) (hd : 0 ≤ div ∧ div ≤ 1000) (ht : 0 ≤ tk ∧ tk ≤ 1000) (hh : 0 ≤ hz ∧ hz ≤ 1000) (l : List Ins) (hl : l.length ≤ 1000000) (hop : insOK l) (v : Value) (w : World) (hv : SV v l w) :
    Calls Try.prog 43 #[.agg #[.int .i64 mul, .int .i64 div, .int .i64 tk, .int .i64 hz], .int .i64 s, v] w fun e w' => e = .returned (.tuple #[.int .i64 (seqK mul div tk hz s l l.length).1, .int .i64 (seqK mul div tk hz s l l.length).2]) ∧ Below w.heap.size w w' := by
  rcases hv with ⟨rfl, A, c, rfl⟩ | ⟨g, off, c, rfl, hS⟩
  · exact seq43_none mul div tk hz s A c w
  · exact seq43_some mul div tk hz s hm hd ht hh l hl hop g off c w hS
set_option maxRecDepth 100000 in
set_option maxHeartbeats 4000000 in
theorem seq45_none (mul div tk hz s : Int) (A : Option Addr) (cp : Nat) (w : World) :
    Calls Try.prog 45 #[.agg #[.int .i64 mul, .int .i64 div, .int .i64 tk, .int .i64 hz], .int .i64 s, .slice A 0 cp] w fun e w' => e = .returned (.tuple #[.int .i64 0, .int .i64 s]) ∧ Below w.heap.size w w' := by
  go_enter Try.func45, Try.ntmps45
  go_wp2_with fail
  have XT0 := Lib.hid (TF.newAt (mul) (div) (tk) (hz) (w) (w.heap.size) (by simp))
  have BxT0 := Lib.hid (below_new (Below.refl w.heap.size w) (.cells #[.int .i64 (mul), .int .i64 (div), .int .i64 (tk), .int .i64 (hz)] 49))
  refine wp_loop_rounds 1 ?_
  rw [rounds_succ]
  go_wp2_with fail
  go_ret2
  exact ⟨rfl, BxT0.out⟩
set_option maxRecDepth 100000 in
set_option maxHeartbeats 4000000 in
theorem seq45_some (mul div tk hz s : Int) (hm : 0 ≤ mul ∧ mul ≤ 1000) (hd : 0 ≤ div ∧ div ≤ 1000) (ht : 0 ≤ tk ∧ tk ≤ 1000) (hh : 0 ≤ hz ∧ hz ≤ 1000) (l : List Ins) (hl : l.length ≤ 1000000) (hop : insOK l) (g off cp : Nat) (w : World) (hS : SF g off l w) :
    Calls Try.prog 45 #[.agg #[.int .i64 mul, .int .i64 div, .int .i64 tk, .int .i64 hz], .int .i64 s, .slice (some ⟨g, off, none⟩) l.length cp] w fun e w' => e = .returned (.tuple #[.int .i64 (seqK mul div tk hz s l l.length).1, .int .i64 (seqK mul div tk hz s l l.length).2]) ∧ Below w.heap.size w w' := by
  have HK := Lib.hid (seqK_in s l hm hd ht hh)
  have Hcyc := Lib.hid (fun (s' op a b c m : Int) (h0 : 0 ≤ op) (h1 : op ≤ 255) r hr W => cycles46 s' mul div tk hz op a b c m hm hd ht hh h0 h1 false r hr W)
  have HC := Lib.hid (fun (op a b c m s' : Int) => cycV_in (op := op) (a := a) (b := b) (c := c) (m := m) (s := s') (taken := false) hm hd ht hh)
  have HS := Lib.hid hS
  clear hm hd ht hh hS
  go_enter Try.func45, Try.ntmps45
  go_wp2_with fail
  have XT0 := Lib.hid (TF.newAt (mul) (div) (tk) (hz) (w) (w.heap.size) (by simp))
  have BxT0 := Lib.hid (below_new (Below.refl w.heap.size w) (.cells #[.int .i64 (mul), .int .i64 (div), .int .i64 (tk), .int .i64 (hz)] 49))
  have HS0 := Lib.hid (HS.out.alloc (.cells #[.int .i64 mul, .int .i64 div, .int .i64 tk, .int .i64 hz] 49))
  go_loopw [1, 8, 9] (fun s' n i wr => ∃ k : Nat, k ≤ l.length ∧ i = .int .i64 k ∧ n = .int .i64 (seqK mul div tk hz s l k).1 ∧ s' = .int .i64 (seqK mul div tk hz s l k).2 ∧ SF g off l wr ∧ TF w.heap.size mul div tk hz wr ∧ Below w.heap.size w wr) (fun _ _ i _ => l.length - (intOf i).toNat)
  case atStart => exact ⟨0, by omega, rfl, rfl, rfl, HS0.out, XT0.out, BxT0.out⟩
  case round =>
    obtain ⟨k, hk, rfl, rfl, rfl, hS, hT, hB⟩ := hrel
    have hb := HK.out k
    obtain ⟨N, hN⟩ : ∃ N, (seqK mul div tk hz s l k).1 = N := ⟨_, rfl⟩
    obtain ⟨S, hS'⟩ : ∃ S, (seqK mul div tk hz s l k).2 = S := ⟨_, rfl⟩
    rw [hN] at hb
    simp only [hN, hS']
    have HN := Lib.hid hN
    have HS' := Lib.hid hS'
    clear hN hS'
    by_cases hlt : k < l.length
    · have hsucc : seqK mul div tk hz s l (k + 1) = (N + cycV mul div tk hz (nth l k).op (nth l k).a (nth l k).b (nth l k).c (nth l k).m S false, nextV (nth l k).op (nth l k).a (nth l k).b (nth l k).c (nth l k).m) := by rw [← HN.out, ← HS'.out]; rfl
      have hopk := hop k hlt
      have c0 := hS.at0 k hlt
      have c1 := hS.at1 k hlt
      have c2 := hS.at2 k hlt
      have c3 := hS.at3 k hlt
      have c4 := hS.at4 k hlt
      generalize nth l k = x at hsucc hopk c0 c1 c2 c3 c4
      obtain ⟨op, a, b, c, m⟩ := x
      dsimp only at hsucc hopk c0 c1 c2 c3 c4
      have hC := HC.out op a b c m S
      obtain ⟨C, hCC⟩ : ∃ C, cycV mul div tk hz op a b c m S false = C := ⟨_, rfl⟩
      obtain ⟨X, hX⟩ : ∃ X, nextV op a b c m = X := ⟨_, rfl⟩
      rw [hCC] at hC hsucc
      rw [hX] at hsucc
      have H1 := Lib.hid (fun W => Hcyc.out S op a b c m hopk.1 hopk.2 C hCC W)
      have H2 := Lib.hid (fun W => ref_next_any op a b c m hopk.1 hopk.2 X hX W)
      have HSu := Lib.hid hsucc
      have t0 := hT.i0
      have t1 := hT.i1
      have t2 := hT.i2
      have t3 := hT.i3
      have tlt := hT.lt
      have slt := hS.lt
      have GS := Lib.hid hS
      have GT := Lib.hid hT
      have GB := Lib.hid hB
      clear hS hT hB hsucc hopk hCC hX hop
      go_wp2_with fail
      go_region_held3 (fun W => W.cell? ⟨w.heap.size, 0, none⟩ = some (.int .i64 mul) ∧ W.cell? ⟨w.heap.size, 1, none⟩ = some (.int .i64 div) ∧ W.cell? ⟨w.heap.size, 2, none⟩ = some (.int .i64 tk) ∧ W.cell? ⟨w.heap.size, 3, none⟩ = some (.int .i64 hz) ∧ W.cell? ⟨g, off + k * 5, none⟩ = some (.int .u8 op) ∧ W.cell? ⟨g, off + k * 5 + 1, none⟩ = some (.int .i64 a) ∧ W.cell? ⟨g, off + k * 5 + 2, none⟩ = some (.int .i64 b) ∧ W.cell? ⟨g, off + k * 5 + 3, none⟩ = some (.int .i64 c) ∧ W.cell? ⟨g, off + k * 5 + 4, none⟩ = some (.int .i64 m) ∧ SF g off l W ∧ TF w.heap.size mul div tk hz W ∧ Below w.heap.size w W)
        (first | exact ⟨t0, t1, t2, t3, c0, c1, c2, c3, c4, GS.out.step (below_dr wr), GT.out.step (below_dr wr), below_next GB.out (below_dr wr)⟩ | exact ⟨(hb2.cell (p := ⟨w.heap.size, 0, none⟩) tlt).trans t0, (hb2.cell (p := ⟨w.heap.size, 1, none⟩) tlt).trans t1, (hb2.cell (p := ⟨w.heap.size, 2, none⟩) tlt).trans t2, (hb2.cell (p := ⟨w.heap.size, 3, none⟩) tlt).trans t3, (hb2.cell (p := ⟨g, off + k * 5, none⟩) slt).trans c0, (hb2.cell (p := ⟨g, off + k * 5 + 1, none⟩) slt).trans c1, (hb2.cell (p := ⟨g, off + k * 5 + 2, none⟩) slt).trans c2, (hb2.cell (p := ⟨g, off + k * 5 + 3, none⟩) slt).trans c3, (hb2.cell (p := ⟨g, off + k * 5 + 4, none⟩) slt).trans c4, GS.out.step hb2, GT.out.step hb2, below_next GB.out hb2⟩)
        (first | (go_at_call 46; refine (H1.out _).mono ?_; rintro e w' ⟨rfl, hb'⟩; have hb2 := below_dt hb'))
      have hw : IntKind.i64.wrap (N + C) = N + C := Go.IntWalk.i64_in _ (by omega)
      have GS1 := Lib.hid (GS.out.step hb2)
      have GT1 := Lib.hid (GT.out.step hb2)
      have GB1 := Lib.hid (below_next GB.out hb2)
      have c0' := (hb2.cell (p := ⟨g, off + k * 5, none⟩) slt).trans c0
      have c1' := (hb2.cell (p := ⟨g, off + k * 5 + 1, none⟩) slt).trans c1
      have c2' := (hb2.cell (p := ⟨g, off + k * 5 + 2, none⟩) slt).trans c2
      have c3' := (hb2.cell (p := ⟨g, off + k * 5 + 3, none⟩) slt).trans c3
      have c4' := (hb2.cell (p := ⟨g, off + k * 5 + 4, none⟩) slt).trans c4
      clear hb2 hb'
      have GT1_lt := GT1.out.lt
      have GT1_i0 := GT1.out.i0
      have GT1_i1 := GT1.out.i1
      have GT1_i2 := GT1.out.i2
      have GT1_i3 := GT1.out.i3
      have GS1_lt := GS1.out.lt
      rw [hw]
      clear hw
      go_wp2_with fail
      refine (H2.out _).mono ?_
      rintro e w1 ⟨rfl, hb1⟩
      have B1 := Lib.hid (below_next GB1.out hb1)
      have XT1 := Lib.hid (GT1.out.step hb1)
      have XS1 := Lib.hid (GS1.out.step hb1)
      clear hb1
      have XT1_lt := XT1.out.lt
      have XT1_i0 := XT1.out.i0
      have XT1_i1 := XT1.out.i1
      have XT1_i2 := XT1.out.i2
      have XT1_i3 := XT1.out.i3
      have XS1_lt := XS1.out.lt
      go_wp2_with fail
      go_roundw
      case rel =>
        refine ⟨k + 1, by omega, by go_num, ?_, ?_, XS1.out, XT1.out, B1.out⟩
        · rw [HSu.out]
        · rw [HSu.out]
      case measure => simp [intOf]; omega
    · have hkk : k = l.length := by omega
      subst hkk
      have GB := Lib.hid hB
      clear hS hT hB hop HC Hcyc
      go_wp2_with fail
      go_ret2
      exact ⟨ret_two HN.out.symm HS'.out.symm, GB.out⟩
theorem seq45 (mul div tk hz s : Int) (hm : 0 ≤ mul ∧ mul ≤ 1000) (hd : 0 ≤ div ∧ div ≤ 1000) (ht : 0 ≤ tk ∧ tk ≤ 1000) (hh : 0 ≤ hz ∧ hz ≤ 1000) (l : List Ins) (hl : l.length ≤ 1000000) (hop : insOK l) (v : Value) (w : World) (hv : SV v l w) :
    Calls Try.prog 45 #[.agg #[.int .i64 mul, .int .i64 div, .int .i64 tk, .int .i64 hz], .int .i64 s, v] w fun e w' => e = .returned (.tuple #[.int .i64 (seqK mul div tk hz s l l.length).1, .int .i64 (seqK mul div tk hz s l l.length).2]) ∧ Below w.heap.size w w' := by
  rcases hv with ⟨rfl, A, c, rfl⟩ | ⟨g, off, c, rfl, hS⟩
  · exact seq45_none mul div tk hz s A c w
  · exact seq45_some mul div tk hz s hm hd ht hh l hl hop g off c w hS
end Go.Proofs.Ytgjpenhfechhcaa
