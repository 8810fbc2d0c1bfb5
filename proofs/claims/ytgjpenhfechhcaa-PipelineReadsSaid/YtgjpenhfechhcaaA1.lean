/- The contracts of isa.field, isa.has and isa.position: where an operand lies, whether a list of operands has one, and its place in a word. -/
import Derived.Test.YtgjpenhfechhcaaRows
import Derived.Test.YtgjpenhfechhcaaPIsaDecodesx1
import Derived.WalkKit
import Derived.WalkSpells
import Derived.WalkLawsBesides
import Derived.Lib.Hide
namespace Go.Proofs.Ytgjpenhfechhcaa
open Go.RowKit Go.Proofs.YtgjpenhfechhcaaW.PrintWords Go.Proofs.YtgjpenhfechhcaaW.PrintLast Go.Proofs.YtgjpenhfechhcaaW.PrintMore
open PIsaDecodes

/-- the place of an operand among the five cells of an instruction -/
def fieldOff (c : Int) : Nat := if c = 97 then 1 else if c = 98 then 2 else if c = 99 then 3 else 4

set_option maxHeartbeats 400000 in
theorem field_any (b off : Nat) (c : Int) (w : World) :
    Calls Try.prog 52 #[.pointer (some ⟨b, off, none⟩), .int .u8 c] w fun e w' => e = .returned (.pointer (some ⟨b, off + fieldOff c, none⟩)) ∧ w = w' := by
  go_enter Try.func52, Try.ntmps52
  go_wp2
  all_goals (go_ret; refine ⟨?_, rfl⟩; simp only [beq_iff_eq, beq_eq_false_iff_ne, ne_eq] at *; simp [fieldOff, *])

/-- whether a string has a byte -/
def hasB (s : ByteArray) (c : Int) : Bool := (bytesOf s).contains c

theorem index_loop (l : List Int) (c : Int) (hl : l.length ≤ 9223372036854775807) (d : Nat) : ∀ (k i : Nat), l.length - i = d → i ≤ l.length → d < k →
    ∃ r, slices_Index_byte_byte.l0 k l c (l.length : Int) (i : Int) = some r ∧ (decide (r ≥ 0) = (l.drop i).contains c) := by
  induction d with
  | zero =>
    intro k i h1 h2 h3
    obtain ⟨k, rfl⟩ : ∃ m, k = m + 1 := ⟨k - 1, by omega⟩
    refine ⟨-1, ?_, ?_⟩
    · simp only [slices_Index_byte_byte.l0]; rw [if_neg (by omega)]
    · rw [List.drop_eq_nil_of_le (by omega)]; simp
  | succ d ih =>
    intro k i h1 h2 h3
    obtain ⟨k, rfl⟩ : ∃ m, k = m + 1 := ⟨k - 1, by omega⟩
    have hi : i < l.length := by omega
    have hd : l.drop i = l[i] :: l.drop (i + 1) := List.drop_eq_getElem_cons hi
    have hr : rd l (i : Int) = l[i] := by simp [rd, hi]
    have hw : wrap64 ((i : Int) + 1) = ((i + 1 : Nat) : Int) := by unfold wrap64; omega
    by_cases hc : c = l[i]
    · refine ⟨i, ?_, ?_⟩
      · simp only [slices_Index_byte_byte.l0]; rw [if_pos (by omega), if_pos (by omega), if_pos (by omega), hr, if_pos hc]
      · rw [hd, hc]; rw [List.contains_cons]; simp
    · obtain ⟨r, hr1, hr2⟩ := ih k (i + 1) (by omega) (by omega) (by omega)
      refine ⟨r, ?_, ?_⟩
      · simp only [slices_Index_byte_byte.l0]; rw [if_pos (by omega), if_pos (by omega), if_pos (by omega), hr, if_neg hc, hw]; exact hr1
      · rw [hr2, hd, List.contains_cons]; simp [hc]

theorem contains_tells (l : List Int) (c : Int) (hl : l.length ≤ 9223372036854775807) : slices_Contains_byte_byte.f (l.length + 1) l c = some (l.contains c) := by
  obtain ⟨r, h1, h2⟩ := index_loop l c hl l.length (l.length + 1) 0 (by omega) (by omega) (by omega)
  unfold slices_Contains_byte_byte.f slices_Index_byte_byte.f
  have h1' : slices_Index_byte_byte.l0 (l.length + 1) l c (l.length : Int) 0 = some r := h1
  rw [h1']; simp only [Option.bind_some]; rw [h2]; rfl

set_option maxHeartbeats 400000 in
theorem has_any (s : ByteArray) (c : Int) (w : World) (hs : s.size ≤ 1000) :
    Calls Try.prog 56 #[.string s, .int .u8 c] w fun e w' => e = .returned (.bool (hasB s c)) ∧ Below w.heap.size w w' := by
  have kb := fun W => print_bytes (P := Try.prog) 9 75 5 Try.underlying9 Try.underlying75 Try.underlying5 s W
  have hl : (bytesOf s).length = s.size := bytesOf_length s
  have hc : Kd.C (Kd.int .u8) (Lib.bytesWorld w 5 s) (some ⟨w.heap.size, 0, none⟩) (bytesOf s).length (bytesOf s) := by
    rw [hl]; exact Kd.C_of_reads (readsInt_of.1 (bytes_reads w 5 s (by omega)))
  have hcap : (bytesOf s).length ≤ grownCap w s.size 0 5 := by
    rw [hl]; exact grownCap_ge _ _ _ _
  have hcon := slices_Contains_byte_byte.calls _ _ (grownCap w s.size 0 5) (bytesOf s) c _ _ hc hcap (contains_tells (bytesOf s) c (by omega))
  rw [hl] at hcon
  have hb : Below w.heap.size w (Lib.bytesWorld w 5 s) := bytes_below (Below.refl _ _) (Nat.le_refl _) 5 s
  have Hc := Lib.hid hcon
  have Hb := Lib.hid hb
  have Hcap := Lib.hid hcap
  clear hcon hb hc hl hcap
  go_enter Try.func56, Try.ntmps56
  go_wp2_with fail
  refine Hc.out.mono ?_
  rintro e w' ⟨rfl, ⟨n, rfl⟩⟩
  go_wp2_with fail
  go_ret
  exact ⟨by simp [hasB], Hb.out.trans (pw_below_drewN (Below.refl _ _) _)⟩

/-- an entry of a map's literal, at the operation -/
theorem wpList_insert_own {H : Type} {P : Program} (w : World) {ops : Array Oper} {rest : List Oper} {o : Oper} {a : Act} {Q : Exit → Act → World → Prop}
    (hg : o.guard = none) (m x v : Operand) (t : TypeId) (hop : o.op = Op.insert t m x v)
    (k e : TypeId) (K : Go.Maps.Keyed P k) (ht : P.underlying t = some (.map k e)) (R : Value → Option (DataW H × List MemPlace)) (b n : Nat) (D : DataW H)
    (hm : a.eval m = .map (some b)) (hown : w.ownsMap P k R b n D) (hn : n < maxLen) (key val : Value) (kl : Lit) (hx : a.eval x = key) (hv : a.eval v = val) (hkey : keyOf P k key = some kl)
    (d : DataW H) (ps : List MemPlace) (hval : R val = some (d, ps))
    (hK : ∀ w', w'.ownsMap P k R b (n + 1) (D.put kl d) → w.grownBy w' (some b) → wpList P ops Q rest (a.put o.dst undef) w') :
    wpList P ops Q (o :: rest) a w := by
  refine wpList_plain hg fun K' hK' => ?_
  obtain ⟨w', hrun, r1, r2⟩ := hown.update K ht hn hkey hval
  unfold Oper.wp
  simp [execOp, hop, hm, hx, hv, hrun, Result.andThen]
  exact hK' _ _ (hK w' r1 r2)

theorem keyed5 : Go.Maps.Keyed Try.prog 5 := Go.Maps.int_keyed Try.underlying5
theorem zero3 (w : World) : (zeroValue 3).run Try.prog w = .ok (.int .i64 0) w := by kernel_rfl
/-- the map of isa.position -/
def posMap : DataW Unit := (((DataW.map []).put (.int .u8 97) (.lit (.int .i64 22))).put (.int .u8 98) (.lit (.int .i64 18))).put (.int .u8 99) (.lit (.int .i64 14))
/-- the place of an operand in a word -/
def posOf (c : Int) : Int := if c = 97 then 22 else if c = 98 then 18 else if c = 99 then 14 else 0
theorem posMap_at (c : Int) (h : c = 97 ∨ c = 98 ∨ c = 99 ∨ c = 105) : posMap.atKey (.int .u8 c) (.lit (.int .i64 0)) = .lit (.int .i64 (posOf c)) := by
  rcases h with rfl | rfl | rfl | rfl <;> rfl

set_option maxRecDepth 100000 in
set_option maxHeartbeats 400000 in
theorem position_any (c : Int) (h : c = 97 ∨ c = 98 ∨ c = 99 ∨ c = 105) (w : World) :
    Calls Try.prog 53 #[.int .u8 c] w fun e w' => e = .returned (.int .i64 (posOf c)) ∧ Below w.heap.size w w' := by
  have hmm := @run_makeMap Try.prog
  have hat := posMap_at c h
  have hkey : keyOf Try.prog 5 (.int .u8 c) = some (.int .u8 c) := Go.Maps.keyOf_int_mk Try.underlying5 (by rcases h with rfl | rfl | rfl | rfl <;> rfl)
  have h0 : (w.alloc (.map #[] 0)).ownsMap Try.prog 5 (plainElem (H := Unit) Try.prog 3) w.heap.size 0 (.map []) := World.ownsMap_made _ _ _ _
  have hb0 : Below w.heap.size w (w.alloc (.map #[] 0)) := (Below.refl _ _).alloc (Nat.le_refl _) _
  have H0 := Lib.hid h0
  have Hb0 := Lib.hid hb0
  have Hat := Lib.hid hat
  have Hkey := Lib.hid hkey
  clear h0 hb0 hat hkey h
  go_enter Try.func53, Try.ntmps53
  go_wp2_with (first
    | (refine wpList_insert_own _ rfl (.tmp 3) (.const (.int .u8 97)) (.const (.int .i64 22)) 93 rfl 5 3 keyed5 Try.underlying93 _ w.heap.size 0 _ rfl H0.out (by unfold maxLen; omega) _ _ _ rfl rfl (Go.Maps.keyOf_int_mk Try.underlying5 (by decide)) _ [] (plainElem_int Try.underlying3 (by decide)) ?_; intro w1 ho1 hg1; have H1 := Lib.hid ho1; have G1 := Lib.hid hg1; clear ho1 hg1)
    | (refine wpList_insert_own _ rfl (.tmp 3) (.const (.int .u8 98)) (.const (.int .i64 18)) 93 rfl 5 3 keyed5 Try.underlying93 _ w.heap.size 1 _ rfl H1.out (by unfold maxLen; omega) _ _ _ rfl rfl (Go.Maps.keyOf_int_mk Try.underlying5 (by decide)) _ [] (plainElem_int Try.underlying3 (by decide)) ?_; intro w2 ho2 hg2; have H2 := Lib.hid ho2; have G2 := Lib.hid hg2; clear ho2 hg2)
    | (refine wpList_insert_own _ rfl (.tmp 3) (.const (.int .u8 99)) (.const (.int .i64 14)) 93 rfl 5 3 keyed5 Try.underlying93 _ w.heap.size 2 _ rfl H2.out (by unfold maxLen; omega) _ _ _ rfl rfl (Go.Maps.keyOf_int_mk Try.underlying5 (by decide)) _ [] (plainElem_int Try.underlying3 (by decide)) ?_; intro w3 ho3 hg3; have H3 := Lib.hid ho3; have G3 := Lib.hid hg3; clear ho3 hg3)
    | (at_lookup; refine wpList_lookup_own_int _ rfl _ _ 93 rfl 5 3 .i64 keyed5 Try.underlying93 Try.underlying3 (zero3 _) w.heap.size 3 posMap rfl H3.out _ _ rfl Hkey.out ?_; intro v hv hwv; have HV := Lib.hid hv; clear hv))
  go_ret
  have e : v = posOf c := by have := HV.out.symm.trans Hat.out; simpa using this
  refine ⟨by rw [e]; rfl, ?_⟩
  exact (((Hb0.out.grown G1.out (by simp) (fun k hk => by cases hk; exact Nat.le_refl _)).grown G2.out (by have := G1.out.size; simp at this; omega) (fun k hk => by cases hk; exact Nat.le_refl _)).grown G3.out (by have := G1.out.size; have := G2.out.size; simp at *; omega) (fun k hk => by cases hk; exact Nat.le_refl _))
end Go.Proofs.Ytgjpenhfechhcaa
