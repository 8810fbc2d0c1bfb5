/- The contract of isa.find: for every opcode it returns the row of the table, and whether there is one. -/
import Derived.Test.YtgjpenhfechhcaaA1
namespace Go.Proofs.Ytgjpenhfechhcaa
open Go.RowKit Go.Proofs.YtgjpenhfechhcaaW.PrintWords Go.Proofs.YtgjpenhfechhcaaW.PrintLast Go.Proofs.YtgjpenhfechhcaaW.PrintMore
open PIsaDecodes

/-- the rows of all opcodes, as isa.rows makes them -/
def tab : List S71 := [⟨⟨#[110, 111, 112]⟩, ⟨#[]⟩, 0, 0, ⟨#[]⟩, ⟨#[]⟩⟩,
  ⟨⟨#[104, 97, 108, 116]⟩, ⟨#[]⟩, 0, 0, ⟨#[]⟩, ⟨#[]⟩⟩,
  ⟨⟨#[97, 100, 100]⟩, ⟨#[97, 98, 99]⟩, 0, 0, ⟨#[98, 99]⟩, ⟨#[97]⟩⟩,
  ⟨⟨#[115, 117, 98]⟩, ⟨#[97, 98, 99]⟩, 0, 0, ⟨#[98, 99]⟩, ⟨#[97]⟩⟩,
  ⟨⟨#[109, 117, 108]⟩, ⟨#[97, 98, 99]⟩, 0, 0, ⟨#[98, 99]⟩, ⟨#[97]⟩⟩,
  ⟨⟨#[100, 105, 118]⟩, ⟨#[97, 98, 99]⟩, 0, 0, ⟨#[98, 99]⟩, ⟨#[97]⟩⟩,
  ⟨⟨#[109, 111, 100]⟩, ⟨#[97, 98, 99]⟩, 0, 0, ⟨#[98, 99]⟩, ⟨#[97]⟩⟩,
  ⟨⟨#[97, 110, 100]⟩, ⟨#[97, 98, 99]⟩, 0, 0, ⟨#[98, 99]⟩, ⟨#[97]⟩⟩,
  ⟨⟨#[111, 114]⟩, ⟨#[97, 98, 99]⟩, 0, 0, ⟨#[98, 99]⟩, ⟨#[97]⟩⟩,
  ⟨⟨#[120, 111, 114]⟩, ⟨#[97, 98, 99]⟩, 0, 0, ⟨#[98, 99]⟩, ⟨#[97]⟩⟩,
  ⟨⟨#[115, 104, 108]⟩, ⟨#[97, 98, 99]⟩, 0, 0, ⟨#[98, 99]⟩, ⟨#[97]⟩⟩,
  ⟨⟨#[115, 104, 114]⟩, ⟨#[97, 98, 99]⟩, 0, 0, ⟨#[98, 99]⟩, ⟨#[97]⟩⟩,
  ⟨⟨#[101, 113]⟩, ⟨#[97, 98, 99]⟩, 0, 0, ⟨#[98, 99]⟩, ⟨#[97]⟩⟩,
  ⟨⟨#[108, 116]⟩, ⟨#[97, 98, 99]⟩, 0, 0, ⟨#[98, 99]⟩, ⟨#[97]⟩⟩,
  ⟨⟨#[108, 105]⟩, ⟨#[97, 105]⟩, -131072, 131071, ⟨#[]⟩, ⟨#[97]⟩⟩,
  ⟨⟨#[97, 100, 100, 105]⟩, ⟨#[97, 98, 105]⟩, -131072, 131071, ⟨#[98]⟩, ⟨#[97]⟩⟩,
  ⟨⟨#[115, 104, 108, 105]⟩, ⟨#[97, 98, 105]⟩, 0, 31, ⟨#[98]⟩, ⟨#[97]⟩⟩,
  ⟨⟨#[111, 114, 105]⟩, ⟨#[97, 98, 105]⟩, 0, 16383, ⟨#[98]⟩, ⟨#[97]⟩⟩,
  ⟨⟨#[108, 100]⟩, ⟨#[97, 98, 105]⟩, -131072, 131071, ⟨#[98]⟩, ⟨#[97]⟩⟩,
  ⟨⟨#[115, 116]⟩, ⟨#[97, 98, 105]⟩, -131072, 131071, ⟨#[97, 98]⟩, ⟨#[]⟩⟩,
  ⟨⟨#[108, 100, 115]⟩, ⟨#[97, 98, 105]⟩, -131072, 131071, ⟨#[98]⟩, ⟨#[97]⟩⟩,
  ⟨⟨#[115, 116, 115]⟩, ⟨#[97, 98, 105]⟩, -131072, 131071, ⟨#[97, 98]⟩, ⟨#[]⟩⟩,
  ⟨⟨#[98, 101, 113, 122]⟩, ⟨#[97, 105]⟩, -131072, 131071, ⟨#[97]⟩, ⟨#[]⟩⟩,
  ⟨⟨#[98, 110, 101, 122]⟩, ⟨#[97, 105]⟩, -131072, 131071, ⟨#[97]⟩, ⟨#[]⟩⟩,
  ⟨⟨#[106, 109, 112]⟩, ⟨#[105]⟩, -131072, 131071, ⟨#[]⟩, ⟨#[]⟩⟩,
  ⟨⟨#[98, 111, 117, 110, 100]⟩, ⟨#[97, 105]⟩, 1, 131071, ⟨#[97]⟩, ⟨#[]⟩⟩,
  ⟨⟨#[105, 110]⟩, ⟨#[97, 105]⟩, 0, 7, ⟨#[]⟩, ⟨#[97]⟩⟩,
  ⟨⟨#[111, 117, 116]⟩, ⟨#[97, 105]⟩, 0, 7, ⟨#[97]⟩, ⟨#[]⟩⟩,
  ⟨⟨#[108, 111, 99, 107]⟩, ⟨#[105]⟩, 0, 3, ⟨#[]⟩, ⟨#[]⟩⟩,
  ⟨⟨#[117, 110, 108, 111, 99, 107]⟩, ⟨#[105]⟩, 0, 3, ⟨#[]⟩, ⟨#[]⟩⟩]

theorem rows_tab : isa_rows.f 20 = some tab := by kernel_rfl

/-- the row of an opcode (an empty one where there is none) -/
def rowOf (op : Int) : S71 := rd_T71 tab op

theorem find_tells (op : Int) (h0 : 0 ≤ op) (h1 : op ≤ 255) : isa_find.f 20 op = some ((rowOf op).f0, (rowOf op).f1, (rowOf op).f2, (rowOf op).f3, (rowOf op).f4, (rowOf op).f5, decide (op < 30)) := by
  have hl : tab.length = 30 := rfl
  have hw : wrap64 op = op := by unfold wrap64; omega
  unfold isa_find.f
  rw [rows_tab]; simp only [Option.bind_some]
  rw [hw, hl]
  by_cases h : op < 30
  · rw [if_neg (by omega), if_pos h0, if_pos (by omega)]
    simp [h, rowOf]
  · have hz : rowOf op = z71 := by
      unfold rowOf rd_T71
      rw [List.getD_eq_getElem?_getD, List.getElem?_eq_none (by rw [hl]; omega)]; rfl
    rw [if_pos (by omega), hz]
    simp [h, z71]

theorem find_any (op : Int) (h0 : 0 ≤ op) (h1 : op ≤ 255) (w : World) :
    Calls Try.prog 51 #[.int .u8 op] w fun e w' => e = .returned (.tuple #[.agg #[.string (rowOf op).f0, .string (rowOf op).f1, .int .i64 (rowOf op).f2, .int .i64 (rowOf op).f3, .string (rowOf op).f4, .string (rowOf op).f5], .bool (decide (op < 30))]) ∧ Below w.heap.size w w' :=
  isa_find.calls 20 op _ _ _ _ _ _ _ w (find_tells op h0 h1)
end Go.Proofs.Ytgjpenhfechhcaa
