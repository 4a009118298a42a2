/-
  The table of nibbles as the rows list it, and a world that holds it.
-/
import Derived.Test.YtlfdpkgggoafaaaDoorSealR
import Derived.Test.YtlfdpkgggoafaaaDoorLift
namespace Go.Proofs.YtlfdpkgggoafaaaDoor
open Go.ChangeShapes Go.WideShapes Go.ChangeAt Go.RowKit

theorem gTab : Tryd.prog.globalNamed "warren/seal.nibble" = some 0 := by kernel_rfl
theorem gTabType : (Tryd.prog.globals[0]?).map (·.type) = some 56 := by kernel_rfl
theorem cellsTab : Tryd.prog.cellsOf 56 = 16 := by kernel_rfl
theorem cellsU32 : Tryd.prog.cellsOf 25 = 1 := by kernel_rfl
theorem cellsU8 : Tryd.prog.cellsOf 5 = 1 := by kernel_rfl
theorem bytesU8 : Tryd.prog.bytesOf 5 = 1 := by kernel_rfl

/-- What the rows' list gives: the table's cells hold its numbers. -/
theorem tab_of {W : World} (h : laidMetH Tryd.prog Rows.sealSumsRow.laid W) : Tab W := by
  have ht : Lib.TabIs Tryd.prog W "warren/seal.nibble" .u32 (Crc.nibs.map fun n : Nat => (n : Int)) := Lib.tabIs_of_head (rest := []) gTab gTabType Tryd.underlying56 Tryd.underlying25 cellsU32 cellsTab h
  intro i hi
  have h1 := ht.cell gTab i (by simpa [Crc.nibs] using hi)
  rw [h1]
  unfold Crc.nib
  rw [List.getD_eq_getElem?_getD, List.getElem?_map, List.getD_eq_getElem?_getD]
  have : i < Crc.nibs.length := by simpa [Crc.nibs] using hi
  simp [List.getElem?_eq_getElem this]

/-- A world for the witness: the table as its initialiser lays it. -/
noncomputable def laidWorld (os : Os) : World :=
  { World.holding Tryd.prog os ⟨#[], #[], []⟩ with heap := (World.holding Tryd.prog os ⟨#[], #[], []⟩).heap.modify 0 fun
      | .cells _ t frozen => .cells #[.int .u32 0, .int .u32 274646895, .int .u32 549293790, .int .u32 820201905, .int .u32 1098587580, .int .u32 1361435347, .int .u32 1640403810, .int .u32 1905808397, .int .u32 2197175160, .int .u32 2460548119, .int .u32 2722870694, .int .u32 2987750089, .int .u32 3280807620, .int .u32 3553878443, .int .u32 3811616794, .int .u32 4084100981] t frozen
      | o => o }

end Go.Proofs.YtlfdpkgggoafaaaDoor
