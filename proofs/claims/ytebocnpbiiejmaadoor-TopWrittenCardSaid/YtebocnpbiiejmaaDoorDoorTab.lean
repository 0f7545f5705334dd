/- What the rows' list gives: the table lies where the program laid it; a world for the witness. -/
import Derived.Test.YtebocnpbiiejmaaDoorSum
import Derived.Test.YtebocnpbiiejmaaDoorFrame
import Derived.Test.YtebocnpbiiejmaaDoorCards
import Derived.Test.YtebocnpbiiejmaaDoorTie
import Derived.Deep.DeepHandedRow
import Derived.Lib.LaidTab
namespace Go.Proofs.YtebocnpbiiejmaaDoor
open Go.ChangeShapes Go.WideShapes Go.ChangeAt Go.RowKit

theorem gTab : Tryd.prog.globalNamed "primer/frame.halves" = some 1 := by kernel_rfl
theorem gTabType : (Tryd.prog.globals[1]?).map (·.type) = some 128 := by kernel_rfl
theorem cellsTab : Tryd.prog.cellsOf 128 = 16 := by kernel_rfl
theorem cellsU32 : Tryd.prog.cellsOf 118 = 1 := by kernel_rfl
def tabZ : List Int := [0, 498536548, 997073096, 651767980, 1994146192, 1802195444, 1303535960, 1342533948, 3988292384, 4027552580, 3604390888, 3412177804, 2607071920, 2262029012, 2685067896, 3183342108]
theorem tab_of {W : World} (h : laidMetH Tryd.prog [("primer/frame.halves", Rows.laid_primer_frame_halves)] W) : Tab W := by
  have ht : Lib.TabIs Tryd.prog W "primer/frame.halves" .u32 tabZ := Lib.tabIs_of_head (rest := []) gTab gTabType Tryd.underlying128 Tryd.underlying118 cellsU32 cellsTab h
  intro i hi
  have := ht.cell gTab i hi
  rw [this]
  have key : ∀ j : Fin 16, tabZ.getD j.val 0 = (((Crc.H.getD j.val 0#32).toNat : Nat) : Int) := by decide
  have k : tabZ.getD i 0 = (((Crc.H.getD i 0#32).toNat : Nat) : Int) := key ⟨i, hi⟩
  rw [k]

/-- The settled world, the table holding what its initialiser lays. -/
noncomputable def laidWorld (os : Os) : World :=
  { World.holding Tryd.prog os ⟨#[], #[], []⟩ with heap := (World.holding Tryd.prog os ⟨#[], #[], []⟩).heap.modify 1 fun
      | .cells _ t frozen => .cells (tabZ.map (Value.int .u32)).toArray t frozen
      | o => o }
end Go.Proofs.YtebocnpbiiejmaaDoor
