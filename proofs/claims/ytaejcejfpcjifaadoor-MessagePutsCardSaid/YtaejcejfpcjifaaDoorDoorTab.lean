/- What the rows' list gives: the table lies where the program laid it; a world for the witness. -/
import Derived.Test.YtaejcejfpcjifaaDoorSum
import Derived.Test.YtaejcejfpcjifaaDoorFrame
import Derived.Test.YtaejcejfpcjifaaDoorCards
import Derived.Test.YtaejcejfpcjifaaDoorTie
import Derived.Deep.DeepHandedRow
import Derived.Lib.LaidTab
namespace Go.Proofs.YtaejcejfpcjifaaDoor
open Go.ChangeShapes Go.WideShapes Go.ChangeAt Go.RowKit

theorem gTab : Tryd.prog.globalNamed "primer/frame.halves" = some 0 := by kernel_rfl
theorem gTabType : (Tryd.prog.globals[0]?).map (·.type) = some 115 := by kernel_rfl
theorem cellsTab : Tryd.prog.cellsOf 115 = 16 := by kernel_rfl
theorem cellsU32 : Tryd.prog.cellsOf 92 = 1 := by kernel_rfl
def tabZ : List Int := [0, 498536548, 997073096, 651767980, 1994146192, 1802195444, 1303535960, 1342533948, 3988292384, 4027552580, 3604390888, 3412177804, 2607071920, 2262029012, 2685067896, 3183342108]
theorem tab_of {W : World} (h : laidMetH Tryd.prog [("primer/frame.halves", Rows.laid_primer_frame_halves)] W) : Tab W := by
  have ht : Lib.TabIs Tryd.prog W "primer/frame.halves" .u32 tabZ := Lib.tabIs_of_head (rest := []) gTab gTabType Tryd.underlying115 Tryd.underlying92 cellsU32 cellsTab h
  intro i hi
  have := ht.cell gTab i hi
  rw [this]
  have key : ∀ j : Fin 16, tabZ.getD j.val 0 = (((Crc.H.getD j.val 0#32).toNat : Nat) : Int) := by decide
  have k : tabZ.getD i 0 = (((Crc.H.getD i 0#32).toNat : Nat) : Int) := key ⟨i, hi⟩
  rw [k]

/-- The settled world, the table holding what its initialiser lays. -/
noncomputable def laidWorld (os : Os) : World :=
  { World.holding Tryd.prog os ⟨#[], #[], []⟩ with heap := (World.holding Tryd.prog os ⟨#[], #[], []⟩).heap.modify 0 fun
      | .cells _ t frozen => .cells (tabZ.map (Value.int .u32)).toArray t frozen
      | o => o }
end Go.Proofs.YtaejcejfpcjifaaDoor
