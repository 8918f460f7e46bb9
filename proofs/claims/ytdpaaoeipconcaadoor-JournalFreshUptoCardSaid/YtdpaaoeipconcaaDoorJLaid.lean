/- The journal's table as the rows list it: what its cells hold; a world for the witness. No conditions. -/
import Derived.Test.YtdpaaoeipconcaaDoorCards
import Derived.Test.YtdpaaoeipconcaaDoorTie
import Derived.Test.YtdpaaoeipconcaaDoorJArgs
import Derived.Deep.DeepHandedRow
import Derived.Lib.LaidTab
namespace Go.Proofs.YtdpaaoeipconcaaDoor
open Go.ChangeShapes Go.WideShapes Go.ChangeAt Go.RowKit

theorem own_knob : ownKnob Tryd.prog.godebug = none := by kernel_rfl
theorem gTab : Tryd.prog.globalNamed "weft/journal.steps" = some 0 := by kernel_rfl
theorem gTabType : (Tryd.prog.globals[0]?).map (·.type) = some 129 := by kernel_rfl
theorem cellsArr : Tryd.prog.cellsOf 129 = 16 := by kernel_rfl
theorem cells74 : Tryd.prog.cellsOf 74 = 1 := by kernel_rfl

/-- What the rows list. -/
def laidL : List (String × DataW Unit) := [("weft/journal.steps", Rows.laid_weft_journal_steps)]

/-- What the list gives: the table's cells. -/
theorem tab_of_laid {W : World} (h : laidMetH Tryd.prog laidL W) : Tab W := fun i hi => by
  have ht : Lib.TabIs Tryd.prog W "weft/journal.steps" .u32 [0, 498536548, 997073096, 651767980, 1994146192, 1802195444, 1303535960, 1342533948, 3988292384, 4027552580, 3604390888, 3412177804, 2607071920, 2262029012, 2685067896, 3183342108] :=
    Lib.tabIs_of_head (rest := []) gTab gTabType Tryd.underlying129 Tryd.underlying74 cells74 cellsArr h
  have hc := ht.cell gTab i (by simpa using hi)
  rw [hc]
  have he : ∀ i, i < 16 → ([0, 498536548, 997073096, 651767980, 1994146192, 1802195444, 1303535960, 1342533948, 3988292384, 4027552580, 3604390888, 3412177804, 2607071920, 2262029012, 2685067896, 3183342108] : List Int).getD i 0 = ((tab[i]! : Nat) : Int) := by decide
  rw [he i hi]

/-- A world in which the table holds what its initialiser lays. -/
noncomputable def laidWorld (os : Os) : World :=
  { World.holding Tryd.prog os ⟨#[], #[], []⟩ with heap := (World.holding Tryd.prog os ⟨#[], #[], []⟩).heap.modify 0 fun
      | .cells _ t frozen => .cells #[.int .u32 0, .int .u32 498536548, .int .u32 997073096, .int .u32 651767980, .int .u32 1994146192, .int .u32 1802195444, .int .u32 1303535960, .int .u32 1342533948, .int .u32 3988292384, .int .u32 4027552580, .int .u32 3604390888, .int .u32 3412177804, .int .u32 2607071920, .int .u32 2262029012, .int .u32 2685067896, .int .u32 3183342108] t frozen
      | o => o }
theorem laid_met (os : Os) (args : Array Value) : laidMet Tryd.prog laidL ((laidWorld os).forCall (fun _ _ => 0) ⟨#[], args, []⟩).memory :=
  laidMet_of_run' 8 (by kernel_rfl) (by kernel_rfl)
end Go.Proofs.YtdpaaoeipconcaaDoor
