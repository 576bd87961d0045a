/- The listed table of math/bits, and a world that holds it. -/
import Derived.Test.YtdemmjofggemhaaGreatDoorOpenA
import Derived.Test.YtdemmjofggemhaaGreatDoorTie
import Derived.Test.YtdemmjofggemhaaGreatDoorCards
import Derived.Test.YtdemmjofggemhaaGreatDoorBA
import Derived.Lib.LaidTab
namespace Go.Proofs.YtdemmjofggemhaaGreatDoor
open Go.ChangeShapes Go.WideShapes Go.ChangeAt Go.RowKit Go.Joins

/-! ### The listed table -/
theorem gTab : Tryz.prog.globalNamed "math/bits.deBruijn32tab" = some 0 := by kernel_rfl
theorem gTabType : (Tryz.prog.globals[0]?).map (·.type) = some 142 := by kernel_rfl
theorem cellsTab : Tryz.prog.cellsOf 142 = 32 := by kernel_rfl
theorem cellsU8 : Tryz.prog.cellsOf 5 = 1 := by kernel_rfl
theorem table_ {W : World} (h : laidMetH Tryz.prog [("math/bits.deBruijn32tab", Rows.laid_math_bits_deBruijn32tab)] W) : Tab W := by
  have ht : Lib.TabIs Tryz.prog W "math/bits.deBruijn32tab" .u8 (Lib.deBruijn32tab.map fun (n : Nat) => (n : Int)) :=
    Lib.tabIs_of_head (rest := []) gTab gTabType Tryz.underlying142 Tryz.underlying5 cellsU8 cellsTab h
  intro k hk
  have h1 := ht.cell gTab k (by simpa [Lib.deBruijn32tab] using hk)
  rw [h1]
  have h2 : k < Lib.deBruijn32tab.length := by simpa [Lib.deBruijn32tab] using hk
  simp [h2]
/-- A world for the witness: the settled one, the table holding what its initialiser lays. -/
noncomputable def laidWorld (os : Os) : World :=
  { World.holding Tryz.prog os ⟨#[], #[], []⟩ with heap := (World.holding Tryz.prog os ⟨#[], #[], []⟩).heap.modify 0 fun
      | .cells _ t frozen => .cells (Lib.deBruijn32tab.map fun (n : Nat) => Value.int .u8 (n : Int)).toArray t frozen
      | o => o }

end Go.Proofs.YtdemmjofggemhaaGreatDoor
