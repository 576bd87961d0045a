/- The listed table of math/bits, and a world that holds it. -/
import Derived.Test.YtdemmjofggemhaaDoorOpenA
import Derived.Test.YtdemmjofggemhaaDoorTie
import Derived.Test.YtdemmjofggemhaaDoorCards
import Derived.Test.YtdemmjofggemhaaDoorBA
import Derived.Lib.LaidTab
namespace Go.Proofs.YtdemmjofggemhaaDoor
open Go.ChangeShapes Go.WideShapes Go.ChangeAt Go.RowKit Go.Joins

/-! ### The listed table -/
theorem gTab : Tryd.prog.globalNamed "math/bits.deBruijn32tab" = some 0 := by kernel_rfl
theorem gTabType : (Tryd.prog.globals[0]?).map (·.type) = some 122 := by kernel_rfl
theorem cellsTab : Tryd.prog.cellsOf 122 = 32 := by kernel_rfl
theorem cellsU8 : Tryd.prog.cellsOf 5 = 1 := by kernel_rfl
theorem table_ {W : World} (h : laidMetH Tryd.prog [("math/bits.deBruijn32tab", Rows.laid_math_bits_deBruijn32tab)] W) : Tab W := by
  have ht : Lib.TabIs Tryd.prog W "math/bits.deBruijn32tab" .u8 (Lib.deBruijn32tab.map fun (n : Nat) => (n : Int)) :=
    Lib.tabIs_of_head (rest := []) gTab gTabType Tryd.underlying122 Tryd.underlying5 cellsU8 cellsTab h
  intro k hk
  have h1 := ht.cell gTab k (by simpa [Lib.deBruijn32tab] using hk)
  rw [h1]
  have h2 : k < Lib.deBruijn32tab.length := by simpa [Lib.deBruijn32tab] using hk
  simp [h2]
/-- A world for the witness: the settled one, the table holding what its initialiser lays. -/
noncomputable def laidWorld (os : Os) : World :=
  { World.holding Tryd.prog os ⟨#[], #[], []⟩ with heap := (World.holding Tryd.prog os ⟨#[], #[], []⟩).heap.modify 0 fun
      | .cells _ t frozen => .cells (Lib.deBruijn32tab.map fun (n : Nat) => Value.int .u8 (n : Int)).toArray t frozen
      | o => o }

end Go.Proofs.YtdemmjofggemhaaDoor
