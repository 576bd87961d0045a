/-
  DERIVED. GIVEN WITH THE SEED: THE CARDS: each row of YtdemmjofggemhaaDoorRows.lean that lists a variable, with what it lists TIED to the program's text (the seventh form; the later family's looks); each row that meets fmt, with fmt's text TOLD by the authors' own Lean function (tested against real Go, not proved from fmt's source: count such statements apart). THE CARD IS WHAT COUNTS. Prove the row's statement (the work); the ties are given (YtdemmjofggemhaaDoorTie.lean); close each card by the builder's one call (the guide's Derived/Test/ToyasCard.lean, 'card_holds'). Laid BY PROGRAM, IN A SANDBOX (cutbox-door.mjs). By AI agents, Wed Nov 11 2026. No macro, syntax, notation, axiom, sorry.
-/
import Derived.Test.YtdemmjofggemhaaDoorRows
import GoSem.ClaimSeven
namespace Go.Proofs.YtdemmjofggemhaaDoor
namespace Rows

/-- THE TIED CARD OF 'osierlaw18.PlanNamed'. -/
def planNamedCard : Claim7 := { stood := { row := planNamedRow, standIns := [], harness := (true, "59b285f2571d13a3ffd643010a6d132416a9f88c99fdbaf140219dd4db27eed2"), looks := false }, kinds := [], alts := [], laidByText := true, laidKinds := [.data], laidTests := true, laidLooks := .later }
def PlanNamedCardSaid : Prop := Claim7.holds Tryd.pinned (.plain (OpenSpec.ofChange planNamedSpec)) planNamedCard

/-- THE SECOND FORM's CARD OF 'osierlaw18.PlanNamed'. -/
def planNamedUptoCard : Claim7 := { stood := { row := planNamedUptoRow, standIns := [], harness := (true, "59b285f2571d13a3ffd643010a6d132416a9f88c99fdbaf140219dd4db27eed2"), looks := false }, kinds := [], alts := [], laidByText := true, laidKinds := [.data], laidTests := true, laidLooks := .later }
def PlanNamedUptoCardSaid : Prop := Claim7.holds Tryd.pinned (.plain (OpenSpec.upto planNamedSpec)) planNamedUptoCard
end Rows
end Go.Proofs.YtdemmjofggemhaaDoor
