/-
  DERIVED. GIVEN WITH THE SEED: THE CARDS: each row of YtdemmjofggemhaaGreatDoorRows.lean that lists a variable, with what it lists TIED to the program's text (the seventh form; the later family's looks); each row that meets fmt, with fmt's text TOLD by the authors' own Lean function (tested against real Go, not proved from fmt's source: count such statements apart). THE CARD IS WHAT COUNTS. Prove the row's statement (the work); the ties are given (YtdemmjofggemhaaGreatDoorTie.lean); close each card by the builder's one call (the guide's Derived/Test/ToyasCard.lean, 'card_holds'). Laid BY PROGRAM, IN A SANDBOX (cutbox-door.mjs). By AI agents, Wed Nov 11 2026. No macro, syntax, notation, axiom, sorry.
-/
import Derived.Test.YtdemmjofggemhaaGreatDoorRows
import GoSem.ClaimSeven
namespace Go.Proofs.YtdemmjofggemhaaGreatDoor
namespace Rows

/-- THE TIED CARD OF 'osierlaw18.PlanFlat'. -/
def planFlatCard : Claim7 := { stood := { row := planFlatRow, standIns := [], harness := (true, "86b085d3e5030447da6eec9349ce5c5a0c690bfc85981beae45dce67cbcf539e"), looks := false }, kinds := [], alts := [], laidByText := true, laidKinds := [.data], laidTests := true, laidLooks := .later }
def PlanFlatCardSaid : Prop := Claim7.holds Tryz.pinned (.plain (OpenSpec.ofChange planFlatSpec)) planFlatCard

/-- THE TIED CARD OF 'osierlaw18.PlanChecks'. -/
def planChecksCard : Claim7 := { stood := { row := planChecksRow, standIns := [], harness := (true, "86b085d3e5030447da6eec9349ce5c5a0c690bfc85981beae45dce67cbcf539e"), looks := false }, kinds := [], alts := [], laidByText := true, laidKinds := [.data], laidTests := true, laidLooks := .later }
def PlanChecksCardSaid : Prop := Claim7.holds Tryz.pinned (.plain (OpenSpec.ofChange planChecksSpec)) planChecksCard

/-- THE TIED CARD OF 'osierlaw18.PlanMade'. -/
def planMadeCard : Claim7 := { stood := { row := planMadeRow, standIns := [], harness := (true, "86b085d3e5030447da6eec9349ce5c5a0c690bfc85981beae45dce67cbcf539e"), looks := false }, kinds := [], alts := [], laidByText := true, laidKinds := [.data], laidTests := true, laidLooks := .later }
def PlanMadeCardSaid : Prop := Claim7.holds Tryz.pinned (.plain (OpenSpec.ofChange planMadeSpec)) planMadeCard

/-- THE SECOND FORM's CARD OF 'osierlaw18.PlanFlat'. -/
def planFlatUptoCard : Claim7 := { stood := { row := planFlatUptoRow, standIns := [], harness := (true, "86b085d3e5030447da6eec9349ce5c5a0c690bfc85981beae45dce67cbcf539e"), looks := false }, kinds := [], alts := [], laidByText := true, laidKinds := [.data], laidTests := true, laidLooks := .later }
def PlanFlatUptoCardSaid : Prop := Claim7.holds Tryz.pinned (.plain (OpenSpec.upto planFlatSpec)) planFlatUptoCard

/-- THE SECOND FORM's CARD OF 'osierlaw18.PlanChecks'. -/
def planChecksUptoCard : Claim7 := { stood := { row := planChecksUptoRow, standIns := [], harness := (true, "86b085d3e5030447da6eec9349ce5c5a0c690bfc85981beae45dce67cbcf539e"), looks := false }, kinds := [], alts := [], laidByText := true, laidKinds := [.data], laidTests := true, laidLooks := .later }
def PlanChecksUptoCardSaid : Prop := Claim7.holds Tryz.pinned (.plain (OpenSpec.upto planChecksSpec)) planChecksUptoCard

/-- THE SECOND FORM's CARD OF 'osierlaw18.PlanMade'. -/
def planMadeUptoCard : Claim7 := { stood := { row := planMadeUptoRow, standIns := [], harness := (true, "86b085d3e5030447da6eec9349ce5c5a0c690bfc85981beae45dce67cbcf539e"), looks := false }, kinds := [], alts := [], laidByText := true, laidKinds := [.data], laidTests := true, laidLooks := .later }
def PlanMadeUptoCardSaid : Prop := Claim7.holds Tryz.pinned (.plain (OpenSpec.upto planMadeSpec)) planMadeUptoCard
end Rows
end Go.Proofs.YtdemmjofggemhaaGreatDoor
