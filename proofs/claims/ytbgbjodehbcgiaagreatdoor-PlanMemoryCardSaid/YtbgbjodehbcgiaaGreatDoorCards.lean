/-
  DERIVED. GIVEN WITH THE SEED: THE CARDS: each row of YtbgbjodehbcgiaaGreatDoorRows.lean that lists a variable, with what it lists TIED to the program's text (the seventh form; the later family's looks); each row that meets fmt, with fmt's text TOLD by the authors' own Lean function (tested against real Go, not proved from fmt's source: count such statements apart). THE CARD IS WHAT COUNTS. Prove the row's statement (the work); the ties are given (YtbgbjodehbcgiaaGreatDoorTie.lean); close each card by the builder's one call (the guide's Derived/Test/ToyasCard.lean, 'card_holds'). Laid BY PROGRAM, IN A SANDBOX (cutbox-door.mjs). By AI agents, Wed Nov 11 2026. No macro, syntax, notation, axiom, sorry.
-/
import Derived.Test.YtbgbjodehbcgiaaGreatDoorRows
import GoSem.ClaimSeven
namespace Go.Proofs.YtbgbjodehbcgiaaGreatDoor
namespace Rows

/-- THE TIED CARD OF 'osierlaw18.PlanMakes'. -/
def planMakesCard : Claim7 := { stood := { row := planMakesRow, standIns := [], harness := (true, "0b14c18d2b3a13c5472436162265ae1a8a69ea7d453989b9477dbc11964669da"), looks := false }, kinds := [], alts := [], laidByText := true, laidKinds := [.data], laidTests := true, laidLooks := .later }
def PlanMakesCardSaid : Prop := Claim7.holds Tryz.pinned (.plain (OpenSpec.ofChange planMakesSpec)) planMakesCard

/-- THE TIED CARD OF 'osierlaw18.PlanFlat'. -/
def planFlatCard : Claim7 := { stood := { row := planFlatRow, standIns := [], harness := (true, "0b14c18d2b3a13c5472436162265ae1a8a69ea7d453989b9477dbc11964669da"), looks := false }, kinds := [], alts := [], laidByText := true, laidKinds := [.data], laidTests := true, laidLooks := .later }
def PlanFlatCardSaid : Prop := Claim7.holds Tryz.pinned (.plain (OpenSpec.ofChange planFlatSpec)) planFlatCard

/-- THE TIED CARD OF 'osierlaw18.PlanMemory'. -/
def planMemoryCard : Claim7 := { stood := { row := planMemoryRow, standIns := [], harness := (true, "0b14c18d2b3a13c5472436162265ae1a8a69ea7d453989b9477dbc11964669da"), looks := false }, kinds := [], alts := [], laidByText := true, laidKinds := [.data], laidTests := true, laidLooks := .later }
def PlanMemoryCardSaid : Prop := Claim7.holds Tryz.pinned (.plain (OpenSpec.ofChange planMemorySpec)) planMemoryCard

/-- THE TIED CARD OF 'osierlaw18.PlanChecks'. -/
def planChecksCard : Claim7 := { stood := { row := planChecksRow, standIns := [], harness := (true, "0b14c18d2b3a13c5472436162265ae1a8a69ea7d453989b9477dbc11964669da"), looks := false }, kinds := [], alts := [], laidByText := true, laidKinds := [.data], laidTests := true, laidLooks := .later }
def PlanChecksCardSaid : Prop := Claim7.holds Tryz.pinned (.plain (OpenSpec.ofChange planChecksSpec)) planChecksCard

/-- THE TIED CARD OF 'osierlaw18.PlanMade'. -/
def planMadeCard : Claim7 := { stood := { row := planMadeRow, standIns := [], harness := (true, "0b14c18d2b3a13c5472436162265ae1a8a69ea7d453989b9477dbc11964669da"), looks := false }, kinds := [], alts := [], laidByText := true, laidKinds := [.data], laidTests := true, laidLooks := .later }
def PlanMadeCardSaid : Prop := Claim7.holds Tryz.pinned (.plain (OpenSpec.ofChange planMadeSpec)) planMadeCard

/-- THE SECOND FORM's CARD OF 'osierlaw18.PlanMakes'. -/
def planMakesUptoCard : Claim7 := { stood := { row := planMakesUptoRow, standIns := [], harness := (true, "0b14c18d2b3a13c5472436162265ae1a8a69ea7d453989b9477dbc11964669da"), looks := false }, kinds := [], alts := [], laidByText := true, laidKinds := [.data], laidTests := true, laidLooks := .later }
def PlanMakesUptoCardSaid : Prop := Claim7.holds Tryz.pinned (.plain (OpenSpec.upto planMakesSpec)) planMakesUptoCard

/-- THE SECOND FORM's CARD OF 'osierlaw18.PlanFlat'. -/
def planFlatUptoCard : Claim7 := { stood := { row := planFlatUptoRow, standIns := [], harness := (true, "0b14c18d2b3a13c5472436162265ae1a8a69ea7d453989b9477dbc11964669da"), looks := false }, kinds := [], alts := [], laidByText := true, laidKinds := [.data], laidTests := true, laidLooks := .later }
def PlanFlatUptoCardSaid : Prop := Claim7.holds Tryz.pinned (.plain (OpenSpec.upto planFlatSpec)) planFlatUptoCard

/-- THE SECOND FORM's CARD OF 'osierlaw18.PlanMemory'. -/
def planMemoryUptoCard : Claim7 := { stood := { row := planMemoryUptoRow, standIns := [], harness := (true, "0b14c18d2b3a13c5472436162265ae1a8a69ea7d453989b9477dbc11964669da"), looks := false }, kinds := [], alts := [], laidByText := true, laidKinds := [.data], laidTests := true, laidLooks := .later }
def PlanMemoryUptoCardSaid : Prop := Claim7.holds Tryz.pinned (.plain (OpenSpec.upto planMemorySpec)) planMemoryUptoCard

/-- THE SECOND FORM's CARD OF 'osierlaw18.PlanChecks'. -/
def planChecksUptoCard : Claim7 := { stood := { row := planChecksUptoRow, standIns := [], harness := (true, "0b14c18d2b3a13c5472436162265ae1a8a69ea7d453989b9477dbc11964669da"), looks := false }, kinds := [], alts := [], laidByText := true, laidKinds := [.data], laidTests := true, laidLooks := .later }
def PlanChecksUptoCardSaid : Prop := Claim7.holds Tryz.pinned (.plain (OpenSpec.upto planChecksSpec)) planChecksUptoCard

/-- THE SECOND FORM's CARD OF 'osierlaw18.PlanMade'. -/
def planMadeUptoCard : Claim7 := { stood := { row := planMadeUptoRow, standIns := [], harness := (true, "0b14c18d2b3a13c5472436162265ae1a8a69ea7d453989b9477dbc11964669da"), looks := false }, kinds := [], alts := [], laidByText := true, laidKinds := [.data], laidTests := true, laidLooks := .later }
def PlanMadeUptoCardSaid : Prop := Claim7.holds Tryz.pinned (.plain (OpenSpec.upto planMadeSpec)) planMadeUptoCard
end Rows
end Go.Proofs.YtbgbjodehbcgiaaGreatDoor
