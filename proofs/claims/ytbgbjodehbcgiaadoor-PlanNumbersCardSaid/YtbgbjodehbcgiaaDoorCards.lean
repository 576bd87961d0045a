/-
  DERIVED. GIVEN WITH THE SEED: THE CARDS: each row of YtbgbjodehbcgiaaDoorRows.lean that lists a variable, with what it lists TIED to the program's text (the seventh form; the later family's looks); each row that meets fmt, with fmt's text TOLD by the authors' own Lean function (tested against real Go, not proved from fmt's source: count such statements apart). THE CARD IS WHAT COUNTS. Prove the row's statement (the work); the ties are given (YtbgbjodehbcgiaaDoorTie.lean); close each card by the builder's one call (the guide's Derived/Test/ToyasCard.lean, 'card_holds'). Laid BY PROGRAM, IN A SANDBOX (cutbox-door.mjs). By AI agents, Wed Nov 11 2026. No macro, syntax, notation, axiom, sorry.
-/
import Derived.Test.YtbgbjodehbcgiaaDoorRows
import GoSem.ClaimSeven
namespace Go.Proofs.YtbgbjodehbcgiaaDoor
namespace Rows

/-- THE TIED CARD OF 'osierlaw14.HyperOf'. -/
def hyperOfCard : Claim7 := { stood := { row := hyperOfRow, standIns := [], harness := (true, "fd7634b3979d447b758a2666026ad85d07aab4ba9b0fd5d40dd3fd3473dffa37"), looks := false }, kinds := [], alts := [], laidByText := true, laidKinds := [.data], laidTests := true, laidLooks := .later }
def HyperOfCardSaid : Prop := Claim7.holds Tryd.pinned (.plain (OpenSpec.ofChange hyperOfSpec)) hyperOfCard

/-- THE TIED CARD OF 'osierlaw17.ClassifyPaths'. -/
def classifyPathsCard : Claim7 := { stood := { row := classifyPathsRow, standIns := [], harness := (true, "fd7634b3979d447b758a2666026ad85d07aab4ba9b0fd5d40dd3fd3473dffa37"), looks := false }, kinds := [], alts := [], laidByText := true, laidKinds := [.data], laidTests := true, laidLooks := .later }
def ClassifyPathsCardSaid : Prop := Claim7.holds Tryd.pinned (.plain (OpenSpec.ofChange classifyPathsSpec)) classifyPathsCard

/-- THE TIED CARD OF 'osierlaw17.ClassifyShown'. -/
def classifyShownCard : Claim7 := { stood := { row := classifyShownRow, standIns := [], harness := (true, "fd7634b3979d447b758a2666026ad85d07aab4ba9b0fd5d40dd3fd3473dffa37"), looks := false }, kinds := [], alts := [], laidByText := true, laidKinds := [.data], laidTests := true, laidLooks := .later }
def ClassifyShownCardSaid : Prop := Claim7.holds Tryd.pinned (.plain (OpenSpec.ofChange classifyShownSpec)) classifyShownCard

/-- THE TIED CARD OF 'osierlaw18.PlanNamed'. -/
def planNamedCard : Claim7 := { stood := { row := planNamedRow, standIns := [], harness := (true, "fd7634b3979d447b758a2666026ad85d07aab4ba9b0fd5d40dd3fd3473dffa37"), looks := false }, kinds := [], alts := [], laidByText := true, laidKinds := [.data], laidTests := true, laidLooks := .later }
def PlanNamedCardSaid : Prop := Claim7.holds Tryd.pinned (.plain (OpenSpec.ofChange planNamedSpec)) planNamedCard

/-- THE TIED CARD OF 'osierlaw18.PlanNumbers'. -/
def planNumbersCard : Claim7 := { stood := { row := planNumbersRow, standIns := [], harness := (true, "fd7634b3979d447b758a2666026ad85d07aab4ba9b0fd5d40dd3fd3473dffa37"), looks := false }, kinds := [], alts := [], laidByText := true, laidKinds := [.data], laidTests := true, laidLooks := .later }
def PlanNumbersCardSaid : Prop := Claim7.holds Tryd.pinned (.plain (OpenSpec.ofChange planNumbersSpec)) planNumbersCard

/-- THE TIED CARD OF 'osierlaw18.PlanBounds'. -/
def planBoundsCard : Claim7 := { stood := { row := planBoundsRow, standIns := [], harness := (true, "fd7634b3979d447b758a2666026ad85d07aab4ba9b0fd5d40dd3fd3473dffa37"), looks := false }, kinds := [], alts := [], laidByText := true, laidKinds := [.data], laidTests := true, laidLooks := .later }
def PlanBoundsCardSaid : Prop := Claim7.holds Tryd.pinned (.plain (OpenSpec.ofChange planBoundsSpec)) planBoundsCard

/-- THE SECOND FORM's CARD OF 'osierlaw14.HyperOf'. -/
def hyperOfUptoCard : Claim7 := { stood := { row := hyperOfUptoRow, standIns := [], harness := (true, "fd7634b3979d447b758a2666026ad85d07aab4ba9b0fd5d40dd3fd3473dffa37"), looks := false }, kinds := [], alts := [], laidByText := true, laidKinds := [.data], laidTests := true, laidLooks := .later }
def HyperOfUptoCardSaid : Prop := Claim7.holds Tryd.pinned (.plain (OpenSpec.upto hyperOfSpec)) hyperOfUptoCard

/-- THE SECOND FORM's CARD OF 'osierlaw17.ClassifyPaths'. -/
def classifyPathsUptoCard : Claim7 := { stood := { row := classifyPathsUptoRow, standIns := [], harness := (true, "fd7634b3979d447b758a2666026ad85d07aab4ba9b0fd5d40dd3fd3473dffa37"), looks := false }, kinds := [], alts := [], laidByText := true, laidKinds := [.data], laidTests := true, laidLooks := .later }
def ClassifyPathsUptoCardSaid : Prop := Claim7.holds Tryd.pinned (.plain (OpenSpec.upto classifyPathsSpec)) classifyPathsUptoCard

/-- THE SECOND FORM's CARD OF 'osierlaw17.ClassifyShown'. -/
def classifyShownUptoCard : Claim7 := { stood := { row := classifyShownUptoRow, standIns := [], harness := (true, "fd7634b3979d447b758a2666026ad85d07aab4ba9b0fd5d40dd3fd3473dffa37"), looks := false }, kinds := [], alts := [], laidByText := true, laidKinds := [.data], laidTests := true, laidLooks := .later }
def ClassifyShownUptoCardSaid : Prop := Claim7.holds Tryd.pinned (.plain (OpenSpec.upto classifyShownSpec)) classifyShownUptoCard

/-- THE SECOND FORM's CARD OF 'osierlaw18.PlanNamed'. -/
def planNamedUptoCard : Claim7 := { stood := { row := planNamedUptoRow, standIns := [], harness := (true, "fd7634b3979d447b758a2666026ad85d07aab4ba9b0fd5d40dd3fd3473dffa37"), looks := false }, kinds := [], alts := [], laidByText := true, laidKinds := [.data], laidTests := true, laidLooks := .later }
def PlanNamedUptoCardSaid : Prop := Claim7.holds Tryd.pinned (.plain (OpenSpec.upto planNamedSpec)) planNamedUptoCard

/-- THE SECOND FORM's CARD OF 'osierlaw18.PlanNumbers'. -/
def planNumbersUptoCard : Claim7 := { stood := { row := planNumbersUptoRow, standIns := [], harness := (true, "fd7634b3979d447b758a2666026ad85d07aab4ba9b0fd5d40dd3fd3473dffa37"), looks := false }, kinds := [], alts := [], laidByText := true, laidKinds := [.data], laidTests := true, laidLooks := .later }
def PlanNumbersUptoCardSaid : Prop := Claim7.holds Tryd.pinned (.plain (OpenSpec.upto planNumbersSpec)) planNumbersUptoCard

/-- THE SECOND FORM's CARD OF 'osierlaw18.PlanBounds'. -/
def planBoundsUptoCard : Claim7 := { stood := { row := planBoundsUptoRow, standIns := [], harness := (true, "fd7634b3979d447b758a2666026ad85d07aab4ba9b0fd5d40dd3fd3473dffa37"), looks := false }, kinds := [], alts := [], laidByText := true, laidKinds := [.data], laidTests := true, laidLooks := .later }
def PlanBoundsUptoCardSaid : Prop := Claim7.holds Tryd.pinned (.plain (OpenSpec.upto planBoundsSpec)) planBoundsUptoCard
end Rows
end Go.Proofs.YtbgbjodehbcgiaaDoor
