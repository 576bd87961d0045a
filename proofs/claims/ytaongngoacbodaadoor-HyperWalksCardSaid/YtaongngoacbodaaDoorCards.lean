/-
  DERIVED. GIVEN WITH THE SEED: THE CARDS: each row of YtaongngoacbodaaDoorRows.lean that lists a variable, with what it lists TIED to the program's text (the seventh form; the later family's looks); each row that meets fmt, with fmt's text TOLD by the authors' own Lean function (tested against real Go, not proved from fmt's source: count such statements apart). THE CARD IS WHAT COUNTS. Prove the row's statement (the work); the ties are given (YtaongngoacbodaaDoorTie.lean); close each card by the builder's one call (the guide's Derived/Test/ToyasCard.lean, 'card_holds'). Laid BY PROGRAM, IN A SANDBOX (cutbox-door.mjs). By AI agents, Wed Nov 11 2026. No macro, syntax, notation, axiom, sorry.
-/
import Derived.Test.YtaongngoacbodaaDoorRows
import GoSem.ClaimSeven
namespace Go.Proofs.YtaongngoacbodaaDoor
namespace Rows

/-- THE TIED CARD OF 'osierlaw14.HyperValids'. -/
def hyperValidsCard : Claim7 := { stood := { row := hyperValidsRow, standIns := [], harness := (true, "78ae6756137f1f1c901221ea7f30c96f50c207e9289c234d5a4f069c9372f850"), looks := false }, kinds := [], alts := [], laidByText := true, laidKinds := [.data], laidTests := true, laidLooks := .later }
def HyperValidsCardSaid : Prop := Claim7.holds Tryd.pinned (.plain (OpenSpec.ofChange hyperValidsSpec)) hyperValidsCard

/-- THE TIED CARD OF 'osierlaw14.HyperPaths'. -/
def hyperPathsCard : Claim7 := { stood := { row := hyperPathsRow, standIns := [], harness := (true, "78ae6756137f1f1c901221ea7f30c96f50c207e9289c234d5a4f069c9372f850"), looks := false }, kinds := [], alts := [], laidByText := true, laidKinds := [.data], laidTests := true, laidLooks := .later }
def HyperPathsCardSaid : Prop := Claim7.holds Tryd.pinned (.plain (OpenSpec.ofChange hyperPathsSpec)) hyperPathsCard

/-- THE TIED CARD OF 'osierlaw14.HyperWalks'. -/
def hyperWalksCard : Claim7 := { stood := { row := hyperWalksRow, standIns := [], harness := (true, "78ae6756137f1f1c901221ea7f30c96f50c207e9289c234d5a4f069c9372f850"), looks := false }, kinds := [], alts := [], laidByText := true, laidKinds := [.data], laidTests := true, laidLooks := .later }
def HyperWalksCardSaid : Prop := Claim7.holds Tryd.pinned (.plain (OpenSpec.ofChange hyperWalksSpec)) hyperWalksCard

/-- THE TIED CARD OF 'osierlaw14.HyperCovers'. -/
def hyperCoversCard : Claim7 := { stood := { row := hyperCoversRow, standIns := [], harness := (true, "78ae6756137f1f1c901221ea7f30c96f50c207e9289c234d5a4f069c9372f850"), looks := false }, kinds := [], alts := [], laidByText := true, laidKinds := [.data], laidTests := true, laidLooks := .later }
def HyperCoversCardSaid : Prop := Claim7.holds Tryd.pinned (.plain (OpenSpec.ofChange hyperCoversSpec)) hyperCoversCard

/-- THE TIED CARD OF 'osierlaw14.HyperComponents'. -/
def hyperComponentsCard : Claim7 := { stood := { row := hyperComponentsRow, standIns := [], harness := (true, "78ae6756137f1f1c901221ea7f30c96f50c207e9289c234d5a4f069c9372f850"), looks := false }, kinds := [], alts := [], laidByText := true, laidKinds := [.data], laidTests := true, laidLooks := .later }
def HyperComponentsCardSaid : Prop := Claim7.holds Tryd.pinned (.plain (OpenSpec.ofChange hyperComponentsSpec)) hyperComponentsCard

/-- THE TIED CARD OF 'osierlaw14.HyperParts'. -/
def hyperPartsCard : Claim7 := { stood := { row := hyperPartsRow, standIns := [], harness := (true, "78ae6756137f1f1c901221ea7f30c96f50c207e9289c234d5a4f069c9372f850"), looks := false }, kinds := [], alts := [], laidByText := true, laidKinds := [.data], laidTests := true, laidLooks := .later }
def HyperPartsCardSaid : Prop := Claim7.holds Tryd.pinned (.plain (OpenSpec.ofChange hyperPartsSpec)) hyperPartsCard

/-- THE TIED CARD OF 'osierlaw14.HyperCuts'. -/
def hyperCutsCard : Claim7 := { stood := { row := hyperCutsRow, standIns := [], harness := (true, "78ae6756137f1f1c901221ea7f30c96f50c207e9289c234d5a4f069c9372f850"), looks := false }, kinds := [], alts := [], laidByText := true, laidKinds := [.data], laidTests := true, laidLooks := .later }
def HyperCutsCardSaid : Prop := Claim7.holds Tryd.pinned (.plain (OpenSpec.ofChange hyperCutsSpec)) hyperCutsCard

/-- THE TIED CARD OF 'osierlaw14.HyperOf'. -/
def hyperOfCard : Claim7 := { stood := { row := hyperOfRow, standIns := [], harness := (true, "78ae6756137f1f1c901221ea7f30c96f50c207e9289c234d5a4f069c9372f850"), looks := false }, kinds := [], alts := [], laidByText := true, laidKinds := [.data], laidTests := true, laidLooks := .later }
def HyperOfCardSaid : Prop := Claim7.holds Tryd.pinned (.plain (OpenSpec.ofChange hyperOfSpec)) hyperOfCard

/-- THE SECOND FORM's CARD OF 'osierlaw14.HyperValids'. -/
def hyperValidsUptoCard : Claim7 := { stood := { row := hyperValidsUptoRow, standIns := [], harness := (true, "78ae6756137f1f1c901221ea7f30c96f50c207e9289c234d5a4f069c9372f850"), looks := false }, kinds := [], alts := [], laidByText := true, laidKinds := [.data], laidTests := true, laidLooks := .later }
def HyperValidsUptoCardSaid : Prop := Claim7.holds Tryd.pinned (.plain (OpenSpec.upto hyperValidsSpec)) hyperValidsUptoCard

/-- THE SECOND FORM's CARD OF 'osierlaw14.HyperPaths'. -/
def hyperPathsUptoCard : Claim7 := { stood := { row := hyperPathsUptoRow, standIns := [], harness := (true, "78ae6756137f1f1c901221ea7f30c96f50c207e9289c234d5a4f069c9372f850"), looks := false }, kinds := [], alts := [], laidByText := true, laidKinds := [.data], laidTests := true, laidLooks := .later }
def HyperPathsUptoCardSaid : Prop := Claim7.holds Tryd.pinned (.plain (OpenSpec.upto hyperPathsSpec)) hyperPathsUptoCard

/-- THE SECOND FORM's CARD OF 'osierlaw14.HyperWalks'. -/
def hyperWalksUptoCard : Claim7 := { stood := { row := hyperWalksUptoRow, standIns := [], harness := (true, "78ae6756137f1f1c901221ea7f30c96f50c207e9289c234d5a4f069c9372f850"), looks := false }, kinds := [], alts := [], laidByText := true, laidKinds := [.data], laidTests := true, laidLooks := .later }
def HyperWalksUptoCardSaid : Prop := Claim7.holds Tryd.pinned (.plain (OpenSpec.upto hyperWalksSpec)) hyperWalksUptoCard

/-- THE SECOND FORM's CARD OF 'osierlaw14.HyperCovers'. -/
def hyperCoversUptoCard : Claim7 := { stood := { row := hyperCoversUptoRow, standIns := [], harness := (true, "78ae6756137f1f1c901221ea7f30c96f50c207e9289c234d5a4f069c9372f850"), looks := false }, kinds := [], alts := [], laidByText := true, laidKinds := [.data], laidTests := true, laidLooks := .later }
def HyperCoversUptoCardSaid : Prop := Claim7.holds Tryd.pinned (.plain (OpenSpec.upto hyperCoversSpec)) hyperCoversUptoCard

/-- THE SECOND FORM's CARD OF 'osierlaw14.HyperComponents'. -/
def hyperComponentsUptoCard : Claim7 := { stood := { row := hyperComponentsUptoRow, standIns := [], harness := (true, "78ae6756137f1f1c901221ea7f30c96f50c207e9289c234d5a4f069c9372f850"), looks := false }, kinds := [], alts := [], laidByText := true, laidKinds := [.data], laidTests := true, laidLooks := .later }
def HyperComponentsUptoCardSaid : Prop := Claim7.holds Tryd.pinned (.plain (OpenSpec.upto hyperComponentsSpec)) hyperComponentsUptoCard

/-- THE SECOND FORM's CARD OF 'osierlaw14.HyperParts'. -/
def hyperPartsUptoCard : Claim7 := { stood := { row := hyperPartsUptoRow, standIns := [], harness := (true, "78ae6756137f1f1c901221ea7f30c96f50c207e9289c234d5a4f069c9372f850"), looks := false }, kinds := [], alts := [], laidByText := true, laidKinds := [.data], laidTests := true, laidLooks := .later }
def HyperPartsUptoCardSaid : Prop := Claim7.holds Tryd.pinned (.plain (OpenSpec.upto hyperPartsSpec)) hyperPartsUptoCard

/-- THE SECOND FORM's CARD OF 'osierlaw14.HyperCuts'. -/
def hyperCutsUptoCard : Claim7 := { stood := { row := hyperCutsUptoRow, standIns := [], harness := (true, "78ae6756137f1f1c901221ea7f30c96f50c207e9289c234d5a4f069c9372f850"), looks := false }, kinds := [], alts := [], laidByText := true, laidKinds := [.data], laidTests := true, laidLooks := .later }
def HyperCutsUptoCardSaid : Prop := Claim7.holds Tryd.pinned (.plain (OpenSpec.upto hyperCutsSpec)) hyperCutsUptoCard

/-- THE SECOND FORM's CARD OF 'osierlaw14.HyperOf'. -/
def hyperOfUptoCard : Claim7 := { stood := { row := hyperOfUptoRow, standIns := [], harness := (true, "78ae6756137f1f1c901221ea7f30c96f50c207e9289c234d5a4f069c9372f850"), looks := false }, kinds := [], alts := [], laidByText := true, laidKinds := [.data], laidTests := true, laidLooks := .later }
def HyperOfUptoCardSaid : Prop := Claim7.holds Tryd.pinned (.plain (OpenSpec.upto hyperOfSpec)) hyperOfUptoCard
end Rows
end Go.Proofs.YtaongngoacbodaaDoor
