/-
  NARROWER THAN 'FOR EVERY INPUT', by the rows' own cells (each row's printed sentence says how): HyperValids: laid · HyperPaths: laid · HyperWalks: laid · HyperCovers: laid · HyperComponents: laid · HyperParts: laid · HyperCuts: laid · HyperOf: laid.
  DERIVED. THE GIVEN ROWS OF THIS SEAT. 8 by the template 'for every input the law returns true; each argument reads behind the call as it read before'; 0 by the template 'total and deterministic' (their statements: YtaongngoacbodaaDoorTotals.lean).
  GIVEN WITH THE SEED: the statements are not yours to turn. If you find one false, say at which input.
  Laid BY PROGRAM, IN A SANDBOX (cutbox-rows.mjs): the forced cells as the released guide's own fill.sh prints them over the translation 9a238fa97f7a7128… (all of the seat's roots in one cut). By AI agents, Wed Nov 11 2026. No macro, syntax, notation, axiom, sorry.
-/
import Derived.Test.YtaongngoacbodaaDoorChecked
import GoSem.Claim
import GoSem.ClaimJoined
import GoSem.ClaimMapViews
import Derived.JoinedTies
import Derived.KernelRfl
namespace Go.Proofs.YtaongngoacbodaaDoor
/- THE CELL 'sum', in the pinned program and in every row, IS THE sha256 OF THE DUMP (.gsa) THAT YtaongngoacbodaaDoorProg.lean LOADS. Nothing in Lean hashes anything: it is a label: what it is worth is what the hold of that sum in a sandbox is worth. -/
noncomputable def Tryd.pinned : Pinned := { name := "ytaongngoacbodaadoor", sum := "9a238fa97f7a71281a0c05857a0ab336bd20a76950637338bf5a2edeef9fb940", checked := Tryd.checked }
namespace Rows
def none {H : Type} : Left H := { results := [], args := [] }

/- WHAT THE LISTED PACKAGE-LEVEL VARIABLES READ AS WHEN THE CALL BEGINS. Each datum BY PROGRAM (the guide's laid-datum.mjs) off the statement by which the dump's own 'gosem.cut.vars' lays the variable. In a bare row this is a premise. The card (YtaongngoacbodaaDoorCards.lean) ties it to the program's text. -/
def laid_math_bits_deBruijn32tab {H : Type} : DataW H := .agg [.lit (.int .u8 0), .lit (.int .u8 1), .lit (.int .u8 28), .lit (.int .u8 2), .lit (.int .u8 29), .lit (.int .u8 14), .lit (.int .u8 24), .lit (.int .u8 3), .lit (.int .u8 30), .lit (.int .u8 22), .lit (.int .u8 20), .lit (.int .u8 15), .lit (.int .u8 25), .lit (.int .u8 17), .lit (.int .u8 4), .lit (.int .u8 8), .lit (.int .u8 31), .lit (.int .u8 27), .lit (.int .u8 13), .lit (.int .u8 23), .lit (.int .u8 21), .lit (.int .u8 19), .lit (.int .u8 16), .lit (.int .u8 7), .lit (.int .u8 26), .lit (.int .u8 12), .lit (.int .u8 18), .lit (.int .u8 6), .lit (.int .u8 11), .lit (.int .u8 5), .lit (.int .u8 10), .lit (.int .u8 9)]

/-- 'osierlaw14.HyperValids': WHATEVER THE INPUT: true; the input reads as it did. -/
def hyperValidsSpec : ChangeSpec := { name := "hyperValids", fn := fun _ => fun
  | [d] => { results := [.lit (.bool true)], args := [d] }
  | _ => none }
def hyperValidsRow : OpenClaim := { program := "ytaongngoacbodaadoor", sum := "9a238fa97f7a71281a0c05857a0ab336bd20a76950637338bf5a2edeef9fb940", func := "osier/osierlaw14.HyperValids", spec := "hyperValids", unfollowed := true, recurses := true, named := ["math/bits.deBruijn32tab"], apart := false, laid := [("math/bits.deBruijn32tab", laid_math_bits_deBruijn32tab)] }
def HyperValidsSaid : Prop := hyperValidsRow.holds Tryd.pinned (OpenSpec.ofChange hyperValidsSpec)

/-- ITS FALSE NEIGHBOUR: 'it returns false'. Refute it at one input. -/
def hyperValidsWrong : ChangeSpec := { name := "hyperValids", fn := fun _ => fun
  | [d] => { results := [.lit (.bool false)], args := [d] }
  | _ => none }
def HyperValidsWrongFalsely : Prop := hyperValidsRow.holds Tryd.pinned (OpenSpec.ofChange hyperValidsWrong)

/-- 'osierlaw14.HyperPaths': WHATEVER THE INPUT: true; the input reads as it did. -/
def hyperPathsSpec : ChangeSpec := { name := "hyperPaths", fn := fun _ => fun
  | [d] => { results := [.lit (.bool true)], args := [d] }
  | _ => none }
def hyperPathsRow : OpenClaim := { program := "ytaongngoacbodaadoor", sum := "9a238fa97f7a71281a0c05857a0ab336bd20a76950637338bf5a2edeef9fb940", func := "osier/osierlaw14.HyperPaths", spec := "hyperPaths", unfollowed := true, recurses := true, named := ["math/bits.deBruijn32tab"], apart := false, laid := [("math/bits.deBruijn32tab", laid_math_bits_deBruijn32tab)] }
def HyperPathsSaid : Prop := hyperPathsRow.holds Tryd.pinned (OpenSpec.ofChange hyperPathsSpec)

/-- ITS FALSE NEIGHBOUR: 'it returns false'. Refute it at one input. -/
def hyperPathsWrong : ChangeSpec := { name := "hyperPaths", fn := fun _ => fun
  | [d] => { results := [.lit (.bool false)], args := [d] }
  | _ => none }
def HyperPathsWrongFalsely : Prop := hyperPathsRow.holds Tryd.pinned (OpenSpec.ofChange hyperPathsWrong)

/-- 'osierlaw14.HyperWalks': WHATEVER THE INPUT: true; the input reads as it did. -/
def hyperWalksSpec : ChangeSpec := { name := "hyperWalks", fn := fun _ => fun
  | [d] => { results := [.lit (.bool true)], args := [d] }
  | _ => none }
def hyperWalksRow : OpenClaim := { program := "ytaongngoacbodaadoor", sum := "9a238fa97f7a71281a0c05857a0ab336bd20a76950637338bf5a2edeef9fb940", func := "osier/osierlaw14.HyperWalks", spec := "hyperWalks", unfollowed := true, recurses := true, named := ["math/bits.deBruijn32tab"], apart := false, laid := [("math/bits.deBruijn32tab", laid_math_bits_deBruijn32tab)] }
def HyperWalksSaid : Prop := hyperWalksRow.holds Tryd.pinned (OpenSpec.ofChange hyperWalksSpec)

/-- ITS FALSE NEIGHBOUR: 'it returns false'. Refute it at one input. -/
def hyperWalksWrong : ChangeSpec := { name := "hyperWalks", fn := fun _ => fun
  | [d] => { results := [.lit (.bool false)], args := [d] }
  | _ => none }
def HyperWalksWrongFalsely : Prop := hyperWalksRow.holds Tryd.pinned (OpenSpec.ofChange hyperWalksWrong)

/-- 'osierlaw14.HyperCovers': WHATEVER THE INPUT: true; the input reads as it did. -/
def hyperCoversSpec : ChangeSpec := { name := "hyperCovers", fn := fun _ => fun
  | [d] => { results := [.lit (.bool true)], args := [d] }
  | _ => none }
def hyperCoversRow : OpenClaim := { program := "ytaongngoacbodaadoor", sum := "9a238fa97f7a71281a0c05857a0ab336bd20a76950637338bf5a2edeef9fb940", func := "osier/osierlaw14.HyperCovers", spec := "hyperCovers", unfollowed := true, recurses := true, named := ["math/bits.deBruijn32tab"], apart := false, laid := [("math/bits.deBruijn32tab", laid_math_bits_deBruijn32tab)] }
def HyperCoversSaid : Prop := hyperCoversRow.holds Tryd.pinned (OpenSpec.ofChange hyperCoversSpec)

/-- ITS FALSE NEIGHBOUR: 'it returns false'. Refute it at one input. -/
def hyperCoversWrong : ChangeSpec := { name := "hyperCovers", fn := fun _ => fun
  | [d] => { results := [.lit (.bool false)], args := [d] }
  | _ => none }
def HyperCoversWrongFalsely : Prop := hyperCoversRow.holds Tryd.pinned (OpenSpec.ofChange hyperCoversWrong)

/-- 'osierlaw14.HyperComponents': WHATEVER THE INPUT: true; the input reads as it did. -/
def hyperComponentsSpec : ChangeSpec := { name := "hyperComponents", fn := fun _ => fun
  | [d] => { results := [.lit (.bool true)], args := [d] }
  | _ => none }
def hyperComponentsRow : OpenClaim := { program := "ytaongngoacbodaadoor", sum := "9a238fa97f7a71281a0c05857a0ab336bd20a76950637338bf5a2edeef9fb940", func := "osier/osierlaw14.HyperComponents", spec := "hyperComponents", unfollowed := true, recurses := true, named := ["math/bits.deBruijn32tab"], apart := false, laid := [("math/bits.deBruijn32tab", laid_math_bits_deBruijn32tab)] }
def HyperComponentsSaid : Prop := hyperComponentsRow.holds Tryd.pinned (OpenSpec.ofChange hyperComponentsSpec)

/-- ITS FALSE NEIGHBOUR: 'it returns false'. Refute it at one input. -/
def hyperComponentsWrong : ChangeSpec := { name := "hyperComponents", fn := fun _ => fun
  | [d] => { results := [.lit (.bool false)], args := [d] }
  | _ => none }
def HyperComponentsWrongFalsely : Prop := hyperComponentsRow.holds Tryd.pinned (OpenSpec.ofChange hyperComponentsWrong)

/-- 'osierlaw14.HyperParts': WHATEVER THE INPUT: true; the input reads as it did. -/
def hyperPartsSpec : ChangeSpec := { name := "hyperParts", fn := fun _ => fun
  | [d] => { results := [.lit (.bool true)], args := [d] }
  | _ => none }
def hyperPartsRow : OpenClaim := { program := "ytaongngoacbodaadoor", sum := "9a238fa97f7a71281a0c05857a0ab336bd20a76950637338bf5a2edeef9fb940", func := "osier/osierlaw14.HyperParts", spec := "hyperParts", unfollowed := true, recurses := true, named := ["math/bits.deBruijn32tab"], apart := false, laid := [("math/bits.deBruijn32tab", laid_math_bits_deBruijn32tab)] }
def HyperPartsSaid : Prop := hyperPartsRow.holds Tryd.pinned (OpenSpec.ofChange hyperPartsSpec)

/-- ITS FALSE NEIGHBOUR: 'it returns false'. Refute it at one input. -/
def hyperPartsWrong : ChangeSpec := { name := "hyperParts", fn := fun _ => fun
  | [d] => { results := [.lit (.bool false)], args := [d] }
  | _ => none }
def HyperPartsWrongFalsely : Prop := hyperPartsRow.holds Tryd.pinned (OpenSpec.ofChange hyperPartsWrong)

/-- 'osierlaw14.HyperCuts': WHATEVER THE INPUT: true; the input reads as it did. -/
def hyperCutsSpec : ChangeSpec := { name := "hyperCuts", fn := fun _ => fun
  | [d1, d2, d3] => { results := [.lit (.bool true)], args := [d1, d2, d3] }
  | _ => none }
def hyperCutsRow : OpenClaim := { program := "ytaongngoacbodaadoor", sum := "9a238fa97f7a71281a0c05857a0ab336bd20a76950637338bf5a2edeef9fb940", func := "osier/osierlaw14.HyperCuts", spec := "hyperCuts", unfollowed := true, recurses := true, named := ["math/bits.deBruijn32tab"], apart := false, laid := [("math/bits.deBruijn32tab", laid_math_bits_deBruijn32tab)] }
def HyperCutsSaid : Prop := hyperCutsRow.holds Tryd.pinned (OpenSpec.ofChange hyperCutsSpec)

/-- ITS FALSE NEIGHBOUR: 'it returns false'. Refute it at one input. -/
def hyperCutsWrong : ChangeSpec := { name := "hyperCuts", fn := fun _ => fun
  | [d1, d2, d3] => { results := [.lit (.bool false)], args := [d1, d2, d3] }
  | _ => none }
def HyperCutsWrongFalsely : Prop := hyperCutsRow.holds Tryd.pinned (OpenSpec.ofChange hyperCutsWrong)

/-- 'osierlaw14.HyperOf': WHATEVER THE INPUT: true; the input reads as it did. -/
def hyperOfSpec : ChangeSpec := { name := "hyperOf", fn := fun _ => fun
  | [d] => { results := [.lit (.bool true)], args := [d] }
  | _ => none }
def hyperOfRow : OpenClaim := { program := "ytaongngoacbodaadoor", sum := "9a238fa97f7a71281a0c05857a0ab336bd20a76950637338bf5a2edeef9fb940", func := "osier/osierlaw14.HyperOf", spec := "hyperOf", unfollowed := true, recurses := true, named := ["math/bits.deBruijn32tab"], apart := false, laid := [("math/bits.deBruijn32tab", laid_math_bits_deBruijn32tab)] }
def HyperOfSaid : Prop := hyperOfRow.holds Tryd.pinned (OpenSpec.ofChange hyperOfSpec)

/-- ITS FALSE NEIGHBOUR: 'it returns false'. Refute it at one input. -/
def hyperOfWrong : ChangeSpec := { name := "hyperOf", fn := fun _ => fun
  | [d] => { results := [.lit (.bool false)], args := [d] }
  | _ => none }
def HyperOfWrongFalsely : Prop := hyperOfRow.holds Tryd.pinned (OpenSpec.ofChange hyperOfWrong)

/- THE SECOND FORM. 'bulk': how many values and letters a reading holds, each counted each time it is reached (what is shared counts as often as it is met; a slice's spare places count too). A statement '..UptoSaid' is the law's where the arguments, and the package variables that the reading takes, are together of bulk at most 1048576: NARROWER than '..Said'. Prove '..Said' where nothing that the law and all that it calls make is longer than what came in: it says more and counts as full. Else prove '..UptoSaid'. A law counts once. -/
mutual
def uptoBulk {H : Type} : DataW H → Nat
  | .lit (.string bytes) => bytes.length + 1
  | .lit _ => 1
  | .nil => 1
  | .ptr d => uptoBulk d + 1
  | .slice elems spare => uptoBulkAll elems + uptoBulkAll spare + 1
  | .agg parts => uptoBulkAll parts + 1
  | .iface _ d => uptoBulk d + 1
  | .map entries => uptoBulkEntries entries + 1
  | .held _ => 1
def uptoBulkAll {H : Type} : List (DataW H) → Nat
  | [] => 0
  | d :: r => uptoBulk d + uptoBulkAll r
def uptoBulkEntries {H : Type} : List (Lit × DataW H) → Nat
  | [] => 0
  | x :: r => uptoBulkEntry x + uptoBulkEntries r
def uptoBulkEntry {H : Type} : Lit × DataW H → Nat
  | (.string bytes, d) => bytes.length + uptoBulk d + 1
  | (_, d) => uptoBulk d + 1
 end
def uptoSmall : (H : Type) → List (DataW H) → Bool := fun _ ds => decide (uptoBulkAll ds ≤ 1048576)
def OpenSpec.upto (s : _root_.Go.ChangeSpec) : _root_.Go.OpenSpec := { _root_.Go.OpenSpec.ofChange s with cond := some uptoSmall }

/-- 'osierlaw14.HyperValids', WHERE WHAT IT READS IS OF BULK AT MOST 1048576: true; the input reads as it did. -/
def hyperValidsUptoRow : OpenClaim := { program := "ytaongngoacbodaadoor", sum := "9a238fa97f7a71281a0c05857a0ab336bd20a76950637338bf5a2edeef9fb940", func := "osier/osierlaw14.HyperValids", spec := "hyperValids", unfollowed := true, recurses := true, named := ["math/bits.deBruijn32tab"], apart := false, laid := [("math/bits.deBruijn32tab", laid_math_bits_deBruijn32tab)], narrowed := true }
def HyperValidsUptoSaid : Prop := hyperValidsUptoRow.holds Tryd.pinned (OpenSpec.upto hyperValidsSpec)

/-- 'osierlaw14.HyperPaths', WHERE WHAT IT READS IS OF BULK AT MOST 1048576: true; the input reads as it did. -/
def hyperPathsUptoRow : OpenClaim := { program := "ytaongngoacbodaadoor", sum := "9a238fa97f7a71281a0c05857a0ab336bd20a76950637338bf5a2edeef9fb940", func := "osier/osierlaw14.HyperPaths", spec := "hyperPaths", unfollowed := true, recurses := true, named := ["math/bits.deBruijn32tab"], apart := false, laid := [("math/bits.deBruijn32tab", laid_math_bits_deBruijn32tab)], narrowed := true }
def HyperPathsUptoSaid : Prop := hyperPathsUptoRow.holds Tryd.pinned (OpenSpec.upto hyperPathsSpec)

/-- 'osierlaw14.HyperWalks', WHERE WHAT IT READS IS OF BULK AT MOST 1048576: true; the input reads as it did. -/
def hyperWalksUptoRow : OpenClaim := { program := "ytaongngoacbodaadoor", sum := "9a238fa97f7a71281a0c05857a0ab336bd20a76950637338bf5a2edeef9fb940", func := "osier/osierlaw14.HyperWalks", spec := "hyperWalks", unfollowed := true, recurses := true, named := ["math/bits.deBruijn32tab"], apart := false, laid := [("math/bits.deBruijn32tab", laid_math_bits_deBruijn32tab)], narrowed := true }
def HyperWalksUptoSaid : Prop := hyperWalksUptoRow.holds Tryd.pinned (OpenSpec.upto hyperWalksSpec)

/-- 'osierlaw14.HyperCovers', WHERE WHAT IT READS IS OF BULK AT MOST 1048576: true; the input reads as it did. -/
def hyperCoversUptoRow : OpenClaim := { program := "ytaongngoacbodaadoor", sum := "9a238fa97f7a71281a0c05857a0ab336bd20a76950637338bf5a2edeef9fb940", func := "osier/osierlaw14.HyperCovers", spec := "hyperCovers", unfollowed := true, recurses := true, named := ["math/bits.deBruijn32tab"], apart := false, laid := [("math/bits.deBruijn32tab", laid_math_bits_deBruijn32tab)], narrowed := true }
def HyperCoversUptoSaid : Prop := hyperCoversUptoRow.holds Tryd.pinned (OpenSpec.upto hyperCoversSpec)

/-- 'osierlaw14.HyperComponents', WHERE WHAT IT READS IS OF BULK AT MOST 1048576: true; the input reads as it did. -/
def hyperComponentsUptoRow : OpenClaim := { program := "ytaongngoacbodaadoor", sum := "9a238fa97f7a71281a0c05857a0ab336bd20a76950637338bf5a2edeef9fb940", func := "osier/osierlaw14.HyperComponents", spec := "hyperComponents", unfollowed := true, recurses := true, named := ["math/bits.deBruijn32tab"], apart := false, laid := [("math/bits.deBruijn32tab", laid_math_bits_deBruijn32tab)], narrowed := true }
def HyperComponentsUptoSaid : Prop := hyperComponentsUptoRow.holds Tryd.pinned (OpenSpec.upto hyperComponentsSpec)

/-- 'osierlaw14.HyperParts', WHERE WHAT IT READS IS OF BULK AT MOST 1048576: true; the input reads as it did. -/
def hyperPartsUptoRow : OpenClaim := { program := "ytaongngoacbodaadoor", sum := "9a238fa97f7a71281a0c05857a0ab336bd20a76950637338bf5a2edeef9fb940", func := "osier/osierlaw14.HyperParts", spec := "hyperParts", unfollowed := true, recurses := true, named := ["math/bits.deBruijn32tab"], apart := false, laid := [("math/bits.deBruijn32tab", laid_math_bits_deBruijn32tab)], narrowed := true }
def HyperPartsUptoSaid : Prop := hyperPartsUptoRow.holds Tryd.pinned (OpenSpec.upto hyperPartsSpec)

/-- 'osierlaw14.HyperCuts', WHERE WHAT IT READS IS OF BULK AT MOST 1048576: true; the input reads as it did. -/
def hyperCutsUptoRow : OpenClaim := { program := "ytaongngoacbodaadoor", sum := "9a238fa97f7a71281a0c05857a0ab336bd20a76950637338bf5a2edeef9fb940", func := "osier/osierlaw14.HyperCuts", spec := "hyperCuts", unfollowed := true, recurses := true, named := ["math/bits.deBruijn32tab"], apart := false, laid := [("math/bits.deBruijn32tab", laid_math_bits_deBruijn32tab)], narrowed := true }
def HyperCutsUptoSaid : Prop := hyperCutsUptoRow.holds Tryd.pinned (OpenSpec.upto hyperCutsSpec)

/-- 'osierlaw14.HyperOf', WHERE WHAT IT READS IS OF BULK AT MOST 1048576: true; the input reads as it did. -/
def hyperOfUptoRow : OpenClaim := { program := "ytaongngoacbodaadoor", sum := "9a238fa97f7a71281a0c05857a0ab336bd20a76950637338bf5a2edeef9fb940", func := "osier/osierlaw14.HyperOf", spec := "hyperOf", unfollowed := true, recurses := true, named := ["math/bits.deBruijn32tab"], apart := false, laid := [("math/bits.deBruijn32tab", laid_math_bits_deBruijn32tab)], narrowed := true }
def HyperOfUptoSaid : Prop := hyperOfUptoRow.holds Tryd.pinned (OpenSpec.upto hyperOfSpec)

end Rows
end Go.Proofs.YtaongngoacbodaaDoor
