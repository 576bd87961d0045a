/-
  NARROWER THAN 'FOR EVERY INPUT', by the rows' own cells (each row's printed sentence says how): PlanFlat: laid · PlanChecks: laid · PlanMade: laid.
  DERIVED. THE GIVEN ROWS OF THIS SEAT. 3 by the template 'for every input the law returns true; each argument reads behind the call as it read before'; 0 by the template 'total and deterministic' (their statements: YtdemmjofggemhaaGreatDoorTotals.lean).
  GIVEN WITH THE SEED: the statements are not yours to turn. If you find one false, say at which input.
  Laid BY PROGRAM, IN A SANDBOX (cutbox-rows.mjs): the forced cells as the released guide's own fill.sh prints them over the translation 8b072487f16e355c… (all of the seat's roots in one cut). By AI agents, Wed Nov 11 2026. No macro, syntax, notation, axiom, sorry.
-/
import Derived.Test.YtdemmjofggemhaaGreatDoorChecked
import GoSem.Claim
import GoSem.ClaimJoined
import GoSem.ClaimMapViews
import Derived.JoinedTies
import Derived.KernelRfl
namespace Go.Proofs.YtdemmjofggemhaaGreatDoor
/- THE CELL 'sum', in the pinned program and in every row, IS THE sha256 OF THE DUMP (.gsa) THAT YtdemmjofggemhaaGreatDoorProg.lean LOADS. Nothing in Lean hashes anything: it is a label: what it is worth is what the hold of that sum in a sandbox is worth. -/
noncomputable def Tryz.pinned : Pinned := { name := "ytdemmjofggemhaagreatdoor", sum := "8b072487f16e355c0a17410a9ef17ca284cea8c5a8ef0892eec58e1f11a0f8f0", checked := Tryz.checked }
namespace Rows
def none {H : Type} : Left H := { results := [], args := [] }

/- WHAT THE LISTED PACKAGE-LEVEL VARIABLES READ AS WHEN THE CALL BEGINS. Each datum BY PROGRAM (the guide's laid-datum.mjs) off the statement by which the dump's own 'gosem.cut.vars' lays the variable. In a bare row this is a premise. The card (YtdemmjofggemhaaGreatDoorCards.lean) ties it to the program's text. -/
def laid_math_bits_deBruijn32tab {H : Type} : DataW H := .agg [.lit (.int .u8 0), .lit (.int .u8 1), .lit (.int .u8 28), .lit (.int .u8 2), .lit (.int .u8 29), .lit (.int .u8 14), .lit (.int .u8 24), .lit (.int .u8 3), .lit (.int .u8 30), .lit (.int .u8 22), .lit (.int .u8 20), .lit (.int .u8 15), .lit (.int .u8 25), .lit (.int .u8 17), .lit (.int .u8 4), .lit (.int .u8 8), .lit (.int .u8 31), .lit (.int .u8 27), .lit (.int .u8 13), .lit (.int .u8 23), .lit (.int .u8 21), .lit (.int .u8 19), .lit (.int .u8 16), .lit (.int .u8 7), .lit (.int .u8 26), .lit (.int .u8 12), .lit (.int .u8 18), .lit (.int .u8 6), .lit (.int .u8 11), .lit (.int .u8 5), .lit (.int .u8 10), .lit (.int .u8 9)]

/-- 'osierlaw18.PlanFlat': WHATEVER THE INPUT: true; the input reads as it did. -/
def planFlatSpec : ChangeSpec := { name := "planFlat", fn := fun _ => fun
  | [d] => { results := [.lit (.bool true)], args := [d] }
  | _ => none }
def planFlatRow : OpenClaim := { program := "ytdemmjofggemhaagreatdoor", sum := "8b072487f16e355c0a17410a9ef17ca284cea8c5a8ef0892eec58e1f11a0f8f0", func := "osier/osierlaw18.PlanFlat", spec := "planFlat", unfollowed := true, recurses := true, named := ["math/bits.deBruijn32tab"], apart := false, laid := [("math/bits.deBruijn32tab", laid_math_bits_deBruijn32tab)] }
def PlanFlatSaid : Prop := planFlatRow.holds Tryz.pinned (OpenSpec.ofChange planFlatSpec)

/-- ITS FALSE NEIGHBOUR: 'it returns false'. Refute it at one input. -/
def planFlatWrong : ChangeSpec := { name := "planFlat", fn := fun _ => fun
  | [d] => { results := [.lit (.bool false)], args := [d] }
  | _ => none }
def PlanFlatWrongFalsely : Prop := planFlatRow.holds Tryz.pinned (OpenSpec.ofChange planFlatWrong)

/-- 'osierlaw18.PlanChecks': WHATEVER THE INPUT: true; the input reads as it did. -/
def planChecksSpec : ChangeSpec := { name := "planChecks", fn := fun _ => fun
  | [d1, d2] => { results := [.lit (.bool true)], args := [d1, d2] }
  | _ => none }
def planChecksRow : OpenClaim := { program := "ytdemmjofggemhaagreatdoor", sum := "8b072487f16e355c0a17410a9ef17ca284cea8c5a8ef0892eec58e1f11a0f8f0", func := "osier/osierlaw18.PlanChecks", spec := "planChecks", unfollowed := true, recurses := true, named := ["math/bits.deBruijn32tab"], apart := false, laid := [("math/bits.deBruijn32tab", laid_math_bits_deBruijn32tab)] }
def PlanChecksSaid : Prop := planChecksRow.holds Tryz.pinned (OpenSpec.ofChange planChecksSpec)

/-- ITS FALSE NEIGHBOUR: 'it returns false'. Refute it at one input. -/
def planChecksWrong : ChangeSpec := { name := "planChecks", fn := fun _ => fun
  | [d1, d2] => { results := [.lit (.bool false)], args := [d1, d2] }
  | _ => none }
def PlanChecksWrongFalsely : Prop := planChecksRow.holds Tryz.pinned (OpenSpec.ofChange planChecksWrong)

/-- 'osierlaw18.PlanMade': WHATEVER THE INPUT: true; the input reads as it did. -/
def planMadeSpec : ChangeSpec := { name := "planMade", fn := fun _ => fun
  | [d] => { results := [.lit (.bool true)], args := [d] }
  | _ => none }
def planMadeRow : OpenClaim := { program := "ytdemmjofggemhaagreatdoor", sum := "8b072487f16e355c0a17410a9ef17ca284cea8c5a8ef0892eec58e1f11a0f8f0", func := "osier/osierlaw18.PlanMade", spec := "planMade", unfollowed := true, recurses := true, named := ["math/bits.deBruijn32tab"], apart := false, laid := [("math/bits.deBruijn32tab", laid_math_bits_deBruijn32tab)] }
def PlanMadeSaid : Prop := planMadeRow.holds Tryz.pinned (OpenSpec.ofChange planMadeSpec)

/-- ITS FALSE NEIGHBOUR: 'it returns false'. Refute it at one input. -/
def planMadeWrong : ChangeSpec := { name := "planMade", fn := fun _ => fun
  | [d] => { results := [.lit (.bool false)], args := [d] }
  | _ => none }
def PlanMadeWrongFalsely : Prop := planMadeRow.holds Tryz.pinned (OpenSpec.ofChange planMadeWrong)

/- THE SECOND FORM. 'bulk': how many values and letters a reading holds, each counted each time it is reached (what is shared counts as often as it is met; a slice's spare places count too). A statement '..UptoSaid' is the law's where the arguments, and the package variables that the reading takes, are together of bulk at most 1048576: NARROWER than '..Said'. Prove '..Said' where nothing that the law and all that it calls make is longer than what came in: it says more and counts as full. Else prove '..UptoSaid'. A law counts once. -/
mutual
def uptoBulk {H : Type} : DataW H → Nat
  | .lit (.string bytes) => bytes.length + 1
  | .lit _ => 1
  | .nil => 1
  | .ptr d => uptoBulk d + 1
  | .slice elems spare => uptoBulkAll elems + uptoBulkAll spare + 1
  | .agg parts => uptoBulkAll parts + 1
  | .iface _ d => uptoBulk d + 1
  | .map entries => uptoBulkEntries entries + 1
  | .held _ => 1
def uptoBulkAll {H : Type} : List (DataW H) → Nat
  | [] => 0
  | d :: r => uptoBulk d + uptoBulkAll r
def uptoBulkEntries {H : Type} : List (Lit × DataW H) → Nat
  | [] => 0
  | x :: r => uptoBulkEntry x + uptoBulkEntries r
def uptoBulkEntry {H : Type} : Lit × DataW H → Nat
  | (.string bytes, d) => bytes.length + uptoBulk d + 1
  | (_, d) => uptoBulk d + 1
 end
def uptoSmall : (H : Type) → List (DataW H) → Bool := fun _ ds => decide (uptoBulkAll ds ≤ 1048576)
def OpenSpec.upto (s : _root_.Go.ChangeSpec) : _root_.Go.OpenSpec := { _root_.Go.OpenSpec.ofChange s with cond := some uptoSmall }

/-- 'osierlaw18.PlanFlat', WHERE WHAT IT READS IS OF BULK AT MOST 1048576: true; the input reads as it did. -/
def planFlatUptoRow : OpenClaim := { program := "ytdemmjofggemhaagreatdoor", sum := "8b072487f16e355c0a17410a9ef17ca284cea8c5a8ef0892eec58e1f11a0f8f0", func := "osier/osierlaw18.PlanFlat", spec := "planFlat", unfollowed := true, recurses := true, named := ["math/bits.deBruijn32tab"], apart := false, laid := [("math/bits.deBruijn32tab", laid_math_bits_deBruijn32tab)], narrowed := true }
def PlanFlatUptoSaid : Prop := planFlatUptoRow.holds Tryz.pinned (OpenSpec.upto planFlatSpec)

/-- 'osierlaw18.PlanChecks', WHERE WHAT IT READS IS OF BULK AT MOST 1048576: true; the input reads as it did. -/
def planChecksUptoRow : OpenClaim := { program := "ytdemmjofggemhaagreatdoor", sum := "8b072487f16e355c0a17410a9ef17ca284cea8c5a8ef0892eec58e1f11a0f8f0", func := "osier/osierlaw18.PlanChecks", spec := "planChecks", unfollowed := true, recurses := true, named := ["math/bits.deBruijn32tab"], apart := false, laid := [("math/bits.deBruijn32tab", laid_math_bits_deBruijn32tab)], narrowed := true }
def PlanChecksUptoSaid : Prop := planChecksUptoRow.holds Tryz.pinned (OpenSpec.upto planChecksSpec)

/-- 'osierlaw18.PlanMade', WHERE WHAT IT READS IS OF BULK AT MOST 1048576: true; the input reads as it did. -/
def planMadeUptoRow : OpenClaim := { program := "ytdemmjofggemhaagreatdoor", sum := "8b072487f16e355c0a17410a9ef17ca284cea8c5a8ef0892eec58e1f11a0f8f0", func := "osier/osierlaw18.PlanMade", spec := "planMade", unfollowed := true, recurses := true, named := ["math/bits.deBruijn32tab"], apart := false, laid := [("math/bits.deBruijn32tab", laid_math_bits_deBruijn32tab)], narrowed := true }
def PlanMadeUptoSaid : Prop := planMadeUptoRow.holds Tryz.pinned (OpenSpec.upto planMadeSpec)

end Rows
end Go.Proofs.YtdemmjofggemhaaGreatDoor
