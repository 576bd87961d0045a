/-
  No cell of these rows narrows 'for every input' (looked for: loops, veiled, ifaces, maps, wideKeys, modest, calm, conditions, laid).
  DERIVED. THE GIVEN ROWS OF THIS SEAT. 24 by the template 'for every input the law returns true; each argument reads behind the call as it read before'; 0 by the template 'total and deterministic' (their statements: YtkenbmelhfhidaaTotals.lean).
  GIVEN WITH THE SEED: the statements are not yours to turn. If you find one false, say at which input.
  Laid BY PROGRAM, IN A SANDBOX (cutbox-rows.mjs): the forced cells as the released guide's own fill.sh prints them over the translation 086e12d318fae5b4… (all of the seat's roots in one cut). By AI agents, Wed Nov 11 2026. No macro, syntax, notation, axiom, sorry.
-/
import Derived.Test.YtkenbmelhfhidaaChecked
import GoSem.Claim
import GoSem.ClaimJoined
import GoSem.ClaimMapViews
import Derived.JoinedTies
import Derived.KernelRfl
namespace Go.Proofs.Ytkenbmelhfhidaa
/- THE CELL 'sum', in the pinned program and in every row, IS THE sha256 OF THE DUMP (.gsa) THAT YtkenbmelhfhidaaProg.lean LOADS. Nothing in Lean hashes anything: it is a label: what it is worth is what the hold of that sum in a sandbox is worth. -/
noncomputable def Try.pinned : Pinned := { name := "ytkenbmelhfhidaa", sum := "086e12d318fae5b4114479595d19eb9571aff3e2c901ad816c72bca9f9753a96", checked := Try.checked }
namespace Rows
def none {H : Type} : Left H := { results := [], args := [] }

/-- 'osierlaw16.JointreeChecks': WHATEVER THE INPUT: true; the input reads as it did. -/
def jointreeChecksSpec : ChangeSpec := { name := "jointreeChecks", fn := fun _ => fun
  | [d1, d2] => { results := [.lit (.bool true)], args := [d1, d2] }
  | _ => none }
def jointreeChecksRow : OpenClaim := { program := "ytkenbmelhfhidaa", sum := "086e12d318fae5b4114479595d19eb9571aff3e2c901ad816c72bca9f9753a96", func := "osier/osierlaw16.JointreeChecks", spec := "jointreeChecks", unfollowed := true, recurses := true, apart := false }
def JointreeChecksSaid : Prop := jointreeChecksRow.holds Try.pinned (OpenSpec.ofChange jointreeChecksSpec)

/-- ITS FALSE NEIGHBOUR: 'it returns false'. Refute it at one input. -/
def jointreeChecksWrong : ChangeSpec := { name := "jointreeChecks", fn := fun _ => fun
  | [d1, d2] => { results := [.lit (.bool false)], args := [d1, d2] }
  | _ => none }
def JointreeChecksWrongFalsely : Prop := jointreeChecksRow.holds Try.pinned (OpenSpec.ofChange jointreeChecksWrong)

/-- 'osierlaw16.JointreeBuilds': WHATEVER THE INPUT: true; the input reads as it did. -/
def jointreeBuildsSpec : ChangeSpec := { name := "jointreeBuilds", fn := fun _ => fun
  | [d] => { results := [.lit (.bool true)], args := [d] }
  | _ => none }
def jointreeBuildsRow : OpenClaim := { program := "ytkenbmelhfhidaa", sum := "086e12d318fae5b4114479595d19eb9571aff3e2c901ad816c72bca9f9753a96", func := "osier/osierlaw16.JointreeBuilds", spec := "jointreeBuilds", unfollowed := true, recurses := true, apart := false }
def JointreeBuildsSaid : Prop := jointreeBuildsRow.holds Try.pinned (OpenSpec.ofChange jointreeBuildsSpec)

/-- ITS FALSE NEIGHBOUR: 'it returns false'. Refute it at one input. -/
def jointreeBuildsWrong : ChangeSpec := { name := "jointreeBuilds", fn := fun _ => fun
  | [d] => { results := [.lit (.bool false)], args := [d] }
  | _ => none }
def JointreeBuildsWrongFalsely : Prop := jointreeBuildsRow.holds Try.pinned (OpenSpec.ofChange jointreeBuildsWrong)

/-- 'osierlaw16.JointreeBuilt': WHATEVER THE INPUT: true; the input reads as it did. -/
def jointreeBuiltSpec : ChangeSpec := { name := "jointreeBuilt", fn := fun _ => fun
  | [d] => { results := [.lit (.bool true)], args := [d] }
  | _ => none }
def jointreeBuiltRow : OpenClaim := { program := "ytkenbmelhfhidaa", sum := "086e12d318fae5b4114479595d19eb9571aff3e2c901ad816c72bca9f9753a96", func := "osier/osierlaw16.JointreeBuilt", spec := "jointreeBuilt", unfollowed := true, recurses := true, apart := false }
def JointreeBuiltSaid : Prop := jointreeBuiltRow.holds Try.pinned (OpenSpec.ofChange jointreeBuiltSpec)

/-- ITS FALSE NEIGHBOUR: 'it returns false'. Refute it at one input. -/
def jointreeBuiltWrong : ChangeSpec := { name := "jointreeBuilt", fn := fun _ => fun
  | [d] => { results := [.lit (.bool false)], args := [d] }
  | _ => none }
def JointreeBuiltWrongFalsely : Prop := jointreeBuiltRow.holds Try.pinned (OpenSpec.ofChange jointreeBuiltWrong)

/-- 'osierlaw16.JointreeSums': WHATEVER THE INPUT: true; the input reads as it did. -/
def jointreeSumsSpec : ChangeSpec := { name := "jointreeSums", fn := fun _ => fun
  | [d1, d2] => { results := [.lit (.bool true)], args := [d1, d2] }
  | _ => none }
def jointreeSumsRow : OpenClaim := { program := "ytkenbmelhfhidaa", sum := "086e12d318fae5b4114479595d19eb9571aff3e2c901ad816c72bca9f9753a96", func := "osier/osierlaw16.JointreeSums", spec := "jointreeSums", unfollowed := true, recurses := true, apart := false }
def JointreeSumsSaid : Prop := jointreeSumsRow.holds Try.pinned (OpenSpec.ofChange jointreeSumsSpec)

/-- ITS FALSE NEIGHBOUR: 'it returns false'. Refute it at one input. -/
def jointreeSumsWrong : ChangeSpec := { name := "jointreeSums", fn := fun _ => fun
  | [d1, d2] => { results := [.lit (.bool false)], args := [d1, d2] }
  | _ => none }
def JointreeSumsWrongFalsely : Prop := jointreeSumsRow.holds Try.pinned (OpenSpec.ofChange jointreeSumsWrong)

/-- 'osierlaw16.JointreeKeys': WHATEVER THE INPUT: true; the input reads as it did. -/
def jointreeKeysSpec : ChangeSpec := { name := "jointreeKeys", fn := fun _ => fun
  | [d1, d2] => { results := [.lit (.bool true)], args := [d1, d2] }
  | _ => none }
def jointreeKeysRow : OpenClaim := { program := "ytkenbmelhfhidaa", sum := "086e12d318fae5b4114479595d19eb9571aff3e2c901ad816c72bca9f9753a96", func := "osier/osierlaw16.JointreeKeys", spec := "jointreeKeys", unfollowed := true, recurses := true, apart := false }
def JointreeKeysSaid : Prop := jointreeKeysRow.holds Try.pinned (OpenSpec.ofChange jointreeKeysSpec)

/-- ITS FALSE NEIGHBOUR: 'it returns false'. Refute it at one input. -/
def jointreeKeysWrong : ChangeSpec := { name := "jointreeKeys", fn := fun _ => fun
  | [d1, d2] => { results := [.lit (.bool false)], args := [d1, d2] }
  | _ => none }
def JointreeKeysWrongFalsely : Prop := jointreeKeysRow.holds Try.pinned (OpenSpec.ofChange jointreeKeysWrong)

/-- 'osierlaw16.JointreeDown': WHATEVER THE INPUT: true; the input reads as it did. -/
def jointreeDownSpec : ChangeSpec := { name := "jointreeDown", fn := fun _ => fun
  | [d] => { results := [.lit (.bool true)], args := [d] }
  | _ => none }
def jointreeDownRow : OpenClaim := { program := "ytkenbmelhfhidaa", sum := "086e12d318fae5b4114479595d19eb9571aff3e2c901ad816c72bca9f9753a96", func := "osier/osierlaw16.JointreeDown", spec := "jointreeDown", unfollowed := true, recurses := true, apart := false }
def JointreeDownSaid : Prop := jointreeDownRow.holds Try.pinned (OpenSpec.ofChange jointreeDownSpec)

/-- ITS FALSE NEIGHBOUR: 'it returns false'. Refute it at one input. -/
def jointreeDownWrong : ChangeSpec := { name := "jointreeDown", fn := fun _ => fun
  | [d] => { results := [.lit (.bool false)], args := [d] }
  | _ => none }
def JointreeDownWrongFalsely : Prop := jointreeDownRow.holds Try.pinned (OpenSpec.ofChange jointreeDownWrong)

/-- 'osierlaw16.JointreeRooted': WHATEVER THE INPUT: true; the input reads as it did. -/
def jointreeRootedSpec : ChangeSpec := { name := "jointreeRooted", fn := fun _ => fun
  | [d1, d2, d3] => { results := [.lit (.bool true)], args := [d1, d2, d3] }
  | _ => none }
def jointreeRootedRow : OpenClaim := { program := "ytkenbmelhfhidaa", sum := "086e12d318fae5b4114479595d19eb9571aff3e2c901ad816c72bca9f9753a96", func := "osier/osierlaw16.JointreeRooted", spec := "jointreeRooted", unfollowed := true, recurses := true, apart := false }
def JointreeRootedSaid : Prop := jointreeRootedRow.holds Try.pinned (OpenSpec.ofChange jointreeRootedSpec)

/-- ITS FALSE NEIGHBOUR: 'it returns false'. Refute it at one input. -/
def jointreeRootedWrong : ChangeSpec := { name := "jointreeRooted", fn := fun _ => fun
  | [d1, d2, d3] => { results := [.lit (.bool false)], args := [d1, d2, d3] }
  | _ => none }
def JointreeRootedWrongFalsely : Prop := jointreeRootedRow.holds Try.pinned (OpenSpec.ofChange jointreeRootedWrong)

/-- 'osierlaw16.JointreeTurns': WHATEVER THE INPUT: true; the input reads as it did. -/
def jointreeTurnsSpec : ChangeSpec := { name := "jointreeTurns", fn := fun _ => fun
  | [d1, d2] => { results := [.lit (.bool true)], args := [d1, d2] }
  | _ => none }
def jointreeTurnsRow : OpenClaim := { program := "ytkenbmelhfhidaa", sum := "086e12d318fae5b4114479595d19eb9571aff3e2c901ad816c72bca9f9753a96", func := "osier/osierlaw16.JointreeTurns", spec := "jointreeTurns", unfollowed := true, recurses := true, apart := false }
def JointreeTurnsSaid : Prop := jointreeTurnsRow.holds Try.pinned (OpenSpec.ofChange jointreeTurnsSpec)

/-- ITS FALSE NEIGHBOUR: 'it returns false'. Refute it at one input. -/
def jointreeTurnsWrong : ChangeSpec := { name := "jointreeTurns", fn := fun _ => fun
  | [d1, d2] => { results := [.lit (.bool false)], args := [d1, d2] }
  | _ => none }
def JointreeTurnsWrongFalsely : Prop := jointreeTurnsRow.holds Try.pinned (OpenSpec.ofChange jointreeTurnsWrong)

/-- 'osierlaw15.EarsRuns': WHATEVER THE INPUT: true; the input reads as it did. -/
def earsRunsSpec : ChangeSpec := { name := "earsRuns", fn := fun _ => fun
  | [d1, d2] => { results := [.lit (.bool true)], args := [d1, d2] }
  | _ => none }
def earsRunsRow : OpenClaim := { program := "ytkenbmelhfhidaa", sum := "086e12d318fae5b4114479595d19eb9571aff3e2c901ad816c72bca9f9753a96", func := "osier/osierlaw15.EarsRuns", spec := "earsRuns", unfollowed := true, recurses := true, apart := false }
def EarsRunsSaid : Prop := earsRunsRow.holds Try.pinned (OpenSpec.ofChange earsRunsSpec)

/-- ITS FALSE NEIGHBOUR: 'it returns false'. Refute it at one input. -/
def earsRunsWrong : ChangeSpec := { name := "earsRuns", fn := fun _ => fun
  | [d1, d2] => { results := [.lit (.bool false)], args := [d1, d2] }
  | _ => none }
def EarsRunsWrongFalsely : Prop := earsRunsRow.holds Try.pinned (OpenSpec.ofChange earsRunsWrong)

/-- 'osierlaw15.EarsRests': WHATEVER THE INPUT: true; the input reads as it did. -/
def earsRestsSpec : ChangeSpec := { name := "earsRests", fn := fun _ => fun
  | [d1, d2] => { results := [.lit (.bool true)], args := [d1, d2] }
  | _ => none }
def earsRestsRow : OpenClaim := { program := "ytkenbmelhfhidaa", sum := "086e12d318fae5b4114479595d19eb9571aff3e2c901ad816c72bca9f9753a96", func := "osier/osierlaw15.EarsRests", spec := "earsRests", unfollowed := true, recurses := true, apart := false }
def EarsRestsSaid : Prop := earsRestsRow.holds Try.pinned (OpenSpec.ofChange earsRestsSpec)

/-- ITS FALSE NEIGHBOUR: 'it returns false'. Refute it at one input. -/
def earsRestsWrong : ChangeSpec := { name := "earsRests", fn := fun _ => fun
  | [d1, d2] => { results := [.lit (.bool false)], args := [d1, d2] }
  | _ => none }
def EarsRestsWrongFalsely : Prop := earsRestsRow.holds Try.pinned (OpenSpec.ofChange earsRestsWrong)

/-- 'osierlaw15.EarsTrees': WHATEVER THE INPUT: true; the input reads as it did. -/
def earsTreesSpec : ChangeSpec := { name := "earsTrees", fn := fun _ => fun
  | [d] => { results := [.lit (.bool true)], args := [d] }
  | _ => none }
def earsTreesRow : OpenClaim := { program := "ytkenbmelhfhidaa", sum := "086e12d318fae5b4114479595d19eb9571aff3e2c901ad816c72bca9f9753a96", func := "osier/osierlaw15.EarsTrees", spec := "earsTrees", unfollowed := true, recurses := true, apart := false }
def EarsTreesSaid : Prop := earsTreesRow.holds Try.pinned (OpenSpec.ofChange earsTreesSpec)

/-- ITS FALSE NEIGHBOUR: 'it returns false'. Refute it at one input. -/
def earsTreesWrong : ChangeSpec := { name := "earsTrees", fn := fun _ => fun
  | [d] => { results := [.lit (.bool false)], args := [d] }
  | _ => none }
def EarsTreesWrongFalsely : Prop := earsTreesRow.holds Try.pinned (OpenSpec.ofChange earsTreesWrong)

/-- 'osierlaw15.EarsStuck': WHATEVER THE INPUT: true; the input reads as it did. -/
def earsStuckSpec : ChangeSpec := { name := "earsStuck", fn := fun _ => fun
  | [d1, d2] => { results := [.lit (.bool true)], args := [d1, d2] }
  | _ => none }
def earsStuckRow : OpenClaim := { program := "ytkenbmelhfhidaa", sum := "086e12d318fae5b4114479595d19eb9571aff3e2c901ad816c72bca9f9753a96", func := "osier/osierlaw15.EarsStuck", spec := "earsStuck", unfollowed := true, recurses := true, apart := false }
def EarsStuckSaid : Prop := earsStuckRow.holds Try.pinned (OpenSpec.ofChange earsStuckSpec)

/-- ITS FALSE NEIGHBOUR: 'it returns false'. Refute it at one input. -/
def earsStuckWrong : ChangeSpec := { name := "earsStuck", fn := fun _ => fun
  | [d1, d2] => { results := [.lit (.bool false)], args := [d1, d2] }
  | _ => none }
def EarsStuckWrongFalsely : Prop := earsStuckRow.holds Try.pinned (OpenSpec.ofChange earsStuckWrong)

/-- 'osierlaw15.EarsParts': WHATEVER THE INPUT: true; the input reads as it did. -/
def earsPartsSpec : ChangeSpec := { name := "earsParts", fn := fun _ => fun
  | [d] => { results := [.lit (.bool true)], args := [d] }
  | _ => none }
def earsPartsRow : OpenClaim := { program := "ytkenbmelhfhidaa", sum := "086e12d318fae5b4114479595d19eb9571aff3e2c901ad816c72bca9f9753a96", func := "osier/osierlaw15.EarsParts", spec := "earsParts", unfollowed := true, recurses := true, apart := false }
def EarsPartsSaid : Prop := earsPartsRow.holds Try.pinned (OpenSpec.ofChange earsPartsSpec)

/-- ITS FALSE NEIGHBOUR: 'it returns false'. Refute it at one input. -/
def earsPartsWrong : ChangeSpec := { name := "earsParts", fn := fun _ => fun
  | [d] => { results := [.lit (.bool false)], args := [d] }
  | _ => none }
def EarsPartsWrongFalsely : Prop := earsPartsRow.holds Try.pinned (OpenSpec.ofChange earsPartsWrong)

/-- 'osierlaw15.EarsCovered': WHATEVER THE INPUT: true; the input reads as it did. -/
def earsCoveredSpec : ChangeSpec := { name := "earsCovered", fn := fun _ => fun
  | [d] => { results := [.lit (.bool true)], args := [d] }
  | _ => none }
def earsCoveredRow : OpenClaim := { program := "ytkenbmelhfhidaa", sum := "086e12d318fae5b4114479595d19eb9571aff3e2c901ad816c72bca9f9753a96", func := "osier/osierlaw15.EarsCovered", spec := "earsCovered", unfollowed := true, recurses := true, apart := false }
def EarsCoveredSaid : Prop := earsCoveredRow.holds Try.pinned (OpenSpec.ofChange earsCoveredSpec)

/-- ITS FALSE NEIGHBOUR: 'it returns false'. Refute it at one input. -/
def earsCoveredWrong : ChangeSpec := { name := "earsCovered", fn := fun _ => fun
  | [d] => { results := [.lit (.bool false)], args := [d] }
  | _ => none }
def EarsCoveredWrongFalsely : Prop := earsCoveredRow.holds Try.pinned (OpenSpec.ofChange earsCoveredWrong)

/-- 'osierlaw15.EarsReplays': WHATEVER THE INPUT: true; the input reads as it did. -/
def earsReplaysSpec : ChangeSpec := { name := "earsReplays", fn := fun _ => fun
  | [d1, d2, d3] => { results := [.lit (.bool true)], args := [d1, d2, d3] }
  | _ => none }
def earsReplaysRow : OpenClaim := { program := "ytkenbmelhfhidaa", sum := "086e12d318fae5b4114479595d19eb9571aff3e2c901ad816c72bca9f9753a96", func := "osier/osierlaw15.EarsReplays", spec := "earsReplays", unfollowed := true, recurses := true, apart := false }
def EarsReplaysSaid : Prop := earsReplaysRow.holds Try.pinned (OpenSpec.ofChange earsReplaysSpec)

/-- ITS FALSE NEIGHBOUR: 'it returns false'. Refute it at one input. -/
def earsReplaysWrong : ChangeSpec := { name := "earsReplays", fn := fun _ => fun
  | [d1, d2, d3] => { results := [.lit (.bool false)], args := [d1, d2, d3] }
  | _ => none }
def EarsReplaysWrongFalsely : Prop := earsReplaysRow.holds Try.pinned (OpenSpec.ofChange earsReplaysWrong)

/-- 'osierlaw15.EarsAnyOrder': WHATEVER THE INPUT: true; the input reads as it did. -/
def earsAnyOrderSpec : ChangeSpec := { name := "earsAnyOrder", fn := fun _ => fun
  | [d1, d2, d3] => { results := [.lit (.bool true)], args := [d1, d2, d3] }
  | _ => none }
def earsAnyOrderRow : OpenClaim := { program := "ytkenbmelhfhidaa", sum := "086e12d318fae5b4114479595d19eb9571aff3e2c901ad816c72bca9f9753a96", func := "osier/osierlaw15.EarsAnyOrder", spec := "earsAnyOrder", unfollowed := true, recurses := true, apart := false }
def EarsAnyOrderSaid : Prop := earsAnyOrderRow.holds Try.pinned (OpenSpec.ofChange earsAnyOrderSpec)

/-- ITS FALSE NEIGHBOUR: 'it returns false'. Refute it at one input. -/
def earsAnyOrderWrong : ChangeSpec := { name := "earsAnyOrder", fn := fun _ => fun
  | [d1, d2, d3] => { results := [.lit (.bool false)], args := [d1, d2, d3] }
  | _ => none }
def EarsAnyOrderWrongFalsely : Prop := earsAnyOrderRow.holds Try.pinned (OpenSpec.ofChange earsAnyOrderWrong)

/-- 'osierlaw17.ClassifySorts': WHATEVER THE INPUT: true; the input reads as it did. -/
def classifySortsSpec : ChangeSpec := { name := "classifySorts", fn := fun _ => fun
  | [d1, d2] => { results := [.lit (.bool true)], args := [d1, d2] }
  | _ => none }
def classifySortsRow : OpenClaim := { program := "ytkenbmelhfhidaa", sum := "086e12d318fae5b4114479595d19eb9571aff3e2c901ad816c72bca9f9753a96", func := "osier/osierlaw17.ClassifySorts", spec := "classifySorts", unfollowed := true, recurses := true, apart := false }
def ClassifySortsSaid : Prop := classifySortsRow.holds Try.pinned (OpenSpec.ofChange classifySortsSpec)

/-- ITS FALSE NEIGHBOUR: 'it returns false'. Refute it at one input. -/
def classifySortsWrong : ChangeSpec := { name := "classifySorts", fn := fun _ => fun
  | [d1, d2] => { results := [.lit (.bool false)], args := [d1, d2] }
  | _ => none }
def ClassifySortsWrongFalsely : Prop := classifySortsRow.holds Try.pinned (OpenSpec.ofChange classifySortsWrong)

/-- 'osierlaw17.ClassifyExtends': WHATEVER THE INPUT: true; the input reads as it did. -/
def classifyExtendsSpec : ChangeSpec := { name := "classifyExtends", fn := fun _ => fun
  | [d1, d2] => { results := [.lit (.bool true)], args := [d1, d2] }
  | _ => none }
def classifyExtendsRow : OpenClaim := { program := "ytkenbmelhfhidaa", sum := "086e12d318fae5b4114479595d19eb9571aff3e2c901ad816c72bca9f9753a96", func := "osier/osierlaw17.ClassifyExtends", spec := "classifyExtends", unfollowed := true, recurses := true, apart := false }
def ClassifyExtendsSaid : Prop := classifyExtendsRow.holds Try.pinned (OpenSpec.ofChange classifyExtendsSpec)

/-- ITS FALSE NEIGHBOUR: 'it returns false'. Refute it at one input. -/
def classifyExtendsWrong : ChangeSpec := { name := "classifyExtends", fn := fun _ => fun
  | [d1, d2] => { results := [.lit (.bool false)], args := [d1, d2] }
  | _ => none }
def ClassifyExtendsWrongFalsely : Prop := classifyExtendsRow.holds Try.pinned (OpenSpec.ofChange classifyExtendsWrong)

/-- 'osierlaw17.ClassifyClashes': WHATEVER THE INPUT: true; the input reads as it did. -/
def classifyClashesSpec : ChangeSpec := { name := "classifyClashes", fn := fun _ => fun
  | [d1, d2] => { results := [.lit (.bool true)], args := [d1, d2] }
  | _ => none }
def classifyClashesRow : OpenClaim := { program := "ytkenbmelhfhidaa", sum := "086e12d318fae5b4114479595d19eb9571aff3e2c901ad816c72bca9f9753a96", func := "osier/osierlaw17.ClassifyClashes", spec := "classifyClashes", unfollowed := true, recurses := true, apart := false }
def ClassifyClashesSaid : Prop := classifyClashesRow.holds Try.pinned (OpenSpec.ofChange classifyClashesSpec)

/-- ITS FALSE NEIGHBOUR: 'it returns false'. Refute it at one input. -/
def classifyClashesWrong : ChangeSpec := { name := "classifyClashes", fn := fun _ => fun
  | [d1, d2] => { results := [.lit (.bool false)], args := [d1, d2] }
  | _ => none }
def ClassifyClashesWrongFalsely : Prop := classifyClashesRow.holds Try.pinned (OpenSpec.ofChange classifyClashesWrong)

/-- 'osierlaw17.ClassifyChain': WHATEVER THE INPUT: true; the input reads as it did. -/
def classifyChainSpec : ChangeSpec := { name := "classifyChain", fn := fun _ => fun
  | [d1, d2] => { results := [.lit (.bool true)], args := [d1, d2] }
  | _ => none }
def classifyChainRow : OpenClaim := { program := "ytkenbmelhfhidaa", sum := "086e12d318fae5b4114479595d19eb9571aff3e2c901ad816c72bca9f9753a96", func := "osier/osierlaw17.ClassifyChain", spec := "classifyChain", unfollowed := true, recurses := true, apart := false }
def ClassifyChainSaid : Prop := classifyChainRow.holds Try.pinned (OpenSpec.ofChange classifyChainSpec)

/-- ITS FALSE NEIGHBOUR: 'it returns false'. Refute it at one input. -/
def classifyChainWrong : ChangeSpec := { name := "classifyChain", fn := fun _ => fun
  | [d1, d2] => { results := [.lit (.bool false)], args := [d1, d2] }
  | _ => none }
def ClassifyChainWrongFalsely : Prop := classifyChainRow.holds Try.pinned (OpenSpec.ofChange classifyChainWrong)

/-- 'osierlaw17.ClassifyAlike': WHATEVER THE INPUT: true; the input reads as it did. -/
def classifyAlikeSpec : ChangeSpec := { name := "classifyAlike", fn := fun _ => fun
  | [d1, d2, d3] => { results := [.lit (.bool true)], args := [d1, d2, d3] }
  | _ => none }
def classifyAlikeRow : OpenClaim := { program := "ytkenbmelhfhidaa", sum := "086e12d318fae5b4114479595d19eb9571aff3e2c901ad816c72bca9f9753a96", func := "osier/osierlaw17.ClassifyAlike", spec := "classifyAlike", unfollowed := true, recurses := true, apart := false }
def ClassifyAlikeSaid : Prop := classifyAlikeRow.holds Try.pinned (OpenSpec.ofChange classifyAlikeSpec)

/-- ITS FALSE NEIGHBOUR: 'it returns false'. Refute it at one input. -/
def classifyAlikeWrong : ChangeSpec := { name := "classifyAlike", fn := fun _ => fun
  | [d1, d2, d3] => { results := [.lit (.bool false)], args := [d1, d2, d3] }
  | _ => none }
def ClassifyAlikeWrongFalsely : Prop := classifyAlikeRow.holds Try.pinned (OpenSpec.ofChange classifyAlikeWrong)

/-- 'osierlaw17.ClassifyRests': WHATEVER THE INPUT: true; the input reads as it did. -/
def classifyRestsSpec : ChangeSpec := { name := "classifyRests", fn := fun _ => fun
  | [d1, d2] => { results := [.lit (.bool true)], args := [d1, d2] }
  | _ => none }
def classifyRestsRow : OpenClaim := { program := "ytkenbmelhfhidaa", sum := "086e12d318fae5b4114479595d19eb9571aff3e2c901ad816c72bca9f9753a96", func := "osier/osierlaw17.ClassifyRests", spec := "classifyRests", unfollowed := true, recurses := true, apart := false }
def ClassifyRestsSaid : Prop := classifyRestsRow.holds Try.pinned (OpenSpec.ofChange classifyRestsSpec)

/-- ITS FALSE NEIGHBOUR: 'it returns false'. Refute it at one input. -/
def classifyRestsWrong : ChangeSpec := { name := "classifyRests", fn := fun _ => fun
  | [d1, d2] => { results := [.lit (.bool false)], args := [d1, d2] }
  | _ => none }
def ClassifyRestsWrongFalsely : Prop := classifyRestsRow.holds Try.pinned (OpenSpec.ofChange classifyRestsWrong)

/-- 'osierlaw17.ClassifyKnots': WHATEVER THE INPUT: true; the input reads as it did. -/
def classifyKnotsSpec : ChangeSpec := { name := "classifyKnots", fn := fun _ => fun
  | [d1, d2] => { results := [.lit (.bool true)], args := [d1, d2] }
  | _ => none }
def classifyKnotsRow : OpenClaim := { program := "ytkenbmelhfhidaa", sum := "086e12d318fae5b4114479595d19eb9571aff3e2c901ad816c72bca9f9753a96", func := "osier/osierlaw17.ClassifyKnots", spec := "classifyKnots", unfollowed := true, recurses := true, apart := false }
def ClassifyKnotsSaid : Prop := classifyKnotsRow.holds Try.pinned (OpenSpec.ofChange classifyKnotsSpec)

/-- ITS FALSE NEIGHBOUR: 'it returns false'. Refute it at one input. -/
def classifyKnotsWrong : ChangeSpec := { name := "classifyKnots", fn := fun _ => fun
  | [d1, d2] => { results := [.lit (.bool false)], args := [d1, d2] }
  | _ => none }
def ClassifyKnotsWrongFalsely : Prop := classifyKnotsRow.holds Try.pinned (OpenSpec.ofChange classifyKnotsWrong)

/-- 'osierlaw17.ClassifyLists': WHATEVER THE INPUT: true; the input reads as it did. -/
def classifyListsSpec : ChangeSpec := { name := "classifyLists", fn := fun _ => fun
  | [d1, d2, d3] => { results := [.lit (.bool true)], args := [d1, d2, d3] }
  | _ => none }
def classifyListsRow : OpenClaim := { program := "ytkenbmelhfhidaa", sum := "086e12d318fae5b4114479595d19eb9571aff3e2c901ad816c72bca9f9753a96", func := "osier/osierlaw17.ClassifyLists", spec := "classifyLists", unfollowed := true, recurses := true, apart := false }
def ClassifyListsSaid : Prop := classifyListsRow.holds Try.pinned (OpenSpec.ofChange classifyListsSpec)

/-- ITS FALSE NEIGHBOUR: 'it returns false'. Refute it at one input. -/
def classifyListsWrong : ChangeSpec := { name := "classifyLists", fn := fun _ => fun
  | [d1, d2, d3] => { results := [.lit (.bool false)], args := [d1, d2, d3] }
  | _ => none }
def ClassifyListsWrongFalsely : Prop := classifyListsRow.holds Try.pinned (OpenSpec.ofChange classifyListsWrong)

/- THE SECOND FORM. 'bulk': how many values and letters a reading holds, each counted each time it is reached (what is shared counts as often as it is met; a slice's spare places count too). A statement '..UptoSaid' is the law's where the arguments, and the package variables that the reading takes, are together of bulk at most 1048576: NARROWER than '..Said'. Prove '..Said' where nothing that the law and all that it calls make is longer than what came in: it says more and counts as full. Else prove '..UptoSaid'. A law counts once. -/
mutual
def uptoBulk {H : Type} : DataW H → Nat
  | .lit (.string bytes) => bytes.length + 1
  | .lit _ => 1
  | .nil => 1
  | .ptr d => uptoBulk d + 1
  | .slice elems spare => uptoBulkAll elems + uptoBulkAll spare + 1
  | .agg parts => uptoBulkAll parts + 1
  | .iface _ d => uptoBulk d + 1
  | .map entries => uptoBulkEntries entries + 1
  | .held _ => 1
def uptoBulkAll {H : Type} : List (DataW H) → Nat
  | [] => 0
  | d :: r => uptoBulk d + uptoBulkAll r
def uptoBulkEntries {H : Type} : List (Lit × DataW H) → Nat
  | [] => 0
  | x :: r => uptoBulkEntry x + uptoBulkEntries r
def uptoBulkEntry {H : Type} : Lit × DataW H → Nat
  | (.string bytes, d) => bytes.length + uptoBulk d + 1
  | (_, d) => uptoBulk d + 1
 end
def uptoSmall : (H : Type) → List (DataW H) → Bool := fun _ ds => decide (uptoBulkAll ds ≤ 1048576)
def OpenSpec.upto (s : _root_.Go.ChangeSpec) : _root_.Go.OpenSpec := { _root_.Go.OpenSpec.ofChange s with cond := some uptoSmall }

/-- 'osierlaw16.JointreeChecks', WHERE WHAT IT READS IS OF BULK AT MOST 1048576: true; the input reads as it did. -/
def jointreeChecksUptoRow : OpenClaim := { program := "ytkenbmelhfhidaa", sum := "086e12d318fae5b4114479595d19eb9571aff3e2c901ad816c72bca9f9753a96", func := "osier/osierlaw16.JointreeChecks", spec := "jointreeChecks", unfollowed := true, recurses := true, apart := false, narrowed := true }
def JointreeChecksUptoSaid : Prop := jointreeChecksUptoRow.holds Try.pinned (OpenSpec.upto jointreeChecksSpec)

/-- 'osierlaw16.JointreeBuilds', WHERE WHAT IT READS IS OF BULK AT MOST 1048576: true; the input reads as it did. -/
def jointreeBuildsUptoRow : OpenClaim := { program := "ytkenbmelhfhidaa", sum := "086e12d318fae5b4114479595d19eb9571aff3e2c901ad816c72bca9f9753a96", func := "osier/osierlaw16.JointreeBuilds", spec := "jointreeBuilds", unfollowed := true, recurses := true, apart := false, narrowed := true }
def JointreeBuildsUptoSaid : Prop := jointreeBuildsUptoRow.holds Try.pinned (OpenSpec.upto jointreeBuildsSpec)

/-- 'osierlaw16.JointreeBuilt', WHERE WHAT IT READS IS OF BULK AT MOST 1048576: true; the input reads as it did. -/
def jointreeBuiltUptoRow : OpenClaim := { program := "ytkenbmelhfhidaa", sum := "086e12d318fae5b4114479595d19eb9571aff3e2c901ad816c72bca9f9753a96", func := "osier/osierlaw16.JointreeBuilt", spec := "jointreeBuilt", unfollowed := true, recurses := true, apart := false, narrowed := true }
def JointreeBuiltUptoSaid : Prop := jointreeBuiltUptoRow.holds Try.pinned (OpenSpec.upto jointreeBuiltSpec)

/-- 'osierlaw16.JointreeSums', WHERE WHAT IT READS IS OF BULK AT MOST 1048576: true; the input reads as it did. -/
def jointreeSumsUptoRow : OpenClaim := { program := "ytkenbmelhfhidaa", sum := "086e12d318fae5b4114479595d19eb9571aff3e2c901ad816c72bca9f9753a96", func := "osier/osierlaw16.JointreeSums", spec := "jointreeSums", unfollowed := true, recurses := true, apart := false, narrowed := true }
def JointreeSumsUptoSaid : Prop := jointreeSumsUptoRow.holds Try.pinned (OpenSpec.upto jointreeSumsSpec)

/-- 'osierlaw16.JointreeKeys', WHERE WHAT IT READS IS OF BULK AT MOST 1048576: true; the input reads as it did. -/
def jointreeKeysUptoRow : OpenClaim := { program := "ytkenbmelhfhidaa", sum := "086e12d318fae5b4114479595d19eb9571aff3e2c901ad816c72bca9f9753a96", func := "osier/osierlaw16.JointreeKeys", spec := "jointreeKeys", unfollowed := true, recurses := true, apart := false, narrowed := true }
def JointreeKeysUptoSaid : Prop := jointreeKeysUptoRow.holds Try.pinned (OpenSpec.upto jointreeKeysSpec)

/-- 'osierlaw16.JointreeDown', WHERE WHAT IT READS IS OF BULK AT MOST 1048576: true; the input reads as it did. -/
def jointreeDownUptoRow : OpenClaim := { program := "ytkenbmelhfhidaa", sum := "086e12d318fae5b4114479595d19eb9571aff3e2c901ad816c72bca9f9753a96", func := "osier/osierlaw16.JointreeDown", spec := "jointreeDown", unfollowed := true, recurses := true, apart := false, narrowed := true }
def JointreeDownUptoSaid : Prop := jointreeDownUptoRow.holds Try.pinned (OpenSpec.upto jointreeDownSpec)

/-- 'osierlaw16.JointreeRooted', WHERE WHAT IT READS IS OF BULK AT MOST 1048576: true; the input reads as it did. -/
def jointreeRootedUptoRow : OpenClaim := { program := "ytkenbmelhfhidaa", sum := "086e12d318fae5b4114479595d19eb9571aff3e2c901ad816c72bca9f9753a96", func := "osier/osierlaw16.JointreeRooted", spec := "jointreeRooted", unfollowed := true, recurses := true, apart := false, narrowed := true }
def JointreeRootedUptoSaid : Prop := jointreeRootedUptoRow.holds Try.pinned (OpenSpec.upto jointreeRootedSpec)

/-- 'osierlaw16.JointreeTurns', WHERE WHAT IT READS IS OF BULK AT MOST 1048576: true; the input reads as it did. -/
def jointreeTurnsUptoRow : OpenClaim := { program := "ytkenbmelhfhidaa", sum := "086e12d318fae5b4114479595d19eb9571aff3e2c901ad816c72bca9f9753a96", func := "osier/osierlaw16.JointreeTurns", spec := "jointreeTurns", unfollowed := true, recurses := true, apart := false, narrowed := true }
def JointreeTurnsUptoSaid : Prop := jointreeTurnsUptoRow.holds Try.pinned (OpenSpec.upto jointreeTurnsSpec)

/-- 'osierlaw15.EarsRuns', WHERE WHAT IT READS IS OF BULK AT MOST 1048576: true; the input reads as it did. -/
def earsRunsUptoRow : OpenClaim := { program := "ytkenbmelhfhidaa", sum := "086e12d318fae5b4114479595d19eb9571aff3e2c901ad816c72bca9f9753a96", func := "osier/osierlaw15.EarsRuns", spec := "earsRuns", unfollowed := true, recurses := true, apart := false, narrowed := true }
def EarsRunsUptoSaid : Prop := earsRunsUptoRow.holds Try.pinned (OpenSpec.upto earsRunsSpec)

/-- 'osierlaw15.EarsRests', WHERE WHAT IT READS IS OF BULK AT MOST 1048576: true; the input reads as it did. -/
def earsRestsUptoRow : OpenClaim := { program := "ytkenbmelhfhidaa", sum := "086e12d318fae5b4114479595d19eb9571aff3e2c901ad816c72bca9f9753a96", func := "osier/osierlaw15.EarsRests", spec := "earsRests", unfollowed := true, recurses := true, apart := false, narrowed := true }
def EarsRestsUptoSaid : Prop := earsRestsUptoRow.holds Try.pinned (OpenSpec.upto earsRestsSpec)

/-- 'osierlaw15.EarsTrees', WHERE WHAT IT READS IS OF BULK AT MOST 1048576: true; the input reads as it did. -/
def earsTreesUptoRow : OpenClaim := { program := "ytkenbmelhfhidaa", sum := "086e12d318fae5b4114479595d19eb9571aff3e2c901ad816c72bca9f9753a96", func := "osier/osierlaw15.EarsTrees", spec := "earsTrees", unfollowed := true, recurses := true, apart := false, narrowed := true }
def EarsTreesUptoSaid : Prop := earsTreesUptoRow.holds Try.pinned (OpenSpec.upto earsTreesSpec)

/-- 'osierlaw15.EarsStuck', WHERE WHAT IT READS IS OF BULK AT MOST 1048576: true; the input reads as it did. -/
def earsStuckUptoRow : OpenClaim := { program := "ytkenbmelhfhidaa", sum := "086e12d318fae5b4114479595d19eb9571aff3e2c901ad816c72bca9f9753a96", func := "osier/osierlaw15.EarsStuck", spec := "earsStuck", unfollowed := true, recurses := true, apart := false, narrowed := true }
def EarsStuckUptoSaid : Prop := earsStuckUptoRow.holds Try.pinned (OpenSpec.upto earsStuckSpec)

/-- 'osierlaw15.EarsParts', WHERE WHAT IT READS IS OF BULK AT MOST 1048576: true; the input reads as it did. -/
def earsPartsUptoRow : OpenClaim := { program := "ytkenbmelhfhidaa", sum := "086e12d318fae5b4114479595d19eb9571aff3e2c901ad816c72bca9f9753a96", func := "osier/osierlaw15.EarsParts", spec := "earsParts", unfollowed := true, recurses := true, apart := false, narrowed := true }
def EarsPartsUptoSaid : Prop := earsPartsUptoRow.holds Try.pinned (OpenSpec.upto earsPartsSpec)

/-- 'osierlaw15.EarsCovered', WHERE WHAT IT READS IS OF BULK AT MOST 1048576: true; the input reads as it did. -/
def earsCoveredUptoRow : OpenClaim := { program := "ytkenbmelhfhidaa", sum := "086e12d318fae5b4114479595d19eb9571aff3e2c901ad816c72bca9f9753a96", func := "osier/osierlaw15.EarsCovered", spec := "earsCovered", unfollowed := true, recurses := true, apart := false, narrowed := true }
def EarsCoveredUptoSaid : Prop := earsCoveredUptoRow.holds Try.pinned (OpenSpec.upto earsCoveredSpec)

/-- 'osierlaw15.EarsReplays', WHERE WHAT IT READS IS OF BULK AT MOST 1048576: true; the input reads as it did. -/
def earsReplaysUptoRow : OpenClaim := { program := "ytkenbmelhfhidaa", sum := "086e12d318fae5b4114479595d19eb9571aff3e2c901ad816c72bca9f9753a96", func := "osier/osierlaw15.EarsReplays", spec := "earsReplays", unfollowed := true, recurses := true, apart := false, narrowed := true }
def EarsReplaysUptoSaid : Prop := earsReplaysUptoRow.holds Try.pinned (OpenSpec.upto earsReplaysSpec)

/-- 'osierlaw15.EarsAnyOrder', WHERE WHAT IT READS IS OF BULK AT MOST 1048576: true; the input reads as it did. -/
def earsAnyOrderUptoRow : OpenClaim := { program := "ytkenbmelhfhidaa", sum := "086e12d318fae5b4114479595d19eb9571aff3e2c901ad816c72bca9f9753a96", func := "osier/osierlaw15.EarsAnyOrder", spec := "earsAnyOrder", unfollowed := true, recurses := true, apart := false, narrowed := true }
def EarsAnyOrderUptoSaid : Prop := earsAnyOrderUptoRow.holds Try.pinned (OpenSpec.upto earsAnyOrderSpec)

/-- 'osierlaw17.ClassifySorts', WHERE WHAT IT READS IS OF BULK AT MOST 1048576: true; the input reads as it did. -/
def classifySortsUptoRow : OpenClaim := { program := "ytkenbmelhfhidaa", sum := "086e12d318fae5b4114479595d19eb9571aff3e2c901ad816c72bca9f9753a96", func := "osier/osierlaw17.ClassifySorts", spec := "classifySorts", unfollowed := true, recurses := true, apart := false, narrowed := true }
def ClassifySortsUptoSaid : Prop := classifySortsUptoRow.holds Try.pinned (OpenSpec.upto classifySortsSpec)

/-- 'osierlaw17.ClassifyExtends', WHERE WHAT IT READS IS OF BULK AT MOST 1048576: true; the input reads as it did. -/
def classifyExtendsUptoRow : OpenClaim := { program := "ytkenbmelhfhidaa", sum := "086e12d318fae5b4114479595d19eb9571aff3e2c901ad816c72bca9f9753a96", func := "osier/osierlaw17.ClassifyExtends", spec := "classifyExtends", unfollowed := true, recurses := true, apart := false, narrowed := true }
def ClassifyExtendsUptoSaid : Prop := classifyExtendsUptoRow.holds Try.pinned (OpenSpec.upto classifyExtendsSpec)

/-- 'osierlaw17.ClassifyClashes', WHERE WHAT IT READS IS OF BULK AT MOST 1048576: true; the input reads as it did. -/
def classifyClashesUptoRow : OpenClaim := { program := "ytkenbmelhfhidaa", sum := "086e12d318fae5b4114479595d19eb9571aff3e2c901ad816c72bca9f9753a96", func := "osier/osierlaw17.ClassifyClashes", spec := "classifyClashes", unfollowed := true, recurses := true, apart := false, narrowed := true }
def ClassifyClashesUptoSaid : Prop := classifyClashesUptoRow.holds Try.pinned (OpenSpec.upto classifyClashesSpec)

/-- 'osierlaw17.ClassifyChain', WHERE WHAT IT READS IS OF BULK AT MOST 1048576: true; the input reads as it did. -/
def classifyChainUptoRow : OpenClaim := { program := "ytkenbmelhfhidaa", sum := "086e12d318fae5b4114479595d19eb9571aff3e2c901ad816c72bca9f9753a96", func := "osier/osierlaw17.ClassifyChain", spec := "classifyChain", unfollowed := true, recurses := true, apart := false, narrowed := true }
def ClassifyChainUptoSaid : Prop := classifyChainUptoRow.holds Try.pinned (OpenSpec.upto classifyChainSpec)

/-- 'osierlaw17.ClassifyAlike', WHERE WHAT IT READS IS OF BULK AT MOST 1048576: true; the input reads as it did. -/
def classifyAlikeUptoRow : OpenClaim := { program := "ytkenbmelhfhidaa", sum := "086e12d318fae5b4114479595d19eb9571aff3e2c901ad816c72bca9f9753a96", func := "osier/osierlaw17.ClassifyAlike", spec := "classifyAlike", unfollowed := true, recurses := true, apart := false, narrowed := true }
def ClassifyAlikeUptoSaid : Prop := classifyAlikeUptoRow.holds Try.pinned (OpenSpec.upto classifyAlikeSpec)

/-- 'osierlaw17.ClassifyRests', WHERE WHAT IT READS IS OF BULK AT MOST 1048576: true; the input reads as it did. -/
def classifyRestsUptoRow : OpenClaim := { program := "ytkenbmelhfhidaa", sum := "086e12d318fae5b4114479595d19eb9571aff3e2c901ad816c72bca9f9753a96", func := "osier/osierlaw17.ClassifyRests", spec := "classifyRests", unfollowed := true, recurses := true, apart := false, narrowed := true }
def ClassifyRestsUptoSaid : Prop := classifyRestsUptoRow.holds Try.pinned (OpenSpec.upto classifyRestsSpec)

/-- 'osierlaw17.ClassifyKnots', WHERE WHAT IT READS IS OF BULK AT MOST 1048576: true; the input reads as it did. -/
def classifyKnotsUptoRow : OpenClaim := { program := "ytkenbmelhfhidaa", sum := "086e12d318fae5b4114479595d19eb9571aff3e2c901ad816c72bca9f9753a96", func := "osier/osierlaw17.ClassifyKnots", spec := "classifyKnots", unfollowed := true, recurses := true, apart := false, narrowed := true }
def ClassifyKnotsUptoSaid : Prop := classifyKnotsUptoRow.holds Try.pinned (OpenSpec.upto classifyKnotsSpec)

/-- 'osierlaw17.ClassifyLists', WHERE WHAT IT READS IS OF BULK AT MOST 1048576: true; the input reads as it did. -/
def classifyListsUptoRow : OpenClaim := { program := "ytkenbmelhfhidaa", sum := "086e12d318fae5b4114479595d19eb9571aff3e2c901ad816c72bca9f9753a96", func := "osier/osierlaw17.ClassifyLists", spec := "classifyLists", unfollowed := true, recurses := true, apart := false, narrowed := true }
def ClassifyListsUptoSaid : Prop := classifyListsUptoRow.holds Try.pinned (OpenSpec.upto classifyListsSpec)

end Rows
end Go.Proofs.Ytkenbmelhfhidaa
