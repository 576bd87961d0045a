/- Plans, plain: nodes, a builder's step, parents, the order of the Top nodes. No program in sight. -/
import Derived.Test.YtdemmjofggemhaaDoorBP
import Derived.Test.YtdemmjofggemhaaDoorBB
namespace Go.Proofs.YtdemmjofggemhaaDoor

/-- The vertices of a set as numbers. -/
def lst (x : BitVec 32) : List Int := (bitsOf x).map Int.ofNat
theorem lst_length (x : BitVec 32) : (lst x).length = (bitsOf x).length := by simp [lst]
theorem lst_len (x : BitVec 32) : (lst x).length ≤ 32 := by rw [lst_length]; exact bitsOf_len x

/-- A node, plain. -/
structure PNd where
  kind : Int
  atom : Int
  vars : List Int
  source : Int
  side : Int
  parent : Int
  top : Bool
  deriving DecidableEq
/-- A builder, plain. -/
structure PB where
  nodes : List PNd
  sets : List (BitVec 32)
  pres : List Int
def stepPB (b : PB) (s : Stp) : PB :=
  if s.kind = 1 then
    ⟨b.nodes ++ [⟨2, 0, lst (ed b.sets s.edge.toNat &&& ~~~s.cut), pz b.pres s.edge.toNat, 0, -1, false⟩], b.sets.set s.edge.toNat (ed b.sets s.edge.toNat &&& ~~~s.cut), b.pres.set s.edge.toNat b.nodes.length⟩
  else ⟨b.nodes ++ [⟨3, 0, lst (ed b.sets s.into.toNat), pz b.pres s.into.toNat, pz b.pres s.edge.toNat, -1, false⟩], b.sets, b.pres.set s.into.toNat b.nodes.length⟩

def nd0 : PNd := ⟨0, 0, [], 0, 0, 0, false⟩
def nd (N : List PNd) (i : Nat) : PNd := N.getD i nd0
theorem nd_eq (N : List PNd) (i : Nat) (h : i < N.length) : N[i] = nd N i := by simp [nd, h]
/-- What hangs right below a node. -/
def chl (n : PNd) : List Int := if n.kind = 2 then [n.source] else if n.kind = 3 then [n.source, n.side] else []
/-- The last of the first k nodes right above j. -/
def parN (N : List PNd) (j : Nat) : Nat → Int
  | 0 => -1
  | k + 1 => if (j : Int) ∈ chl (nd N k) then (k : Int) else parN N j k
/-- The Top nodes from a node on down, to a depth. -/
def ordF (N : List PNd) : Nat → Int → List Int
  | 0, _ => []
  | f + 1, i => if (nd N i.toNat).top = true then i :: (chl (nd N i.toNat)).flatMap (ordF N f) else []
/-- A plan. -/
structure PPlan where
  vars : List ByteArray
  head : List Int
  nodes : List PNd
  root : Int
  tops : List Int
end Go.Proofs.YtdemmjofggemhaaDoor
