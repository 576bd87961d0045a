/- The contracts of jointree.Order and of osierref16.Order. -/
import Derived.Test.YtdemmjofggemhaaGreatDoorBK
import Derived.Test.YtdemmjofggemhaaGreatDoorBF
import Derived.Laws.AppendOwnNone
namespace Go.Proofs.YtdemmjofggemhaaGreatDoor
open Go.RowKit

section
variable {wr : World} {ops : Array Oper} {rest : List Oper} {o : Oper} {a : Act} {Q : Exit → Act → World → Prop}
end

/-! ### The reference -/
end Go.Proofs.YtdemmjofggemhaaGreatDoor
