/- The contracts of jointree.Order and of osierref16.Order. -/
import Derived.Test.YtdemmjofggemhaaDoorBK
import Derived.Test.YtdemmjofggemhaaDoorBF
import Derived.Laws.AppendOwnNone
namespace Go.Proofs.YtdemmjofggemhaaDoor
open Go.RowKit

section
variable {wr : World} {ops : Array Oper} {rest : List Oper} {o : Oper} {a : Act} {Q : Exit → Act → World → Prop}
end

/-! ### The reference -/
end Go.Proofs.YtdemmjofggemhaaDoor
