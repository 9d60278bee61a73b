-- Words of the kit's print, laid for this seat by print.sh; here only those that the claim's texts name (wip/gprint/trim.py).
import Derived.Test.YthjiiifnlhbffaaDoorWInv
import Derived.Test.YthjiiifnlhbffaaDoorWFootNe
namespace Go.Proofs.YthjiiifnlhbffaaDoorW.PrintWords
open Go.RowKit
end Go.Proofs.YthjiiifnlhbffaaDoorW.PrintWords
namespace Go.Proofs.YthjiiifnlhbffaaDoorW.PrintLast
section
variable {ops : Array Oper} {a : Act} {o og : Oper} {g : Nat} {t : Tmp} {u : Bool}
end
end Go.Proofs.YthjiiifnlhbffaaDoorW.PrintLast

