-- Words of the kit's print, laid for this seat by print.sh; here only those that the claim's texts name (wip/gprint/trim.py).
import Derived.Test.YtamhiecepipnjaaDoorWInv
import Derived.Test.YtamhiecepipnjaaDoorWFootNe
namespace Go.Proofs.YtamhiecepipnjaaDoorW.PrintWords
open Go.RowKit
end Go.Proofs.YtamhiecepipnjaaDoorW.PrintWords
namespace Go.Proofs.YtamhiecepipnjaaDoorW.PrintLast
section
variable {ops : Array Oper} {a : Act} {o og : Oper} {g : Nat} {t : Tmp} {u : Bool}
end
end Go.Proofs.YtamhiecepipnjaaDoorW.PrintLast

