-- Words of the kit's print, laid for this seat by print.sh; here only those that the claim's texts name (wip/gprint/trim.py).
import Derived.Test.YtamhiecepipnjaaDoorWWords
import Derived.Laws.StructEq
/-! ### 53. '==' of structs as_ one Bool -/
namespace Go.Proofs.YtamhiecepipnjaaDoorW.PrintWords
open Go.RowKit
section
variable {P : Program} {d : Nat} {xs ys : Array Value} {f : Field} {fs : List Field} {a b : Value} {r s : Bool} {w : World}
end
end Go.Proofs.YtamhiecepipnjaaDoorW.PrintWords

