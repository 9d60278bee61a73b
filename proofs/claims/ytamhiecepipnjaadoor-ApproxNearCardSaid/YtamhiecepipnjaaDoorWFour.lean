-- Words of the kit's print, laid for this seat by print.sh; here only those that the claim's texts name (wip/gprint/trim.py).
import Derived.Test.YtamhiecepipnjaaDoorWTab
/-! ### 56. Four, five, six operations that may come up next, in any order -/
namespace Go.Proofs.YtamhiecepipnjaaDoorW.PrintLast
section
variable {P : Program} {ops : Array Oper} {Q : Exit → Act → World → Prop} {md : Region.Mode} {S : World → Prop} {ds : List Nat} {T : Bool × List (List Nat × List Nat)}
end
end Go.Proofs.YtamhiecepipnjaaDoorW.PrintLast

