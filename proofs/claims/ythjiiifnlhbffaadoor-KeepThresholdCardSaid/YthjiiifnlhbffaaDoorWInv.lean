-- Words of the kit's print, laid for this seat by print.sh; here only those that the claim's texts name (wip/gprint/trim.py).
import Derived.Test.YthjiiifnlhbffaaDoorWTab
/-! ### 57. A region of open order by ONE relation over what is listed so far: each operation is shown once, whatever came up before it -/
namespace Go.Proofs.YthjiiifnlhbffaaDoorW.PrintLast
section
variable {P : Program} {ops : Array Oper} {Q : Exit → Act → World → Prop} {md : Region.Mode} {T : Bool × List (List Nat × List Nat)} {B : List Nat} {O : List Nat} {b : Nat → Bool} {i j n : Nat}
end
end Go.Proofs.YthjiiifnlhbffaaDoorW.PrintLast

