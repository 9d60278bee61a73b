-- Words of the kit's print, laid for this seat by print.sh; here only those that the claim's texts name (wip/gprint/trim.py).
import Derived.Test.YtamhiecepipnjaaDoorWN
/-! ### 52. A row that stays read whatever happens to a block (a set of blocks) doesn't lie there -/
namespace Go.Proofs.YtamhiecepipnjaaDoorW.PrintWords
open Go.RowKit
namespace Kd
section
variable {α : Type} {d : Kd α} {W : World} {g n : Nat} {S ok : Nat → Prop} {A : Option Addr} {ad : Addr} {xs : List α}
end
end Kd
end Go.Proofs.YtamhiecepipnjaaDoorW.PrintWords

