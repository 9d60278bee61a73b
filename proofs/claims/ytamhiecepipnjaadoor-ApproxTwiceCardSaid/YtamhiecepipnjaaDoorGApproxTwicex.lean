-- Written by gprint (wip/gprint), this session's program over the kit's print. Not trusted: Lean checks it.
import Derived.Test.YtamhiecepipnjaaDoorGApproxTwicex0
import Derived.Test.YtamhiecepipnjaaDoorGApproxTwicex1
import Derived.Test.YtamhiecepipnjaaDoorGApproxTwicex2
import Derived.Test.YtamhiecepipnjaaDoorGApproxTwicex3
import Derived.Test.YtamhiecepipnjaaDoorGApproxTwicex4
import Derived.Test.YtamhiecepipnjaaDoorGApproxTwicex5
import Derived.Test.YtamhiecepipnjaaDoorGApproxTwicex6
import Derived.Test.YtamhiecepipnjaaDoorGApproxTwicex7
import Derived.Test.YtamhiecepipnjaaDoorGApproxTwicex8
import Derived.Test.YtamhiecepipnjaaDoorGApproxTwicex9
import Derived.Test.YtamhiecepipnjaaDoorGApproxTwicex10
namespace Go.Proofs.YtamhiecepipnjaaDoor.GApproxTwice
open Go.RowKit Go.Proofs.YtamhiecepipnjaaDoorW.PrintWords Go.Proofs.YtamhiecepipnjaaDoorW.PrintLast Go.Proofs.YtamhiecepipnjaaDoorW.PrintMore
attribute [local go_sem] max2_int min2_int max_two min_two max_three min_three max_four min_four   -- for this text's walks alone
set_option linter.unusedVariables false
set_option linter.unusedSimpArgs false

end Go.Proofs.YtamhiecepipnjaaDoor.GApproxTwice
