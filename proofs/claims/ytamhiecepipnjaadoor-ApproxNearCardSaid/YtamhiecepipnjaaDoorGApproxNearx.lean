-- Written by gprint (wip/gprint), this session's program over the kit's print. Not trusted: Lean checks it.
import Derived.Test.YtamhiecepipnjaaDoorGApproxNearx0
import Derived.Test.YtamhiecepipnjaaDoorGApproxNearx1
import Derived.Test.YtamhiecepipnjaaDoorGApproxNearx2
import Derived.Test.YtamhiecepipnjaaDoorGApproxNearx3
import Derived.Test.YtamhiecepipnjaaDoorGApproxNearx4
import Derived.Test.YtamhiecepipnjaaDoorGApproxNearx5
import Derived.Test.YtamhiecepipnjaaDoorGApproxNearx6
import Derived.Test.YtamhiecepipnjaaDoorGApproxNearx7
import Derived.Test.YtamhiecepipnjaaDoorGApproxNearx8
import Derived.Test.YtamhiecepipnjaaDoorGApproxNearx9
import Derived.Test.YtamhiecepipnjaaDoorGApproxNearx10
namespace Go.Proofs.YtamhiecepipnjaaDoor.GApproxNear
open Go.RowKit Go.Proofs.YtamhiecepipnjaaDoorW.PrintWords Go.Proofs.YtamhiecepipnjaaDoorW.PrintLast Go.Proofs.YtamhiecepipnjaaDoorW.PrintMore
attribute [local go_sem] max2_int min2_int max_two min_two max_three min_three max_four min_four   -- for this text's walks alone
set_option linter.unusedVariables false
set_option linter.unusedSimpArgs false

end Go.Proofs.YtamhiecepipnjaaDoor.GApproxNear
