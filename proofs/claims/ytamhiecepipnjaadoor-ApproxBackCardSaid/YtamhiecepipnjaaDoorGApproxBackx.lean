-- Written by gprint (wip/gprint), this session's program over the kit's print. Not trusted: Lean checks it.
import Derived.Test.YtamhiecepipnjaaDoorGApproxBackx0
import Derived.Test.YtamhiecepipnjaaDoorGApproxBackx1
import Derived.Test.YtamhiecepipnjaaDoorGApproxBackx2
import Derived.Test.YtamhiecepipnjaaDoorGApproxBackx3
import Derived.Test.YtamhiecepipnjaaDoorGApproxBackx4
import Derived.Test.YtamhiecepipnjaaDoorGApproxBackx5
import Derived.Test.YtamhiecepipnjaaDoorGApproxBackx6
import Derived.Test.YtamhiecepipnjaaDoorGApproxBackx7
import Derived.Test.YtamhiecepipnjaaDoorGApproxBackx8
import Derived.Test.YtamhiecepipnjaaDoorGApproxBackx9
namespace Go.Proofs.YtamhiecepipnjaaDoor.GApproxBack
open Go.RowKit Go.Proofs.YtamhiecepipnjaaDoorW.PrintWords Go.Proofs.YtamhiecepipnjaaDoorW.PrintLast Go.Proofs.YtamhiecepipnjaaDoorW.PrintMore
attribute [local go_sem] max2_int min2_int max_two min_two max_three min_three max_four min_four   -- for this text's walks alone
set_option linter.unusedVariables false
set_option linter.unusedSimpArgs false

end Go.Proofs.YtamhiecepipnjaaDoor.GApproxBack
