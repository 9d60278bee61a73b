-- Written by gprint (wip/gprint), this session's program over the kit's print. Not trusted: Lean checks it.
import Derived.Test.YtamhiecepipnjaaDoorGApproxRisesx0
import Derived.Test.YtamhiecepipnjaaDoorGApproxRisesx1
import Derived.Test.YtamhiecepipnjaaDoorGApproxRisesx2
import Derived.Test.YtamhiecepipnjaaDoorGApproxRisesx3
import Derived.Test.YtamhiecepipnjaaDoorGApproxRisesx4
import Derived.Test.YtamhiecepipnjaaDoorGApproxRisesx5
import Derived.Test.YtamhiecepipnjaaDoorGApproxRisesx6
import Derived.Test.YtamhiecepipnjaaDoorGApproxRisesx7
import Derived.Test.YtamhiecepipnjaaDoorGApproxRisesx8
import Derived.Test.YtamhiecepipnjaaDoorGApproxRisesx9
import Derived.Test.YtamhiecepipnjaaDoorGApproxRisesx10
namespace Go.Proofs.YtamhiecepipnjaaDoor.GApproxRises
open Go.RowKit Go.Proofs.YtamhiecepipnjaaDoorW.PrintWords Go.Proofs.YtamhiecepipnjaaDoorW.PrintLast Go.Proofs.YtamhiecepipnjaaDoorW.PrintMore
attribute [local go_sem] max2_int min2_int max_two min_two max_three min_three max_four min_four   -- for this text's walks alone
set_option linter.unusedVariables false
set_option linter.unusedSimpArgs false

end Go.Proofs.YtamhiecepipnjaaDoor.GApproxRises
