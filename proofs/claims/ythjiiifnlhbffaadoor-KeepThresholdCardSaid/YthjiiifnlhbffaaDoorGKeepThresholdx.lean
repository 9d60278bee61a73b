-- Written by gprint (wip/gprint), this session's program over the kit's print. Not trusted: Lean checks it.
import Derived.Test.YthjiiifnlhbffaaDoorGKeepThresholdx0
import Derived.Test.YthjiiifnlhbffaaDoorGKeepThresholdx1
import Derived.Test.YthjiiifnlhbffaaDoorGKeepThresholdx2
import Derived.Test.YthjiiifnlhbffaaDoorGKeepThresholdx3
import Derived.Test.YthjiiifnlhbffaaDoorGKeepThresholdx4
import Derived.Test.YthjiiifnlhbffaaDoorGKeepThresholdx5
import Derived.Test.YthjiiifnlhbffaaDoorGKeepThresholdx6
import Derived.Test.YthjiiifnlhbffaaDoorGKeepThresholdx7
import Derived.Test.YthjiiifnlhbffaaDoorGKeepThresholdx8
import Derived.Test.YthjiiifnlhbffaaDoorGKeepThresholdx9
import Derived.Test.YthjiiifnlhbffaaDoorGKeepThresholdx10
import Derived.Test.YthjiiifnlhbffaaDoorGKeepThresholdx11
import Derived.Test.YthjiiifnlhbffaaDoorGKeepThresholdx12
import Derived.Test.YthjiiifnlhbffaaDoorGKeepThresholdx13
namespace Go.Proofs.YthjiiifnlhbffaaDoor.GKeepThreshold
open Go.RowKit Go.Proofs.YthjiiifnlhbffaaDoorW.PrintWords Go.Proofs.YthjiiifnlhbffaaDoorW.PrintLast Go.Proofs.YthjiiifnlhbffaaDoorW.PrintMore
attribute [local go_sem] max2_int min2_int max_two min_two max_three min_three max_four min_four   -- for this text's walks alone
set_option linter.unusedVariables false
set_option linter.unusedSimpArgs false

end Go.Proofs.YthjiiifnlhbffaaDoor.GKeepThreshold
