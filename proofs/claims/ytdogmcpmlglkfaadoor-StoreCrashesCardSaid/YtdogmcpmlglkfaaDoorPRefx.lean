-- PRINTED by print.py (a twelfth state) out of the translation. Not trusted: Lean checks it.
import Derived.Test.YtdogmcpmlglkfaaDoorPRefx0
import Derived.Test.YtdogmcpmlglkfaaDoorPRefx1
import Derived.Test.YtdogmcpmlglkfaaDoorPRefx2
namespace Go.Proofs.YtdogmcpmlglkfaaDoor.PRef
open Go.RowKit Go.Proofs.YtdogmcpmlglkfaaDoorW.PrintWords Go.Proofs.YtdogmcpmlglkfaaDoorW.PrintLast Go.Proofs.YtdogmcpmlglkfaaDoorW.PrintMore
attribute [local go_sem] max2_int min2_int max_two min_two max_three min_three max_four min_four   -- for this text's walks alone
set_option linter.unusedVariables false
set_option linter.unusedSimpArgs false

end Go.Proofs.YtdogmcpmlglkfaaDoor.PRef
