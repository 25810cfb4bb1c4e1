-- PRINTED by print.py (a twelfth state) out of the translation. Not trusted: Lean checks it.
import Derived.Test.YtdogmcpmlglkfaaPRefx0
import Derived.Test.YtdogmcpmlglkfaaPRefx1
namespace Go.Proofs.Ytdogmcpmlglkfaa.PRef
open Go.RowKit Go.Proofs.YtdogmcpmlglkfaaW.PrintWords Go.Proofs.YtdogmcpmlglkfaaW.PrintLast Go.Proofs.YtdogmcpmlglkfaaW.PrintMore
attribute [local go_sem] max2_int min2_int max_two min_two max_three min_three max_four min_four   -- for this text's walks alone
set_option linter.unusedVariables false
set_option linter.unusedSimpArgs false

end Go.Proofs.Ytdogmcpmlglkfaa.PRef
