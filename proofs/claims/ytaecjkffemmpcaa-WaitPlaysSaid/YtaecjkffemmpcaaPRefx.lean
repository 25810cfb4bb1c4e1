-- PRINTED by print.py (a twelfth state) out of the translation. Not trusted: Lean checks it.
import Derived.Test.YtaecjkffemmpcaaPRefx0
import Derived.Test.YtaecjkffemmpcaaPRefx1
import Derived.Test.YtaecjkffemmpcaaPRefx2
namespace Go.Proofs.Ytaecjkffemmpcaa.PRef
open Go.RowKit Go.Proofs.YtaecjkffemmpcaaW.PrintWords Go.Proofs.YtaecjkffemmpcaaW.PrintLast Go.Proofs.YtaecjkffemmpcaaW.PrintMore
attribute [local go_sem] max2_int min2_int max_two min_two max_three min_three max_four min_four   -- for this text's walks alone
set_option linter.unusedVariables false
set_option linter.unusedSimpArgs false

end Go.Proofs.Ytaecjkffemmpcaa.PRef
