-- PRINTED by print.py (a twelfth state) out of the translation. Not trusted: Lean checks it.
import Derived.Test.YtplgelmfhacjkaaPRefx0
import Derived.Test.YtplgelmfhacjkaaPRefx1
import Derived.Test.YtplgelmfhacjkaaPRefx2
import Derived.Test.YtplgelmfhacjkaaPRefx3
namespace Go.Proofs.Ytplgelmfhacjkaa.PRef
open Go.RowKit Go.Proofs.YtplgelmfhacjkaaW.PrintWords Go.Proofs.YtplgelmfhacjkaaW.PrintLast Go.Proofs.YtplgelmfhacjkaaW.PrintMore
attribute [local go_sem] max2_int min2_int max_two min_two max_three min_three max_four min_four   -- for this text's walks alone
set_option linter.unusedVariables false
set_option linter.unusedSimpArgs false

end Go.Proofs.Ytplgelmfhacjkaa.PRef
