/- The program's knobs. -/
import Derived.Test.YtdogmcpmlglkfaaRows
import Derived.Test.YtdogmcpmlglkfaaOpn
import Derived.OpenShut
import Derived.ChangeOld
namespace Go.Proofs.Ytdogmcpmlglkfaa
open Go.ChangeShapes Go.WideShapes Go.ChangeAt Go.RowKit Go.Proofs.YtdogmcpmlglkfaaW.PrintWords

theorem own0 : ownKnob Try.prog.godebug = none := by kernel_rfl
theorem laid : laidOutB Try.prog = true := by kernel_rfl

end Go.Proofs.Ytdogmcpmlglkfaa
