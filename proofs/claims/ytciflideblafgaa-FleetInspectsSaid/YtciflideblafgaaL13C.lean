/- Guards of the laws: they return true. -/
import Derived.Test.YtciflideblafgaaL131
open Go Go.Proofs.Ytciflideblafgaa.Fw
namespace Go.Proofs.Ytciflideblafgaa
set_option maxRecDepth 100000
set_option linter.unusedVariables false


end Go.Proofs.Ytciflideblafgaa
