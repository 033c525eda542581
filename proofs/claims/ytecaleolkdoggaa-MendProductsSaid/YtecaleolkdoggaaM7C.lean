/- Guards of the laws: they return true. -/
import Derived.Test.YtecaleolkdoggaaM71
open Go Go.Proofs.Ytecaleolkdoggaa.Fw
namespace Go.Proofs.Ytecaleolkdoggaa
set_option maxRecDepth 100000
set_option linter.unusedVariables false


end Go.Proofs.Ytecaleolkdoggaa
