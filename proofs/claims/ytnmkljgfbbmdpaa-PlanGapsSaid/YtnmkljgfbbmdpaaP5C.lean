/- Guards of the laws: they return true. -/
import Derived.Test.YtnmkljgfbbmdpaaP50
open Go Go.Proofs.Ytnmkljgfbbmdpaa.Fw
namespace Go.Proofs.Ytnmkljgfbbmdpaa
set_option maxRecDepth 100000
set_option linter.unusedVariables false


end Go.Proofs.Ytnmkljgfbbmdpaa
