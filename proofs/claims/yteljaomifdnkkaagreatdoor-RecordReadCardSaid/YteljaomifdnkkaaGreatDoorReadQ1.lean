/- Plain law: the line of a field, of the program and of the reference. No program in sight but the models. -/
import Derived.Test.YteljaomifdnkkaaGreatDoorReadYR2
set_option linter.unusedSimpArgs false
set_option linter.unusedVariables false
namespace Go.WK.S
open Go Go.Proofs Go.WK Go.RowKit
set_option maxRecDepth 100000
set_option linter.unusedVariables false
set_option linter.unusedSimpArgs false

end Go.WK.S
