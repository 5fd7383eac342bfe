/- Plain law: records of the size that the laws ask for. No program in sight but the models. -/
import Derived.Test.YteljaomifdnkkaaGreatDoorLinesYR
set_option linter.unusedSimpArgs false
set_option linter.unusedVariables false
namespace Go.WK.S
open Go Go.Proofs Go.WK Go.RowKit
set_option maxRecDepth 100000
set_option linter.unusedVariables false
set_option linter.unusedSimpArgs false

/-! ### records of the size that the laws ask for -/

end Go.WK.S
