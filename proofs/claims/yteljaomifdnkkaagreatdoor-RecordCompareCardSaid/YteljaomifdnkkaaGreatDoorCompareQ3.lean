/- Plain law: the program's field of a line. No program in sight but the models. -/
import Derived.Test.YteljaomifdnkkaaGreatDoorCompareQ2
set_option linter.unusedSimpArgs false
set_option linter.unusedVariables false
namespace Go.WK.S
open Go Go.Proofs Go.WK Go.RowKit
set_option maxRecDepth 100000
set_option linter.unusedVariables false
set_option linter.unusedSimpArgs false

/-! ### the value with which a string begins -/
end Go.WK.S
