/- Plain law: the reference's field of a line. No program in sight but the models. -/
import Derived.Test.YteljaomifdnkkaaGreatDoorCompareQ4
set_option linter.unusedSimpArgs false
set_option linter.unusedVariables false
namespace Go.WK.S
open Go Go.Proofs Go.WK Go.RowKit
set_option maxRecDepth 100000
set_option linter.unusedVariables false
set_option linter.unusedSimpArgs false

/-! ### the parts of a line -/
/-! ### a value without its backslashes -/
end Go.WK.S
