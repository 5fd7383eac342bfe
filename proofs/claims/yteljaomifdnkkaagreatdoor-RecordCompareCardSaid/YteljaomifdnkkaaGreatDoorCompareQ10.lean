/- Plain law: Parse of the reference; what Parse and Print are to each other. No program in sight but the models. -/
import Derived.Test.YteljaomifdnkkaaGreatDoorCompareQ9
set_option linter.unusedSimpArgs false
set_option linter.unusedVariables false
namespace Go.WK.S
open Go Go.Proofs Go.WK Go.RowKit
set_option maxRecDepth 100000
set_option linter.unusedVariables false
set_option linter.unusedSimpArgs false

/-! ### the text of a valid record is read back -/
end Go.WK.S
