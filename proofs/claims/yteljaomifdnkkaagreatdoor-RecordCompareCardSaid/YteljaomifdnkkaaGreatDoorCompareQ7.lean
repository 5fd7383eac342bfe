/- Plain law: the number of a record's text, of the program and of the reference. No program in sight but the models. -/
import Derived.Test.YteljaomifdnkkaaGreatDoorCompareQ6
import Derived.Lib.AtoiAllCases
set_option linter.unusedSimpArgs false
set_option linter.unusedVariables false
namespace Go.WK.S
open Go Go.Proofs Go.WK Go.RowKit
set_option maxRecDepth 100000
set_option linter.unusedVariables false
set_option linter.unusedSimpArgs false

/-! ### the reference's -/
end Go.WK.S
