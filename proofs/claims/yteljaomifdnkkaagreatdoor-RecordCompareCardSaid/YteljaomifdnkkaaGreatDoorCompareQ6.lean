/- Plain law: the reference's field of a line, whole. No program in sight but the models. -/
import Derived.Test.YteljaomifdnkkaaGreatDoorCompareQ5
set_option linter.unusedSimpArgs false
set_option linter.unusedVariables false
namespace Go.WK.S
open Go Go.Proofs Go.WK Go.RowKit
set_option maxRecDepth 100000
set_option linter.unusedVariables false
set_option linter.unusedSimpArgs false

/-! ### a line's parts are its subfields -/
end Go.WK.S
