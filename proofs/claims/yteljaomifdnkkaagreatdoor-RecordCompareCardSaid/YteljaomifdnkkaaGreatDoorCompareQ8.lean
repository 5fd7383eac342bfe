/- Plain law: the lines of a text. No program in sight but the models. -/
import Derived.Test.YteljaomifdnkkaaGreatDoorCompareQ7
set_option linter.unusedSimpArgs false
set_option linter.unusedVariables false
namespace Go.WK.S
open Go Go.Proofs Go.WK Go.RowKit
set_option maxRecDepth 100000
set_option linter.unusedVariables false
set_option linter.unusedSimpArgs false

/-! ### no line feed in a valid text -/
/-! ### lines -/
/-! ### the first line, as the program cuts it -/
end Go.WK.S
