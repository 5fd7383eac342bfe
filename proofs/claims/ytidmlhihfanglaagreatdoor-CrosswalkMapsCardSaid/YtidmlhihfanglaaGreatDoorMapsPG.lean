/- Plain law: the program's canonical form, its equality, what it says that a map covers. No program in sight but the models. -/
import Derived.Test.YtidmlhihfanglaaGreatDoorMapsPD
set_option linter.unusedSimpArgs false
set_option linter.unusedVariables false
namespace Go.WK.S
open Go Go.Proofs Go.WK Go.RowKit
set_option maxRecDepth 100000
set_option linter.unusedVariables false
set_option linter.unusedSimpArgs false

/-! ### covers, the program's -/
end Go.WK.S
