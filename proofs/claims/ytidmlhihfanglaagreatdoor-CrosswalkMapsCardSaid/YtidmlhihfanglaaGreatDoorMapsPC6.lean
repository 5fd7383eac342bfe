/- Plain law: a field's conversion, as both convert it. No program in sight but the models. -/
import Derived.Test.YtidmlhihfanglaaGreatDoorMapsPQ
set_option linter.unusedSimpArgs false
set_option linter.unusedVariables false
namespace Go.WK.S
open Go Go.Proofs Go.WK Go.RowKit
set_option maxRecDepth 100000
set_option linter.unusedVariables false
set_option linter.unusedSimpArgs false

/-! ### fields, as both convert them -/
end Go.WK.S
