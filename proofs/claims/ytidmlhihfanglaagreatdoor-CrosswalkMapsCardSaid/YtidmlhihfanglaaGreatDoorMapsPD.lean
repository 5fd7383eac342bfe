/- Plain law 3: what a map covers; to and back again. No program in sight but the models. -/
import Derived.Test.YtidmlhihfanglaaGreatDoorMapsPQ2
import Derived.Test.YtidmlhihfanglaaGreatDoorMapsPS2
import Derived.Test.YtidmlhihfanglaaGreatDoorMapsAwake
set_option linter.unusedSimpArgs false
set_option linter.unusedVariables false
namespace Go.WK.S
open Go Go.Proofs Go.WK Go.RowKit
set_option maxRecDepth 100000
set_option linter.unusedVariables false
set_option linter.unusedSimpArgs false

/-! ### what a map covers -/
/-! ### fields converted whole -/
end Go.WK.S
