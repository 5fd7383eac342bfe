/- Plain law: the reference's canonical form. No program in sight but the models. -/
import Derived.Test.YtidmlhihfanglaaGreatDoorMapsPS
set_option linter.unusedSimpArgs false
set_option linter.unusedVariables false
namespace Go.WK.S
open Go Go.Proofs Go.WK Go.RowKit
set_option maxRecDepth 100000
set_option linter.unusedVariables false
set_option linter.unusedSimpArgs false
/-! ### the reference's canonical form -/

end Go.WK.S
