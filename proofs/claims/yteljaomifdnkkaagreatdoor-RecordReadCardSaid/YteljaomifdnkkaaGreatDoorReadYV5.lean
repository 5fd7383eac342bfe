/- Plain law: texts: decoding, trimming, validity. No program in sight but the models. -/
import Derived.Test.YteljaomifdnkkaaGreatDoorReadYV4
set_option linter.unusedSimpArgs false
set_option linter.unusedVariables false
namespace Go.WK.S
open Go Go.Proofs Go.WK Go.RowKit
set_option maxRecDepth 100000
set_option linter.unusedVariables false
set_option linter.unusedSimpArgs false

/-! ### trimming -/
/-! ### texts -/
end Go.WK.S
