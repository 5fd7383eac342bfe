/- Plain law: characters and texts: the program's and the reference's answers are one. No program in sight but the models. -/
import Derived.Test.YteljaomifdnkkaaGreatDoorReadYV2
set_option linter.unusedSimpArgs false
set_option linter.unusedVariables false
namespace Go.WK.S
open Go Go.Proofs Go.WK Go.RowKit
set_option maxRecDepth 100000
set_option linter.unusedVariables false
set_option linter.unusedSimpArgs false
attribute [local irreducible] latB grkB cyrB win

end Go.WK.S
