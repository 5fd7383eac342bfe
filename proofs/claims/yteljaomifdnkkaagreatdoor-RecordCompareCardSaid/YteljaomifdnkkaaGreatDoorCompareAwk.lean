import Derived.Test.YteljaomifdnkkaaGreatDoorCompareQ10
import Derived.KernelRfl
set_option linter.unusedSimpArgs false
set_option linter.unusedVariables false
namespace Go.WK.S
open Go Go.Proofs Go.WK Go.RowKit
set_option maxRecDepth 100000
set_option linter.unusedVariables false
set_option linter.unusedSimpArgs false
theorem awake_true : m11 = some true := by kernel_rfl
end Go.WK.S
