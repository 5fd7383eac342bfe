import Derived.Test.YtidmlhihfanglaaGreatDoorTextF05
import Derived.KernelRfl
namespace Go.WK.S
open Go Go.Proofs Go.WK Go.RowKit
set_option maxRecDepth 100000
theorem awake_true : m10 = some true := by kernel_rfl
end Go.WK.S
