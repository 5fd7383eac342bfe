/- Plain law: texts: decoding, trimming, validity. No program in sight but the models. -/
import Derived.Test.YteljaomifdnkkaaGreatDoorReadYV3
import Derived.Lib.DecodeN
set_option linter.unusedSimpArgs false
set_option linter.unusedVariables false
namespace Go.WK.S
open Go Go.Proofs Go.WK Go.RowKit
set_option maxRecDepth 100000
set_option linter.unusedVariables false
set_option linter.unusedSimpArgs false

def by_ (t : Str) (k : Nat) : Nat := (t.getD k 0).toNat
end Go.WK.S
