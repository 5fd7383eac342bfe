/- Plain law: texts: decoding, trimming, validity. No program in sight but the models. -/
import Derived.Test.YtidmlhihfanglaaGreatDoorMapsPV3
import Derived.Lib.DecodeN
set_option linter.unusedSimpArgs false
set_option linter.unusedVariables false
namespace Go.WK.S
open Go Go.Proofs Go.WK Go.RowKit
set_option maxRecDepth 100000
set_option linter.unusedVariables false
set_option linter.unusedSimpArgs false

def by_ (t : Str) (k : Nat) : Nat := (t.getD k 0).toNat
def dec (t : Str) : Nat × Nat := Lib.decodeN t.length (by_ t 0) (by_ t 1) (by_ t 2) (by_ t 3)
/-- A character that both know. -/
def good1 (t : Str) : Bool := !decide ((dec t).1 = 65533) && hasC ((dec t).1 : Int)

end Go.WK.S
