/- Plain law: texts: decoding, trimming, validity. No program in sight but the models. -/
import Derived.Test.YtidmlhihfanglaaGreatDoorMapsPV4
set_option linter.unusedSimpArgs false
set_option linter.unusedVariables false
namespace Go.WK.S
open Go Go.Proofs Go.WK Go.RowKit
set_option maxRecDepth 100000
set_option linter.unusedVariables false
set_option linter.unusedSimpArgs false

def okN : Nat → Str → Bool
  | 0, t => decide (t = [])
  | n + 1, t => if t = [] then true else if good1 t = true then okN n (t.drop (dec t).2) else false

/-! ### trimming -/
/-! ### texts -/
def textOk (s : Str) : Bool := decide (1 ≤ s.length ∧ s.length ≤ 400 ∧ s[0]? ≠ some 32 ∧ s[s.length - 1]? ≠ some 32) && okN s.length s
end Go.WK.S
