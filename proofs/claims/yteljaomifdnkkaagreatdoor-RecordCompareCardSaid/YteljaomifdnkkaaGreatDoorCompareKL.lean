/- WK, part l: rows with a length, elements of rows written and read, the lesser of two. No program in sight. -/
import Derived.Test.YteljaomifdnkkaaGreatDoorCompareKK
set_option linter.unusedSimpArgs false
set_option linter.unusedVariables false
namespace Go.WK
open Go.RowKit

section
variable {P : Program} {Q : Exit → Act → World → Prop} {g : Gh} {N : Nat} {st : St} {K : Act → World → Prop} {d ty T : Nat} {x y : Operand} {pos : String} {aft : Array Edge} {dst : Option Nat} {gd : Option (Nat × Bool)}
variable {z : Value} {sz by_ : Nat} {agg : Bool}

end
end Go.WK
