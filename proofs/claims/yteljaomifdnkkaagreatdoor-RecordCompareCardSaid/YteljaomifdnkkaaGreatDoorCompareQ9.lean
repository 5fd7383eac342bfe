/- Plain law: Parse, of the program and of the reference. No program in sight but the models. -/
import Derived.Test.YteljaomifdnkkaaGreatDoorCompareQ8
set_option linter.unusedSimpArgs false
set_option linter.unusedVariables false
namespace Go.WK.S
open Go Go.Proofs Go.WK Go.RowKit
set_option maxRecDepth 100000
set_option linter.unusedVariables false
set_option linter.unusedSimpArgs false

/-- The field of a line, if it is one. -/
def fld (s : Str) : Option FD := (m56 s).bind fun r => if r.2 = true then some r.1 else none
/-! ### the text of a record, read -/
def zeroR : RD := ⟨0, []⟩
def body : Nat → List Str → Str → Int → List FD → RD × Int × Int
  | at_, [], rest, id, fs => if 1 < at_ ∧ rest = [] then (⟨id, fs⟩, 0, 0) else (zeroR, (at_ : Int), 7)
  | at_, l :: L, rest, id, fs => if 60 < at_ then (zeroR, (at_ : Int), 7) else match fld l with
    | none => (zeroR, (at_ : Int), 7)
    | some f => body (at_ + 1) L rest id (fs ++ [f])
end Go.WK.S
