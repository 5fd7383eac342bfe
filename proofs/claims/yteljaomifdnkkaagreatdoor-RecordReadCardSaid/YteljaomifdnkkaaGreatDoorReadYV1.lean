/- Plain law: characters. The searches for a character in a list of letters. No program in sight but the models. -/
import Derived.Test.YteljaomifdnkkaaGreatDoorReadYA
set_option linter.unusedSimpArgs false
set_option linter.unusedVariables false
namespace Go.WK.S
open Go Go.Proofs Go.WK Go.RowKit
set_option maxRecDepth 100000
set_option linter.unusedVariables false
set_option linter.unusedSimpArgs false

theorem at?_of {α : Type} {xs : List α} {i : Nat} {x : α} (h : xs[i]? = some x) : at? xs (i : Int) = some x := by rw [at?_nat]; exact h
theorem at?_eq {α : Type} {xs : List α} {n : Int} {i : Nat} {x : α} (e : n = (i : Int)) (h : xs[i]? = some x) : at? xs n = some x := by rw [e]; exact at?_of h

/-! ### lists of letters of two bytes -/
def two : Str → Bool
  | [] => true
  | [_] => false
  | x :: y :: t => decide (194 ≤ x.toNat ∧ x.toNat < 224 ∧ 128 ≤ y.toNat ∧ y.toNat < 192) && two t
def code2 (x y : UInt8) : Int := ((x.toNat : Int) - 192) * 64 + ((y.toNat : Int) - 128)
def win : Str → List Int
  | [] => []
  | [_] => []
  | x :: y :: t => code2 x y :: win t
/-! ### the reference's search -/
/-! ### the program's search -/
end Go.WK.S
