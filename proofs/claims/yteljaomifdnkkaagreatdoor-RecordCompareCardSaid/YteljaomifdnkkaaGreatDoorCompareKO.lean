/- WK, part o: a row as a variable while its elements are read and written; contracts of what writes rows that come in. No program in sight. -/
import Derived.Test.YteljaomifdnkkaaGreatDoorCompareKN
set_option linter.unusedSimpArgs false
set_option linter.unusedVariables false
namespace Go.WK
open Go.RowKit

/-- What must hold of a row's block besides its cells. -/
def RowF (v : Value) (g n sz cap len : Nat) : Prop := v = .slice (some ⟨g, 0, none⟩) n (cap + 1) ∧ n ≤ cap + 1 ∧ cap + 1 ≤ maxLen ∧ len = (cap + 1) * sz

section
variable {P : Program} {Q : Exit → Act → World → Prop} {g : Gh} {N : Nat} {st : St} {K : Act → World → Prop} {d ty T : Nat} {x y : Operand} {pos : String} {aft : Array Edge} {dst : Option Nat} {gd : Option (Nat × Bool)}
variable {z : Value} {sz by_ : Nat} {agg : Bool}

theorem RowF.len {v : Value} {b n cap l l' : Nat} (h : RowF v b n sz cap l) (e : l' = l) : RowF v b n sz cap l' := by subst e; exact h
end

theorem compareBytes_bd : ∀ (a b : Str), Lib.compareBytes a b = -1 ∨ Lib.compareBytes a b = 0 ∨ Lib.compareBytes a b = 1
 | [], [] => .inr (.inl rfl)
 | [], _ :: _ => .inl rfl
 | _ :: _, [] => .inr (.inr rfl)
 | x :: a, y :: b => by
  unfold Lib.compareBytes
  repeat' split
  all_goals first | exact compareBytes_bd a b | simp
end Go.WK
