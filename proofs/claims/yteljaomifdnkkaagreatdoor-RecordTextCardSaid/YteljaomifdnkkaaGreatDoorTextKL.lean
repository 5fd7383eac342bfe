/- WK, part l: rows with a length, elements of rows written and read, the lesser of two. No program in sight. -/
import Derived.Test.YteljaomifdnkkaaGreatDoorTextKK
set_option linter.unusedSimpArgs false
set_option linter.unusedVariables false
namespace Go.WK
open Go.RowKit

section
variable {P : Program} {Q : Exit → Act → World → Prop} {g : Gh} {N : Nat} {st : St} {K : Act → World → Prop} {d ty T : Nat} {x y : Operand} {pos : String} {aft : Array Edge} {dst : Option Nat} {gd : Option (Nat × Bool)}
variable {z : Value} {sz by_ : Nat} {agg : Bool}

theorem row_set {α : Type} {E : Ty α} {F : Nat → Prop} {w : World} {xs : List α} {inner c : List Value} {xd : α} {ix : Nat} (h : (E.row xs inner).P F w) (hx : E.R F w xd c) (hi : ix < xs.length) :
  (E.row (xs.set ix xd) (inner.take (ix * E.sz) ++ c ++ inner.drop (ix * E.sz + c.length))).P F w := by
 obtain ⟨h0, h1⟩ := h
 have hl := E.len hx
 have hle : ix * E.sz + E.sz ≤ xs.length * E.sz := by rw [← Nat.succ_mul]; exact Nat.mul_le_mul_right _ hi
 refine ⟨by simp only [List.length_append, List.length_take, List.length_drop, List.length_set, h0, hl]; omega, fun j y hy => ?_⟩
 rw [List.getElem?_set] at hy
 have hA : (inner.take (ix * E.sz)).length = ix * E.sz := by rw [List.length_take]; omega
 split at hy
 ·rename_i he
  subst he
  injection hy with hy
  subst hy
  rw [List.append_assoc, List.drop_left' hA, List.take_left' hl]
  exact hx
 ·rename_i hne
  have := h1 j y hy
  have hjlt := (List.getElem?_eq_some_iff.1 hy).1
  have e : ((inner.take (ix * E.sz) ++ c ++ inner.drop (ix * E.sz + c.length)).drop (j * E.sz)).take E.sz = (inner.drop (j * E.sz)).take E.sz := by
   apply List.ext_getElem?
   intro q
   simp only [List.getElem?_take, List.getElem?_drop, List.getElem?_append, List.length_append, List.length_take, h0, hl]
   by_cases hq : q < E.sz
   ·simp only [hq, if_true]
    have hm : min (ix * E.sz) (xs.length * E.sz) = ix * E.sz := by omega
    rw [hm]
    rcases Nat.lt_or_ge j ix with hj | hj
    ·have h5 : j * E.sz + E.sz ≤ ix * E.sz := by rw [← Nat.succ_mul]; exact Nat.mul_le_mul_right _ hj
     rw [if_pos (by omega), if_pos (by omega), if_pos (by omega)]
    ·have h5 : ix * E.sz + E.sz ≤ j * E.sz := by rw [← Nat.succ_mul]; exact Nat.mul_le_mul_right _ (by omega)
     rw [if_neg (by omega)]
     congr 1
     omega
   ·simp only [hq, if_false]
  rw [e]
  exact this
theorem at_rowset {p : Act → World → Prop} {α : Type} {E : Ty α} {xs : List α} {xd : α} {inner c inner' : List Value} (i j ix : Nat) (hi : st.fs[i]? = some (E.row xs inner)) (hj : st.fs[j]? = some (E.fact xd c)) (hlt : ix < xs.length) (he : inner.take (ix * E.sz) ++ c ++ inner.drop (ix * E.sz + c.length) = inner')
  (k : At g N (st.addF (E.row (xs.set ix xd) inner')) p) : At g N st p := by
 subst he
 exact at_know _ (fun _ h4 => row_set (h4.fcs _ (List.mem_of_getElem? hi)) (h4.fcs _ (List.mem_of_getElem? hj)) hlt) k

end
end Go.WK
