/- Plain law, part c: texts of maps, what reads them; CrosswalkText. No program in sight but the models. -/
import Derived.Test.YtidmlhihfanglaaGreatDoorMapsPB
import Derived.Test.YtidmlhihfanglaaGreatDoorMapsAwake
set_option linter.unusedSimpArgs false
set_option linter.unusedVariables false
namespace Go.WK.S
open Go Go.Proofs Go.WK Go.RowKit
set_option maxRecDepth 100000
set_option linter.unusedVariables false
set_option linter.unusedSimpArgs false

/-! ### lines -/
/-! ### what reads a text, by its lines -/
noncomputable def rd (s : Str) : Option E := @dite _ (∃ x, Good x ∧ line x = s) (Classical.propDecidable _) (fun h => some h.choose) (fun _ => none)
/-! ### what is read -/
/-! ### texts -/
def full (x : E) : Str := line x ++ [10]
def txt (m : List E) : Str := m.flatMap full
theorem txt_len {m : List E} (h : ∀ x ∈ m, Good x) : (txt m).length ≤ 154 * m.length := by
 induction m with
 | nil => simp [txt]
 | cons x m ih =>
  have a := ih (fun y hy => h y (by simp [hy]))
  have b := line_len (h x (by simp))
  have e : (txt (x :: m)).length = (line x).length + 1 + (txt m).length := by simp [txt, full]; omega
  rw [e, List.length_cons]
  omega
theorem m23_eq (m : List E) : m23 m = some (if val m = true then (txt m, 0) else ([], 1)) := by
 unfold m23
 rw [m27_eq]
 simp only [Option.bind_some]
 by_cases hv : val m = true
 ·rw [if_pos hv, if_pos hv]
  have V := val_iff.1 hv
  have hl := txt_len V.good
  have h60 := V.2
  have L := foldStr (xs := m) (lp := m23_l1 m) full 9223372036854775807 ?_ ?_ (m.length + 1) [] 0 (by omega) (by omega) (by rw [List.drop_zero]; show 0 + (txt m).length ≤ _; omega)
  ·rw [L]; rfl
  ·intro k acc i x hx ha
   have hi := getq_lt hx
   rw [m23_l1, if_pos hi, hx]
   simp only [Option.bind_some]
   have hg := V.good x (List.mem_of_getElem? hx)
   rw [m54_eq (x := ⟨x.From, x.To, x.Codes⟩) hg]
   have hll := line_len hg
   simp only [Option.bind_some]
   have e : (full x).length = (line x).length + 1 := by simp [full]
   have e2 : (line (⟨x.From, x.To, x.Codes⟩ : E)) = line x := rfl
   rw [e2, if_pos (by simp; omega), if_pos (by simp only [List.length_append, List.length_cons, List.length_nil]; omega)]
   rfl
  ·intro k acc i hi
   rw [m23_l1, if_neg hi]
 ·rw [if_neg hv, if_neg hv]

end Go.WK.S
