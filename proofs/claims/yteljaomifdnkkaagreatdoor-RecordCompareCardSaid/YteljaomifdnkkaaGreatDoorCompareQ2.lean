/- Plain law: numbers and the text of a record, of the program and of the reference. No program in sight but the models. -/
import Derived.Test.YteljaomifdnkkaaGreatDoorCompareQ1
set_option linter.unusedSimpArgs false
set_option linter.unusedVariables false
namespace Go.WK.S
open Go Go.Proofs Go.WK Go.RowKit
set_option maxRecDepth 100000
set_option linter.unusedVariables false
set_option linter.unusedSimpArgs false

/-! ### the text of a record -/
theorem tag_of {f : FD} (h : fieldOk f = true) : tagOk f.Tag = true := by unfold fieldOk at h; simp only [Bool.and_eq_true] at h; exact h.1.1.1.1
theorem recOk_id {r : RD} (h : recOk r = true) : (1 ≤ r.ID ∧ r.ID ≤ 1000000000) ∧ (1 ≤ r.Fields.length ∧ r.Fields.length ≤ 60) ∧ ∀ f ∈ r.Fields, fieldOk f = true := by
 unfold recOk at h
 simp only [Bool.and_eq_true, decide_eq_true_eq, List.all_eq_true] at h
 exact ⟨h.1.1, h.1.2, h.2⟩
end Go.WK.S
