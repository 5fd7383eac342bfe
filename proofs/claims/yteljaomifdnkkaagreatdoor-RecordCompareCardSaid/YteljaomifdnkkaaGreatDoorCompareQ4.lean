/- Plain law: the program's field of a line, whole. No program in sight but the models. -/
import Derived.Test.YteljaomifdnkkaaGreatDoorCompareQ3
set_option linter.unusedSimpArgs false
set_option linter.unusedVariables false
namespace Go.WK.S
open Go Go.Proofs Go.WK Go.RowKit
set_option maxRecDepth 100000
set_option linter.unusedVariables false
set_option linter.unusedSimpArgs false

theorem subOk_val {s : SD} (h : subOk s = true) : isC s.Code = true ∧ textOk s.Value = true := by unfold subOk at h; simpa using h
theorem textOk_ends {v : Str} (h : textOk v = true) : (1 ≤ v.length ∧ v.length ≤ 400) ∧ v.getLast? ≠ some 32 ∧ v[0]? ≠ some 32 := by
  unfold textOk at h
  simp only [Bool.and_eq_true, decide_eq_true_eq] at h
  refine ⟨⟨h.1.1, h.1.2.1⟩, ?_, h.1.2.2.1⟩
  rw [List.getLast?_eq_getElem?]
  exact h.1.2.2.2
theorem field_parts {f : FD} (h : fieldOk f = true) : f.Tag.length = 3 ∧ indOk f.Ind_0 = true ∧ indOk f.Ind_1 = true ∧ (1 ≤ f.Subs.length ∧ f.Subs.length ≤ 20) ∧ ∀ s ∈ f.Subs, subOk s = true := by
  have ht := tagOk_len (tag_of h)
  unfold fieldOk at h
  simp only [Bool.and_eq_true, decide_eq_true_eq, List.all_eq_true] at h
  exact ⟨ht, h.1.1.1.2, h.1.1.2, h.1.2, h.2⟩
end Go.WK.S
