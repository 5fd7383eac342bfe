/- Plain law: records of the size that the laws ask for. No program in sight but the models. -/
import Derived.Test.YteljaomifdnkkaaGreatDoorCompareYR
set_option linter.unusedSimpArgs false
set_option linter.unusedVariables false
namespace Go.WK.S
open Go Go.Proofs Go.WK Go.RowKit
set_option maxRecDepth 100000
set_option linter.unusedVariables false
set_option linter.unusedSimpArgs false

/-! ### records of the size that the laws ask for -/
theorem few_l2 (x : FD) : (m12_l2 x (x.Subs.length + 1) 0 = some (.go ()) ∧ ∀ s ∈ x.Subs, s.Value.length ≤ 402) ∨ m12_l2 x (x.Subs.length + 1) 0 = some (.ret (.ret false)) := by
 have L := chkW (lp := m12_l2 x) (n := x.Subs.length) (fun j => ∀ s, x.Subs[j]? = some s → s.Value.length ≤ 402) (.ret false) ?_ ?_ (x.Subs.length + 1) 0 (by omega) (by omega)
 ·rw [all_get] at L; exact L
 ·intro k i hi
  obtain ⟨s, hs⟩ := getq hi
  rw [m12_l2, if_pos hi, hs]
  simp only [Option.bind_some]
  repeat' split
  all_goals first | exact .inr rfl | exact .inl ⟨rfl, fun s' hs' => by obtain rfl := Option.some.inj hs'; omega⟩
 ·intro k i hi
  rw [m12_l2, if_neg hi]
theorem few_l3 (x : FD) : m12_l3 x = m12_l2 x := by
 funext k
 induction k with
 | zero => rfl
 | succ k ih => funext i; rw [m12_l3, m12_l2, ih]
theorem few_l4 (x : FD) : m12_l4 x = m12_l2 x := by
 funext k
 induction k with
 | zero => rfl
 | succ k ih => funext i; rw [m12_l4, m12_l2, ih]
theorem m12_eq (r : RD) (n : Int) : ∃ b, m12 r n = some b ∧ (b = true → (r.Fields.length : Int) ≤ n ∧ ∀ f ∈ r.Fields, FewF f) := by
 unfold m12
 have L := chkW (lp := m12_l1 r) (n := r.Fields.length) (fun j => ∀ f, r.Fields[j]? = some f → FewF f) false ?_ ?_ (r.Fields.length + 1) 0 (by omega) (by omega)
 ·rw [all_get] at L
  rcases L with ⟨e, h⟩ | e
  ·rw [e]; exact ⟨_, rfl, fun hh => ⟨of_decide_eq_true hh, h⟩⟩
  ·rw [e]; exact ⟨_, rfl, fun hh => by cases hh⟩
 ·intro k i hi
  obtain ⟨f, hf⟩ := getq hi
  rw [m12_l1, if_pos hi, hf]
  simp only [Option.bind_some, few_l3, few_l4]
  rcases few_l2 f with ⟨e, h⟩ | e
  ·rw [e]
   simp only [Option.bind_some]
   repeat' split
   all_goals first | exact .inr rfl | exact .inl ⟨rfl, fun s' hs' => by obtain rfl := Option.some.inj hs'; exact ⟨by omega, h⟩⟩
  ·rw [e]
   simp only [Option.bind_some]
   repeat' split
   all_goals exact .inr rfl
 ·intro k i hi
  rw [m12_l1, if_neg hi]

end Go.WK.S
