/- Plain law: records, their form, equality, places in maps, conversion, lossless maps. No program in sight but the models. -/
import Derived.Test.YteljaomifdnkkaaGreatDoorReadYV5
set_option linter.unusedSimpArgs false
set_option linter.unusedVariables false
namespace Go.WK.S
open Go Go.Proofs Go.WK Go.RowKit
set_option maxRecDepth 100000
set_option linter.unusedVariables false
set_option linter.unusedSimpArgs false

/-! ### loops that search, loops that check -/
theorem chkW {β : Type} {lp : Nat → Nat → Option (Fl β Unit)} {n : Nat} (c : Nat → Prop) (bad : β)
  (h : ∀ k i, i < n → (lp (k + 1) i = lp k (i + 1) ∧ c i) ∨ lp (k + 1) i = some (.ret bad))
  (h3 : ∀ k i, ¬ i < n → lp (k + 1) i = some (.go ())) :
  ∀ k i, i ≤ n → n < k + i → (lp k i = some (.go ()) ∧ ∀ j, i ≤ j → j < n → c j) ∨ lp k i = some (.ret bad) := by
 intro k
 induction k with
 | zero => intro i hi hk; omega
 | succ k ih =>
  intro i hi hk
  by_cases hn : i < n
  ·rcases h k i hn with ⟨e, hc⟩ | e
   ·rw [e]
    rcases ih (i + 1) (by omega) (by omega) with ⟨e2, h2⟩ | e2
    ·refine .inl ⟨e2, fun j h1 h3 => ?_⟩
     by_cases hj : j = i
     ·subst hj; exact hc
     ·exact h2 j (by omega) h3
    ·exact .inr e2
   ·exact .inr e
  ·exact .inl ⟨h3 k i hn, fun j _ _ => by omega⟩
theorem all_get {α : Type} {xs : List α} {P : α → Prop} : (∀ j, 0 ≤ j → j < xs.length → ∀ x, xs[j]? = some x → P x) ↔ ∀ x ∈ xs, P x := by
 constructor
 ·intro h x hx
  obtain ⟨i, hi⟩ := List.mem_iff_getElem?.1 hx
  exact h i (by omega) (getq_lt hi) x hi
 ·intro h j _ _ x hx
  exact h x (List.mem_of_getElem? hx)

abbrev FD := D_api_Field
/-! ### the form of a record -/
abbrev RD := D_api_Record
/-! ### records of the size that the laws ask for -/
def FewF (f : FD) : Prop := f.Subs.length ≤ 21 ∧ ∀ s ∈ f.Subs, s.Value.length ≤ 402
/-! ### equality -/
theorem ext_get {α : Type} {a b : List α} (hl : a.length = b.length) : (∀ j, 0 ≤ j → j < a.length → a[j]? = b[j]?) ↔ a = b := by
 constructor
 ·intro h
  apply List.ext_getElem? 
  intro i
  by_cases hi : i < a.length
  ·exact h i (by omega) hi
  ·rw [List.getElem?_eq_none (by omega), List.getElem?_eq_none (by omega)]
 ·rintro rfl j _ _; rfl
theorem m46_eq (a b : FD) : m46 a b = some (decide (a = b)) := by
 unfold m46
 have ne : a.Tag ≠ b.Tag ∨ a.Ind_0 ≠ b.Ind_0 ∨ a.Ind_1 ≠ b.Ind_1 ∨ a.Subs ≠ b.Subs → decide (a = b) = false := by
  intro h
  apply decide_eq_false
  rintro rfl
  simp at h
 by_cases h1 : a.Tag = b.Tag
 ·rw [if_pos h1]
  by_cases h2 : a.Ind_0 = b.Ind_0 ∧ a.Ind_1 = b.Ind_1
  ·rw [if_pos (by rw [h2.1, h2.2]; simp)]
   by_cases h3 : a.Subs.length = b.Subs.length
   ·rw [if_pos h3]
    have L := chk (lp := m46_l1 a b) (n := a.Subs.length) (fun j => a.Subs[j]? = b.Subs[j]?) false ?_ ?_ ?_ (a.Subs.length + 1) 0 (by omega) (by omega)
    ·rw [ext_get h3] at L
     by_cases h4 : a.Subs = b.Subs
     ·rw [L.1 h4, decide_eq_true (by cases a; cases b; simp_all)]; rfl
     ·rw [L.2 h4, ne (.inr (.inr (.inr h4)))]; rfl
    ·intro k i hi hc
     obtain ⟨x, hx⟩ := getq hi
     rw [m46_l1, if_pos hi, ← hc, hx]
     simp
    ·intro k i hi hc
     obtain ⟨x, hx⟩ := getq hi
     obtain ⟨y, hy⟩ := getq (xs := b.Subs) (i := i) (by omega)
     rw [m46_l1, if_pos hi, hx, hy]
     simp only [Option.bind_some]
     rw [if_neg]
     intro hh
     rw [Bool.and_eq_true, decide_eq_true_eq, decide_eq_true_eq] at hh
     apply hc
     rw [hx, hy]
     obtain ⟨c, v⟩ := x
     obtain ⟨d, w⟩ := y
     simp only at hh
     have : c = d := UInt8.toNat_inj.1 (by omega)
     simp_all
    ·intro k i hi
     rw [m46_l1, if_neg hi]
   ·rw [if_neg h3, ne (.inr (.inr (.inr (fun e => h3 (by rw [e])))))]
  ·rw [if_neg, ne]
   ·by_cases h3 : a.Ind_0 = b.Ind_0
    ·exact .inr (.inr (.inl (fun e => h2 ⟨h3, e⟩)))
    ·exact .inr (.inl h3)
   ·intro hh
    rw [Bool.and_eq_true, decide_eq_true_eq, decide_eq_true_eq] at hh
    exact h2 ⟨UInt8.toNat_inj.1 (by omega), UInt8.toNat_inj.1 (by omega)⟩
 ·rw [if_neg h1, ne (.inl h1)]
theorem m21_eq (a b : List FD) : m21 a b = some (decide (a = b)) := by
 unfold m21
 by_cases h3 : a.length = b.length
 ·rw [if_pos h3]
  have L := chk (lp := m21_l1 a b) (n := a.length) (fun j => a[j]? = b[j]?) false ?_ ?_ ?_ (a.length + 1) 0 (by omega) (by omega)
  ·rw [ext_get h3] at L
   by_cases h4 : a = b
   ·rw [L.1 h4, decide_eq_true h4]; rfl
   ·rw [L.2 h4, decide_eq_false h4]; rfl
  ·intro k i hi hc
   obtain ⟨x, hx⟩ := getq hi
   rw [m21_l1, if_pos hi, ← hc, hx]
   simp only [Option.bind_some, m46_eq, decide_true, if_true]
  ·intro k i hi hc
   obtain ⟨x, hx⟩ := getq hi
   obtain ⟨y, hy⟩ := getq (xs := b) (i := i) (by omega)
   rw [m21_l1, if_pos hi, hx, hy]
   simp only [Option.bind_some, m46_eq]
   rw [if_neg]
   intro hh
   exact hc (by rw [hx, hy, of_decide_eq_true hh])
  ·intro k i hi
   rw [m21_l1, if_neg hi]
 ·rw [if_neg h3, decide_eq_false (fun e => h3 (by rw [e]))]

end Go.WK.S
