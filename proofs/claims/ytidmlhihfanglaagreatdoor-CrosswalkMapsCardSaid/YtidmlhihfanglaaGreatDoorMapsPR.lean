/- Plain law: records, their form, equality, places in maps, conversion, lossless maps. No program in sight but the models. -/
import Derived.Test.YtidmlhihfanglaaGreatDoorMapsPS
set_option linter.unusedSimpArgs false
set_option linter.unusedVariables false
namespace Go.WK.S
open Go Go.Proofs Go.WK Go.RowKit
set_option maxRecDepth 100000
set_option linter.unusedVariables false
set_option linter.unusedSimpArgs false

/-! ### loops that search, loops that check -/
theorem findLoop {α β : Type} {xs : List α} {lp : Nat → Nat → Option (Fl β Unit)} (p : α → Bool) (ρ : Nat → α → β)
  (h1 : ∀ k i x, xs[i]? = some x → p x = true → lp (k + 1) i = some (.ret (ρ i x)))
  (h2 : ∀ k i x, xs[i]? = some x → p x = false → lp (k + 1) i = lp k (i + 1))
  (h3 : ∀ k i, ¬ i < xs.length → lp (k + 1) i = some (.go ())) :
  ∀ k i, i ≤ xs.length → xs.length < k + i → (∃ j x, xs[j]? = some x ∧ (xs.drop i).find? p = some x ∧ lp k i = some (.ret (ρ j x))) ∨ ((xs.drop i).find? p = none ∧ lp k i = some (.go ())) := by
 intro k
 induction k with
 | zero => intro i hi hk; omega
 | succ k ih =>
  intro i hi hk
  by_cases hn : i < xs.length
  ·have hx : xs[i]? = some xs[i] := List.getElem?_eq_getElem hn
   have e : xs.drop i = xs[i] :: xs.drop (i + 1) := List.drop_eq_getElem_cons hn
   cases hp : p xs[i]
   ·rw [h2 k i _ hx hp, e, List.find?_cons_of_neg (by simp [hp])]
    exact ih (i + 1) (by omega) (by omega)
   ·exact .inl ⟨i, xs[i], hx, by rw [e, List.find?_cons_of_pos hp], h1 k i _ hx hp⟩
  ·exact .inr ⟨by rw [List.drop_eq_nil_of_le (by omega)]; rfl, h3 k i hn⟩
theorem chkR {β γ : Type} {lp : Nat → Nat → Option (Fl β γ)} {n : Nat} (c : Nat → Prop) (P : β → Prop) (g : γ)
  (h1 : ∀ k i, i < n → c i → lp (k + 1) i = lp k (i + 1))
  (h2 : ∀ k i, i < n → ¬ c i → ∃ b, P b ∧ lp (k + 1) i = some (.ret b))
  (h3 : ∀ k i, ¬ i < n → lp (k + 1) i = some (.go g)) :
  ∀ k i, i ≤ n → n < k + i → ((∀ j, i ≤ j → j < n → c j) → lp k i = some (.go g)) ∧ (¬ (∀ j, i ≤ j → j < n → c j) → ∃ b, P b ∧ lp k i = some (.ret b)) := by
 intro k
 induction k with
 | zero => intro i hi hk; omega
 | succ k ih =>
  intro i hi hk
  by_cases hn : i < n
  ·by_cases hc : c i
   ·rw [h1 k i hn hc]
    have := ih (i + 1) (by omega) (by omega)
    have e : (∀ j, i ≤ j → j < n → c j) ↔ (∀ j, i + 1 ≤ j → j < n → c j) := by
     constructor
     ·intro h j a b; exact h j (by omega) b
     ·intro h j a b
      by_cases hj : j = i
      ·subst hj; exact hc
      ·exact h j (by omega) b
    rw [e]; exact this
   ·exact ⟨fun h => absurd (h i (Nat.le_refl _) hn) hc, fun _ => h2 k i hn hc⟩
  ·rw [h3 k i hn]
   exact ⟨fun _ => rfl, fun h => absurd (fun j a b => by omega) h⟩
theorem all_get {α : Type} {xs : List α} {P : α → Prop} : (∀ j, 0 ≤ j → j < xs.length → ∀ x, xs[j]? = some x → P x) ↔ ∀ x ∈ xs, P x := by
 constructor
 ·intro h x hx
  obtain ⟨i, hi⟩ := List.mem_iff_getElem?.1 hx
  exact h i (by omega) (getq_lt hi) x hi
 ·intro h j _ _ x hx
  exact h x (List.mem_of_getElem? hx)

abbrev SD := D_api_Sub
/-! ### the form of a record -/
def indOk (c : UInt8) : Bool := decide (c.toNat = 32) || isC c
def subOk (s : SD) : Bool := isC s.Code && textOk s.Value
def fieldOk (f : FD) : Bool := tagOk f.Tag && indOk f.Ind_0 && indOk f.Ind_1 && decide (1 ≤ f.Subs.length ∧ f.Subs.length ≤ 20) && f.Subs.all subOk
abbrev RD := D_api_Record
def recOk (r : RD) : Bool := decide (1 ≤ r.ID ∧ r.ID ≤ 1000000000) && decide (1 ≤ r.Fields.length ∧ r.Fields.length ≤ 60) && r.Fields.all fieldOk
/-! ### records of the size that the laws ask for -/
/-! ### equality -/
theorem ext_get {α : Type} {a b : List α} (hl : a.length = b.length) : (∀ j, 0 ≤ j → j < a.length → a[j]? = b[j]?) ↔ a = b := by
 constructor
 ·intro h
  apply List.ext_getElem? 
  intro i
  by_cases hi : i < a.length
  ·exact h i (by omega) hi
  ·rw [List.getElem?_eq_none (by omega), List.getElem?_eq_none (by omega)]
 ·rintro rfl j _ _; rfl
theorem m84_eq (a b : FD) : m84 a b = some (decide (a = b)) := by
 unfold m84
 have ne : a.Tag ≠ b.Tag ∨ a.Ind_0 ≠ b.Ind_0 ∨ a.Ind_1 ≠ b.Ind_1 ∨ a.Subs ≠ b.Subs → decide (a = b) = false := by
  intro h
  apply decide_eq_false
  rintro rfl
  simp at h
 by_cases h1 : a.Tag = b.Tag
 ·rw [if_pos h1]
  by_cases h2 : a.Ind_0 = b.Ind_0 ∧ a.Ind_1 = b.Ind_1
  ·rw [if_pos (by rw [h2.1, h2.2]; simp)]
   by_cases h3 : a.Subs.length = b.Subs.length
   ·rw [if_pos h3]
    have L := chk (lp := m84_l1 a b) (n := a.Subs.length) (fun j => a.Subs[j]? = b.Subs[j]?) false ?_ ?_ ?_ (a.Subs.length + 1) 0 (by omega) (by omega)
    ·rw [ext_get h3] at L
     by_cases h4 : a.Subs = b.Subs
     ·rw [L.1 h4, decide_eq_true (by cases a; cases b; simp_all)]; rfl
     ·rw [L.2 h4, ne (.inr (.inr (.inr h4)))]; rfl
    ·intro k i hi hc
     obtain ⟨x, hx⟩ := getq hi
     rw [m84_l1, if_pos hi, ← hc, hx]
     simp
    ·intro k i hi hc
     obtain ⟨x, hx⟩ := getq hi
     obtain ⟨y, hy⟩ := getq (xs := b.Subs) (i := i) (by omega)
     rw [m84_l1, if_pos hi, hx, hy]
     simp only [Option.bind_some]
     rw [if_neg]
     intro hh
     rw [Bool.and_eq_true, decide_eq_true_eq, decide_eq_true_eq] at hh
     apply hc
     rw [hx, hy]
     obtain ⟨c, v⟩ := x
     obtain ⟨d, w⟩ := y
     simp only at hh
     have : c = d := UInt8.toNat_inj.1 (by omega)
     simp_all
    ·intro k i hi
     rw [m84_l1, if_neg hi]
   ·rw [if_neg h3, ne (.inr (.inr (.inr (fun e => h3 (by rw [e])))))]
  ·rw [if_neg, ne]
   ·by_cases h3 : a.Ind_0 = b.Ind_0
    ·exact .inr (.inr (.inl (fun e => h2 ⟨h3, e⟩)))
    ·exact .inr (.inl h3)
   ·intro hh
    rw [Bool.and_eq_true, decide_eq_true_eq, decide_eq_true_eq] at hh
    exact h2 ⟨UInt8.toNat_inj.1 (by omega), UInt8.toNat_inj.1 (by omega)⟩
 ·rw [if_neg h1, ne (.inl h1)]
theorem m48_eq (a b : List FD) : m48 a b = some (decide (a = b)) := by
 unfold m48
 by_cases h3 : a.length = b.length
 ·rw [if_pos h3]
  have L := chk (lp := m48_l1 a b) (n := a.length) (fun j => a[j]? = b[j]?) false ?_ ?_ ?_ (a.length + 1) 0 (by omega) (by omega)
  ·rw [ext_get h3] at L
   by_cases h4 : a = b
   ·rw [L.1 h4, decide_eq_true h4]; rfl
   ·rw [L.2 h4, decide_eq_false h4]; rfl
  ·intro k i hi hc
   obtain ⟨x, hx⟩ := getq hi
   rw [m48_l1, if_pos hi, ← hc, hx]
   simp only [Option.bind_some, m84_eq, decide_true, if_true]
  ·intro k i hi hc
   obtain ⟨x, hx⟩ := getq hi
   obtain ⟨y, hy⟩ := getq (xs := b) (i := i) (by omega)
   rw [m48_l1, if_pos hi, hx, hy]
   simp only [Option.bind_some, m84_eq]
   rw [if_neg]
   intro hh
   exact hc (by rw [hx, hy, of_decide_eq_true hh])
  ·intro k i hi
   rw [m48_l1, if_neg hi]
 ·rw [if_neg h3, decide_eq_false (fun e => h3 (by rw [e]))]
theorem m18_eq (a b : RD) : m18 a b = some (decide (a = b)) := by
 unfold m18
 by_cases h : a.ID = b.ID
 ·rw [if_pos h, m48_eq]
  simp only [Option.bind_some]
  congr 1
  cases a; cases b; simp_all
 ·rw [if_neg h, decide_eq_false (fun e => h (by rw [e]))]
end Go.WK.S
