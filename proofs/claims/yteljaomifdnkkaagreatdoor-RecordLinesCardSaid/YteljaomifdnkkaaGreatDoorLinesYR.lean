/- Plain law: records, their form, equality, places in maps, conversion, lossless maps. No program in sight but the models. -/
import Derived.Test.YteljaomifdnkkaaGreatDoorLinesYV5
set_option linter.unusedSimpArgs false
set_option linter.unusedVariables false
namespace Go.WK.S
open Go Go.Proofs Go.WK Go.RowKit
set_option maxRecDepth 100000
set_option linter.unusedVariables false
set_option linter.unusedSimpArgs false

/-! ### loops that search, loops that check -/
theorem findLoop {α β : Type} {xs : List α} {lp : Nat → Nat → Option (Fl β Unit)} (p : α → Bool) (ρ : Nat → α → β)
  (h1 : ∀ k i x, xs[i]? = some x → p x = true → lp (k + 1) i = some (.ret (ρ i x)))
  (h2 : ∀ k i x, xs[i]? = some x → p x = false → lp (k + 1) i = lp k (i + 1))
  (h3 : ∀ k i, ¬ i < xs.length → lp (k + 1) i = some (.go ())) :
  ∀ k i, i ≤ xs.length → xs.length < k + i → (∃ j x, xs[j]? = some x ∧ (xs.drop i).find? p = some x ∧ lp k i = some (.ret (ρ j x))) ∨ ((xs.drop i).find? p = none ∧ lp k i = some (.go ())) := by
 intro k
 induction k with
 | zero => intro i hi hk; omega
 | succ k ih =>
  intro i hi hk
  by_cases hn : i < xs.length
  ·have hx : xs[i]? = some xs[i] := List.getElem?_eq_getElem hn
   have e : xs.drop i = xs[i] :: xs.drop (i + 1) := List.drop_eq_getElem_cons hn
   cases hp : p xs[i]
   ·rw [h2 k i _ hx hp, e, List.find?_cons_of_neg (by simp [hp])]
    exact ih (i + 1) (by omega) (by omega)
   ·exact .inl ⟨i, xs[i], hx, by rw [e, List.find?_cons_of_pos hp], h1 k i _ hx hp⟩
  ·exact .inr ⟨by rw [List.drop_eq_nil_of_le (by omega)]; rfl, h3 k i hn⟩
theorem any_of_find {α : Type} {xs : List α} {p : α → Bool} {x : α} (h : xs.find? p = some x) : xs.any p = true :=
 List.any_eq_true.2 ⟨x, List.mem_of_find?_eq_some h, List.find?_some h⟩
theorem any_of_none {α : Type} {xs : List α} {p : α → Bool} (h : xs.find? p = none) : xs.any p = false := by
 rw [List.any_eq_false]
 exact fun x hx => by simpa using List.find?_eq_none.1 h x hx

abbrev SD := D_api_Sub
abbrev FD := D_api_Field
theorem m75_eq {xs : List SD} {p1 : SD → Option Bool} (p : SD → Bool) (hp : ∀ x ∈ xs, p1 x = some (p x)) : m75 xs p1 = some (xs.any p) := by
 unfold m75 m97
 have L := findLoop (xs := xs) (lp := m97_l1 xs p1) p (fun i _ => (i : Int)) ?_ ?_ ?_ (xs.length + 1) 0 (by omega) (by omega)
 ·rw [List.drop_zero] at L
  rcases L with ⟨j, x, _, hf, e⟩ | ⟨hf, e⟩
  ·rw [e, any_of_find hf]; simp
  ·rw [e, any_of_none hf]; rfl
 ·intro k i x hx h
  rw [m97_l1, if_pos (getq_lt hx), hx]
  simp only [Option.bind_some]
  rw [hp x (List.mem_of_getElem? hx), h]; rfl
 ·intro k i x hx h
  rw [m97_l1, if_pos (getq_lt hx), hx]
  simp only [Option.bind_some]
  rw [hp x (List.mem_of_getElem? hx), h]; rfl
 ·intro k i hi
  rw [m97_l1, if_neg hi]
/-! ### the form of a record -/
def indOk (c : UInt8) : Bool := decide (c.toNat = 32) || isC c
theorem m77_eq (c : UInt8) : m77 c = some (isC c) := by
 unfold m77 m94
 rw [m83_eq]
 simp only [Option.bind_some, isD_iff]
 repeat' split
 all_goals (try simp only [Option.bind_some]) <;> (congr 1; rw [Bool.eq_iff_iff, isC_iff]; simp only [decide_eq_true_eq, true_iff, false_iff, Bool.false_eq_true]; omega)

theorem m74_eq (c : UInt8) : m74 c = some (indOk c) := by
 unfold m74 indOk
 rw [m77_eq]
 by_cases h : c.toNat = 32
 ·rw [if_pos h]; simp [h]
 ·rw [if_neg h]; simp [h]
def subOk (s : SD) : Bool := isC s.Code && textOk s.Value
def fieldOk (f : FD) : Bool := tagOk f.Tag && indOk f.Ind_0 && indOk f.Ind_1 && decide (1 ≤ f.Subs.length ∧ f.Subs.length ≤ 20) && f.Subs.all subOk
abbrev RD := D_api_Record
/-- Values of which the models' bounds can hold. -/
def Sml (f : FD) : Prop := ∀ s ∈ f.Subs, s.Value.length ≤ 17592186044416
theorem m76_eq {s : SD} (h : s.Value.length ≤ 17592186044416) : m76 s = some (!subOk s) := by
 unfold m76 subOk
 rw [m77_eq, m78_eq h]
 simp only [Option.bind_some]
 cases isC s.Code <;> simp
theorem any_not {α : Type} (p : α → Bool) (xs : List α) : (xs.any fun x => !p x) = !xs.all p := by
 induction xs with
 | nil => rfl
 | cons x xs ih => simp [ih, Bool.not_and]
theorem m35_eq {f : FD} (h : Sml f) : m35 f = some (fieldOk f) := by
 unfold m35 fieldOk
 rw [m38_eq, m74_eq, m74_eq, m75_eq (fun s => !subOk s) (fun s hs => m76_eq (h s hs)), any_not]
 simp only [Option.bind_some]
 cases tagOk f.Tag
 ·simp
 ·cases indOk f.Ind_0
  ·simp
  ·cases indOk f.Ind_1
   ·simp
   ·simp only [if_true, Bool.true_and, Bool.and_true, Bool.not_not]
    by_cases h1 : f.Subs.length < 1
    ·rw [if_pos h1, decide_eq_false (by omega)]; rfl
    ·rw [if_neg h1]
     by_cases h2 : 20 < f.Subs.length
     ·rw [if_pos h2, decide_eq_false (by omega)]; rfl
     ·rw [if_neg h2, decide_eq_true (by omega)]; rfl
/-! ### records of the size that the laws ask for -/
/-! ### equality -/
end Go.WK.S
