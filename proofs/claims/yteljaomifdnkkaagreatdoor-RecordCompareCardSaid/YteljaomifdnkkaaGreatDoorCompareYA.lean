/- Plain law, part a: loops of the models, codes, tags, entries, maps. No program in sight but the models. -/
import Derived.Test.YteljaomifdnkkaaGreatDoorCompareF04
set_option linter.unusedSimpArgs false
set_option linter.unusedVariables false
namespace Go.WK.S
open Go Go.Proofs Go.WK Go.RowKit
set_option maxRecDepth 100000
set_option linter.unusedVariables false
set_option linter.unusedSimpArgs false

/-! ### loops -/
theorem chk {β : Type} {lp : Nat → Nat → Option (Fl β Unit)} {n : Nat} (c : Nat → Prop) (bad : β)
  (h1 : ∀ k i, i < n → c i → lp (k + 1) i = lp k (i + 1))
  (h2 : ∀ k i, i < n → ¬ c i → lp (k + 1) i = some (.ret bad))
  (h3 : ∀ k i, ¬ i < n → lp (k + 1) i = some (.go ())) :
  ∀ k i, i ≤ n → n < k + i → ((∀ j, i ≤ j → j < n → c j) → lp k i = some (.go ())) ∧ (¬ (∀ j, i ≤ j → j < n → c j) → lp k i = some (.ret bad)) := by
 intro k
 induction k with
 | zero => intro i hi hk; omega
 | succ k ih =>
  intro i hi hk
  by_cases hn : i < n
  ·by_cases hc : c i
   ·rw [h1 k i hn hc]
    have := ih (i + 1) (by omega) (by omega)
    have e : (∀ j, i ≤ j → j < n → c j) ↔ (∀ j, i + 1 ≤ j → j < n → c j) := by
     constructor
     ·intro h j a b; exact h j (by omega) b
     ·intro h j a b
      by_cases hj : j = i
      ·subst hj; exact hc
      ·exact h j (by omega) b
    rw [e]; exact this
   ·rw [h2 k i hn hc]
    exact ⟨fun h => absurd (h i (Nat.le_refl _) hn) hc, fun _ => rfl⟩
  ·rw [h3 k i hn]
   exact ⟨fun _ => rfl, fun h => absurd (fun j a b => by omega) h⟩

theorem at?_pred {α : Type} (xs : List α) {i : Nat} (h : 0 < i) : at? xs ((i : Int) - 1) = xs[i - 1]? := by
 unfold at?
 rw [if_pos (by omega)]
 congr 1
 omega

theorem getq {α : Type} {xs : List α} {i : Nat} (h : i < xs.length) : ∃ x, xs[i]? = some x := ⟨xs[i], List.getElem?_eq_getElem h⟩
theorem getq_lt {α : Type} {xs : List α} {i : Nat} {x : α} (h : xs[i]? = some x) : i < xs.length := (List.getElem?_eq_some_iff.1 h).1

/-! ### codes and tags -/
def isD (c : UInt8) : Bool := decide (48 ≤ c.toNat ∧ c.toNat ≤ 57)
def isC (c : UInt8) : Bool := decide (48 ≤ c.toNat ∧ c.toNat ≤ 57 ∨ 97 ≤ c.toNat ∧ c.toNat ≤ 122)
theorem isD_iff {c : UInt8} : isD c = true ↔ 48 ≤ c.toNat ∧ c.toNat ≤ 57 := by simp [isD]
theorem isC_iff {c : UInt8} : isC c = true ↔ (48 ≤ c.toNat ∧ c.toNat ≤ 57 ∨ 97 ≤ c.toNat ∧ c.toNat ≤ 122) := by simp [isC]
theorem m83_eq (c : UInt8) : m83 c = some (isD c) := by
 unfold m83
 repeat' split
 all_goals (congr 1; rw [Bool.eq_iff_iff, isD_iff]; simp only [decide_eq_true_eq, true_iff, false_iff, Bool.false_eq_true]; omega)
theorem m84_eq (c : UInt8) : m84 c = some (isD c) := by
 unfold m84
 repeat' split
 all_goals (congr 1; rw [Bool.eq_iff_iff, isD_iff]; simp only [decide_eq_true_eq, true_iff, false_iff, Bool.false_eq_true]; omega)
def tagOk (s : Str) : Bool := decide (s.length = 3) && s.all isD && !decide (s = [48, 48, 48])
theorem m38_eq (s : Str) : m38 s = some (tagOk s) := by
 unfold m38 tagOk
 rcases s with _ | ⟨a, _ | ⟨b, _ | ⟨c, _ | ⟨d, t⟩⟩⟩⟩
 all_goals simp [m83_eq]
 split
 ·rename_i h; obtain ⟨rfl, rfl, rfl⟩ := h; simp
 ·rename_i h
  have : ¬ a = 48 ∨ ¬ b = 48 ∨ ¬ c = 48 := by
   by_cases h1 : a = 48
   ·by_cases h2 : b = 48
    ·exact .inr (.inr (fun h3 => h ⟨h1, h2, h3⟩))
    ·exact .inr (.inl h2)
   ·exact .inl h1
  cases isD a <;> cases isD b <;> cases isD c <;> simp_all
theorem m39_eq (s : Str) : m39 s = some (tagOk s) := by
 unfold m39 tagOk
 rcases s with _ | ⟨a, _ | ⟨b, _ | ⟨c, _ | ⟨d, t⟩⟩⟩⟩
 all_goals simp [m84_eq]
 cases isD a <;> cases isD b <;> cases isD c <;> simp
theorem tagOk_len {s : Str} (h : tagOk s = true) : s.length = 3 := by
 unfold tagOk at h; simp at h; exact h.1.1
end Go.WK.S
