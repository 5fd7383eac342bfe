/- Plain law: the order of tags; stable sorting, the program's and the reference's. No program in sight but the models. -/
import Derived.Test.YtidmlhihfanglaaGreatDoorMapsPV5
set_option linter.unusedSimpArgs false
set_option linter.unusedVariables false
namespace Go.WK.S
open Go Go.Proofs Go.WK Go.RowKit
set_option maxRecDepth 100000
set_option linter.unusedVariables false
set_option linter.unusedSimpArgs false

/-! ### the order of strings -/
abbrev lt (a b : Str) : Prop := Op.bytesLess a b = true
theorem lt_irr : ∀ a : Str, ¬ lt a a
 | [] => by simp [lt, Op.bytesLess]
 | a :: x => by
  have := lt_irr x
  simp only [lt, Op.bytesLess] at this ⊢
  simp [this]
theorem lt_tri (a b : Str) : lt a b ∨ a = b ∨ lt b a := by
 have := less_total a b
 simp only [lt]
 cases h1 : Op.bytesLess a b
 ·cases h2 : Op.bytesLess b a
  ·rw [h1, h2] at this
   simp at this
   exact .inr (.inl this)
  ·exact .inr (.inr rfl)
 ·exact .inl rfl
theorem lt_trans : ∀ {a b c : Str}, lt a b → lt b c → lt a c
 | _, [], _, h, _ => by simp [lt, Op.bytesLess] at h
 | _, _ :: _, [], _, h => by simp [lt, Op.bytesLess] at h
 | [], _ :: _, _ :: _, _, _ => by simp [lt, Op.bytesLess]
 | a :: x, b :: y, c :: z, h1, h2 => by
  simp only [lt, Op.bytesLess, Bool.or_eq_true, Bool.and_eq_true, decide_eq_true_eq, beq_iff_eq] at h1 h2 ⊢
  rcases h1 with h1 | ⟨rfl, h1⟩
  ·rcases h2 with h2 | ⟨rfl, h2⟩
   ·exact .inl (UInt8.lt_trans h1 h2)
   ·exact .inl h1
  ·rcases h2 with h2 | ⟨rfl, h2⟩
   ·exact .inl h2
   ·exact .inr ⟨rfl, lt_trans (a := x) (b := y) (c := z) h1 h2⟩
abbrev le (a b : Str) : Prop := ¬ lt b a
/-! ### sorted lists with the same groups are the same -/
abbrev FD := D_api_Field
/-- The stable sort. -/
def ins (l : List FD) (f : FD) : List FD := l.takeWhile (fun x => !Op.bytesLess f.Tag x.Tag) ++ f :: l.dropWhile (fun x => !Op.bytesLess f.Tag x.Tag)
def ssort (l : List FD) : List FD := l.foldl ins []
theorem mem_tw {α : Type} {p : α → Bool} : ∀ {l : List α} {x : α}, x ∈ l.takeWhile p → p x = true ∧ x ∈ l
 | a :: l, x, h => by
  rw [List.takeWhile_cons] at h
  split at h
  ·rename_i hp
   rcases List.mem_cons.1 h with rfl | h
   ·exact ⟨hp, by simp⟩
   ·exact ⟨(mem_tw h).1, by simp [(mem_tw h).2]⟩
  ·simp at h
/-! ### the program's insertion sort -/
end Go.WK.S
