/- Plain law: characters and texts: the program's and the reference's answers are one. No program in sight but the models. -/
import Derived.Test.YteljaomifdnkkaaGreatDoorCompareYV2
set_option linter.unusedSimpArgs false
set_option linter.unusedVariables false
namespace Go.WK.S
open Go Go.Proofs Go.WK Go.RowKit
set_option maxRecDepth 100000
set_option linter.unusedVariables false
set_option linter.unusedSimpArgs false
attribute [local irreducible] latB grkB cyrB win

abbrev kindF : Int × Int → Option Bool := fun x => some (!decide (x.2 = 0))
theorem kind1 {p : Prop} [Decidable p] {a : Int} {B : Option (Int × Int)} : (if p then some (a, 1) else B).bind kindF = if p then some true else B.bind kindF := by split <;> simp
theorem kind2 {p : Prop} [Decidable p] {a : Int} {B : Option (Int × Int)} : (if p then some (a, 2) else B).bind kindF = if p then some true else B.bind kindF := by split <;> simp
theorem kind3 {p : Prop} [Decidable p] {a : Int} {B : Option (Int × Int)} : (if p then some (a, 3) else B).bind kindF = if p then some true else B.bind kindF := by split <;> simp
theorem kind4 {p : Prop} [Decidable p] {a : Int} {B : Option (Int × Int)} : (if p then some (a, 4) else B).bind kindF = if p then some true else B.bind kindF := by split <;> simp
theorem kind5 {p : Prop} [Decidable p] {a : Int} {B : Option (Int × Int)} : (if p then some (a, 5) else B).bind kindF = if p then some true else B.bind kindF := by split <;> simp
theorem kind0 {a : Int} : (some (a, (0 : Int))).bind kindF = some false := rfl
theorem ite_dec {p q : Prop} [Decidable p] [Decidable q] (h : p ↔ q) : (if p then some true else some false) = some (decide q) := by
 by_cases hp : p
 ·rw [if_pos hp, decide_eq_true (h.1 hp)]
 ·rw [if_neg hp, decide_eq_false (fun hq => hp (h.2 hq))]
theorem num (p : Prop) : ∃ q : Int, p ↔ q = 1 := by
 by_cases h : p
 ·exact ⟨1, by simp [h]⟩
 ·exact ⟨0, by simp [h]⟩
theorem wide_eq {c : Int} (h : 0 ≤ c ∧ c ≤ 1114111) : (if decide (65281 ≤ c ∧ c ≤ 65374) = true then some (IntKind.i64.wrap (c - 65248)) else some c) = some (wide c) := by
 unfold wide
 by_cases h1 : 65281 ≤ c ∧ c ≤ 65374
 ·rw [if_pos (by simpa using h1), if_pos h1, w64 (by omega)]
 ·rw [if_neg (by simpa using h1), if_neg h1]

theorem m152_eq (c : Int) (h : 0 ≤ c ∧ c ≤ 1114111) : m152 c = some (hasC c) := by
 unfold m152
 rw [m177_fold]
 unfold n177
 rw [m196_eq]
 simp only [Option.bind_some]
 rw [wide_eq h]
 unfold hasC
 generalize wide c = x
 simp only [Option.bind_some, m196_eq, lat187, grk187, cyr187]
 show Option.bind _ kindF = _
 simp only [kind1, kind2, kind3, kind4, kind5, kind0, ite_or, decide_eq_true_eq]
 refine ite_dec ?_
 unfold Ch L1 L2 L3 Mk
 obtain ⟨q1, h1⟩ := num (x ∈ win latB)
 obtain ⟨q2, h2⟩ := num (x ∈ win grkB)
 obtain ⟨q3, h3⟩ := num (x ∈ win cyrB)
 rw [h1, h2, h3]
 clear h1 h2 h3
 omega
theorem m193_eq (x : Int) : m193 x = some (decide (Mk x)) := by
 unfold m193 Mk
 rw [m191_eq]
 by_cases h1 : x = 773
 ·subst h1; simp
 ·by_cases h2 : x = 777
  ·subst h2; simp
  ·by_cases h3 : x = 803
   ·subst h3; simp
   ·by_cases h4 : x = 807
    ·subst h4; simp
    ·by_cases h5 : x = 808
     ·subst h5; simp
     ·simp [h1, h2, h3, h4, h5]
theorem win_lo {x : Int} (h : x ∈ win latB ∨ x ∈ win grkB ∨ x ∈ win cyrB) : 128 ≤ x ∧ x < 2048 := by
 rcases h with h | h | h
 ·exact win_bd lat_two _ h
 ·exact win_bd grk_two _ h
 ·exact win_bd cyr_two _ h
theorem m143_eq (c : Int) (h : 0 ≤ c ∧ c ≤ 1114111) (hne : c ≠ 65533) : m143 c = some (hasC c) := by
 unfold m143 m173
 rw [m191_eq]
 simp only [Option.bind_some]
 rw [wide_eq h]
 have hw : 0 ≤ wide c ∧ wide c ≤ 1114111 ∧ wide c ≠ 65533 := by unfold wide; split <;> omega
 unfold hasC
 generalize wide c = x at hw
 simp only [Option.bind_some]
 have hlo := @win_lo x
 show Option.bind _ kindF = _
 by_cases h1 : x < 32
 ·rw [if_pos h1, kind0, decide_eq_false]
  unfold Ch L1 L2 L3 Mk
  obtain ⟨q1, g1⟩ := num (x ∈ win latB)
  obtain ⟨q2, g2⟩ := num (x ∈ win grkB)
  obtain ⟨q3, g3⟩ := num (x ∈ win cyrB)
  rw [g1, g2, g3] at hlo ⊢
  omega
 ·rw [if_neg h1]
  by_cases h2 : (65535 : Int) < x
  ·rw [if_pos h2, kind0, decide_eq_false]
   unfold Ch L1 L2 L3 Mk
   obtain ⟨q1, g1⟩ := num (x ∈ win latB)
   obtain ⟨q2, g2⟩ := num (x ∈ win grkB)
   obtain ⟨q3, g3⟩ := num (x ∈ win cyrB)
   rw [g1, g2, g3] at hlo ⊢
   omega
  ·rw [if_neg h2]
   obtain ⟨n, rfl⟩ : ∃ n : Nat, x = n := ⟨x.toNat, by omega⟩
   rw [m192_eq n (by omega) (by omega)]
   simp only [Option.bind_some]
   by_cases l1 : L1 n
   ·rw [if_pos l1, if_neg (by decide), decide_eq_true (show Ch n from .inl l1)]; rfl
   ·rw [if_neg l1]
    by_cases l2 : L2 n
    ·rw [if_pos l2, if_neg (by decide), decide_eq_true (show Ch n from .inr (.inl l2))]; rfl
    ·rw [if_neg l2]
     by_cases l3 : L3 n
     ·rw [if_pos l3, if_neg (by decide), decide_eq_true (show Ch n from .inr (.inr (.inl l3)))]; rfl
     ·rw [if_neg l3, if_pos rfl]
      simp only [Option.bind_some, m191_eq, m193_eq, kind1, kind2, kind3, kind4, kind5, kind0, ite_or, decide_eq_true_eq]
      refine ite_dec ?_
      unfold Ch
      obtain ⟨q1, g1⟩ := num (L1 n)
      obtain ⟨q2, g2⟩ := num (L2 n)
      obtain ⟨q3, g3⟩ := num (L3 n)
      obtain ⟨q4, g4⟩ := num (Mk n)
      rw [g1] at l1
      rw [g2] at l2
      rw [g3] at l3
      rw [g1, g2, g3, g4]
      clear g1 g2 g3 g4 hlo
      omega
theorem hasC_bd {c : Int} (h : hasC c = true) : 32 ≤ c ∧ c ≤ 65374 ∧ (c < 55296 ∨ 57344 ≤ c) := by
 unfold hasC at h
 have hc := of_decide_eq_true h
 have hlo := @win_lo (wide c)
 unfold Ch L1 L2 L3 Mk at hc
 obtain ⟨q1, g1⟩ := num (wide c ∈ win latB)
 obtain ⟨q2, g2⟩ := num (wide c ∈ win grkB)
 obtain ⟨q3, g3⟩ := num (wide c ∈ win cyrB)
 rw [g1, g2, g3] at hlo hc
 clear h g1 g2 g3
 unfold wide at hc hlo
 by_cases h1 : 65281 ≤ c ∧ c ≤ 65374
 ·omega
 ·rw [if_neg h1] at hc hlo
  omega
end Go.WK.S
