/- Plain law: RecordText. No program in sight but the models. -/
import Derived.Test.YteljaomifdnkkaaGreatDoorTextAwk
set_option linter.unusedSimpArgs false
set_option linter.unusedVariables false
namespace Go.WK.S
open Go Go.Proofs Go.WK Go.RowKit
set_option maxRecDepth 100000
set_option linter.unusedVariables false
set_option linter.unusedSimpArgs false

theorem law3 (a0 : RD) (a1 : Str) : m3 a0 a1 = some true := by
 unfold m3
 rw [awake_true]
 simp only [Option.bind_some]
 rw [if_pos trivial]
 obtain ⟨b, hb, hfew⟩ := m12_eq a0 61
 rw [show m12 (⟨a0.ID, a0.Fields⟩ : D_api_Record) 61 = some b from hb]
 simp only [Option.bind_some]
 by_cases hbt : b = true
 case neg => rw [if_neg hbt]
 rw [if_pos hbt]
 obtain ⟨_, hf⟩ := hfew hbt
 by_cases h600 : 600 < a1.length
 case pos => rw [if_pos h600]
 rw [if_neg h600]
 rw [show m13 (⟨a0.ID, a0.Fields⟩ : D_api_Record) = _ from m13_eq (r := a0) hf, show m14 (⟨a0.ID, a0.Fields⟩ : D_api_Record) = _ from m14_eq (r := a0) hf, m15_eq (by omega), m16_eq (by omega)]
 simp only [Option.bind_some]
 have e17 : ∀ p : RD, m17 (⟨p.ID, p.Fields⟩ : D_api_Record) (⟨p.ID, p.Fields⟩ : D_api_Record) = some true := fun p => by
  rw [m17_eq, decide_eq_true rfl]
 rw [if_pos trivial, if_pos trivial, e17]
 simp only [Option.bind_some]
 rw [if_pos trivial, if_pos trivial, if_pos trivial]
 -- what is read, and its text
 have hp : ∃ x, m13 (⟨(parseS a1).1.ID, (parseS a1).1.Fields⟩ : D_api_Record) = some x ∧ ((parseS a1).2.2 = 0 → x = (a1, 0)) := by
  rcases parse_back (s := a1) (by omega) with ⟨n, e⟩ | ⟨p, e, h1, h2⟩
  ·rw [e]
   refine ⟨_, m13_any (r := zeroR) (fun f hf => by cases hf) (fun h => by cases h), fun h => ?_⟩
   simp only [] at h
   omega
  ·rw [e]
   obtain ⟨i1, i2, i3⟩ := recOk_id h1
   refine ⟨_, m13_any (r := p) (fun f hf s hs => ?_) (fun _ => by have := fieldsOk_len i3; omega), fun _ => by rw [if_pos h1, h2]⟩
   obtain ⟨_, _, _, _, q5⟩ := field_parts (i3 f hf)
   have := (textOk_ends (subOk_val (q5 s hs)).2).1.2
   omega
 obtain ⟨x, hx1, hx2⟩ := hp
 rw [hx1]
 have e0 : ∀ s : Str, s.length ≤ 1000000 → m15 s = some (parseS s) := fun s h => m15_eq h
 by_cases hok : recOk a0 = true
 ·rw [if_pos hok]
  simp only []
  rw [e0 _ (textOk_len hok), parse_text hok]
  simp only [Option.bind_some]
  rw [if_pos trivial, if_pos trivial, e17]
  simp only [Option.bind_some]
  rw [if_pos trivial]
  by_cases h0 : (parseS a1).2.2 = 0
  ·have := hx2 h0
   rw [if_pos h0, this]
   simp
  ·rw [if_neg h0]
 ·rw [if_neg hok]
  simp only []
  rw [e0 _ (by simp)]
  simp only [Option.bind_some]
  rw [if_neg (by omega)]
  by_cases h0 : (parseS a1).2.2 = 0
  ·have := hx2 h0
   rw [if_pos h0, this]
   simp
  ·rw [if_neg h0]
end Go.WK.S
