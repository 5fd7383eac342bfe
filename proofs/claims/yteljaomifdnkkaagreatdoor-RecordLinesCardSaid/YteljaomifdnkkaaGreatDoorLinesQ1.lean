/- Plain law: the line of a field, of the program and of the reference. No program in sight but the models. -/
import Derived.Test.YteljaomifdnkkaaGreatDoorLinesYR2
set_option linter.unusedSimpArgs false
set_option linter.unusedVariables false
namespace Go.WK.S
open Go Go.Proofs Go.WK Go.RowKit
set_option maxRecDepth 100000
set_option linter.unusedVariables false
set_option linter.unusedSimpArgs false

def escC (c : UInt8) : Str := if c.toNat = 36 ∨ c.toNat = 92 then [92, c] else [c]
def esc (v : Str) : Str := v.flatMap escC
def shown (c : UInt8) : UInt8 := if c.toNat = 32 then 95 else c
def subLine (s : SD) : Str := [32, 36] ++ [s.Code] ++ [32] ++ esc s.Value
def subsLine (l : List SD) : Str := l.flatMap subLine
def headOf (f : FD) : Str := f.Tag ++ [32] ++ [shown f.Ind_0] ++ [shown f.Ind_1]
def lineOf (f : FD) : Str := headOf f ++ subsLine f.Subs

theorem esc_cons (c : UInt8) (v : Str) : esc (c :: v) = escC c ++ esc v := by simp [esc]
theorem drop_at {α : Type} {l : List α} {i : Nat} {x : α} (h : l[i]? = some x) : l.drop i = x :: l.drop (i + 1) := by
 have hi := (List.getElem?_eq_some_iff.1 h).1
 rw [List.drop_eq_getElem_cons hi]
 congr 1
 exact (List.getElem?_eq_some_iff.1 h).2
theorem piece {α : Type} {l : List α} {i : Nat} {x : α} (h : l[i]? = some x) : (l.take (i + 1)).drop i = [x] := by
 have hi := (List.getElem?_eq_some_iff.1 h).1
 rw [List.take_add_one, h, List.drop_append_of_le_length (by simp; omega)]
 simp

theorem m106_eq (c : UInt8) : m106 c = some (shown c) := by
 unfold m106 shown
 split <;> rfl
theorem m50_l2_eq (x : SD) : ∀ (k i : Nat) (acc : Str), i ≤ x.Value.length → x.Value.length < k + i → acc.length + (esc (x.Value.drop i)).length ≤ 140737488355328 → m50_l2 x k i acc = some (acc ++ esc (x.Value.drop i)) := by
 intro k
 induction k with
 | zero => intro i acc h1 h2; omega
 | succ k ih =>
  intro i acc h1 h2 h3
  rw [m50_l2]
  by_cases hi : i < x.Value.length
  ·obtain ⟨c, hc⟩ := getq hi
   rw [if_pos hi, hc]
   rw [drop_at hc, esc_cons] at h3 ⊢
   simp only [Option.bind_some]
   by_cases he : c.toNat = 36 ∨ c.toNat = 92
   ·have e : escC c = [92, c] := by unfold escC; rw [if_pos he]
    rw [e] at h3 ⊢
    simp only [List.length_append, List.length_cons, List.length_nil] at h3
    have hb : (if c.toNat = 36 then (if acc.length + 1 ≤ 140737488355328 then some (acc ++ [92]) else none) else if c.toNat = 92 then (if acc.length + 1 ≤ 140737488355328 then some (acc ++ [92]) else none) else some acc) = some (acc ++ [92]) := by
     rcases he with he | he
     ·rw [if_pos he, if_pos (by omega)]
     ·rw [if_neg (by omega), if_pos he, if_pos (by omega)]
    rw [hb]
    simp only [Option.bind_some]
    rw [if_pos (by simp only [List.length_append, List.length_cons, List.length_nil]; omega), ih (i + 1) _ (by omega) (by omega) (by simp only [List.length_append, List.length_cons, List.length_nil]; omega)]
    simp
   ·have e : escC c = [c] := by unfold escC; rw [if_neg he]
    rw [e] at h3 ⊢
    simp only [List.length_append, List.length_cons, List.length_nil] at h3
    rw [if_neg (fun h => he (.inl h)), if_neg (fun h => he (.inr h))]
    simp only [Option.bind_some]
    rw [if_pos (by omega), ih (i + 1) _ (by omega) (by omega) (by simp only [List.length_append, List.length_cons, List.length_nil]; omega)]
    simp
  ·rw [if_neg hi, List.drop_eq_nil_of_le (by omega)]
   simp [esc]

theorem subsLine_cons (s : SD) (l : List SD) : subsLine (s :: l) = subLine s ++ subsLine l := by simp [subsLine]
theorem m50_l1_eq (f : FD) : ∀ (k i : Nat) (acc : Str), i ≤ f.Subs.length → f.Subs.length < k + i → acc.length + (subsLine (f.Subs.drop i)).length ≤ 140737488355328 → m50_l1 f k i acc = some (acc ++ subsLine (f.Subs.drop i)) := by
 intro k
 induction k with
 | zero => intro i acc h1 h2; omega
 | succ k ih =>
  intro i acc h1 h2 h3
  rw [m50_l1]
  by_cases hi : i < f.Subs.length
  ·obtain ⟨s, hs⟩ := getq hi
   rw [if_pos hi, hs]
   rw [drop_at hs, subsLine_cons] at h3 ⊢
   simp only [subLine, List.length_append, List.length_cons, List.length_nil] at h3
   simp only [Option.bind_some]
   have hv := m50_l2_eq s (s.Value.length + 1) 0 (acc ++ [32, 36] ++ [s.Code] ++ [32]) (by omega) (by omega) (by simp only [List.drop_zero, List.length_append, List.length_cons, List.length_nil]; omega)
   rw [if_pos (by simp only [List.length_cons, List.length_nil]; omega), if_pos (by simp only [List.length_append, List.length_cons, List.length_nil]; omega), if_pos (by simp only [List.length_append, List.length_cons, List.length_nil]; omega), hv]
   simp only [Option.bind_some, List.drop_zero]
   rw [ih (i + 1) _ (by omega) (by omega) (by simp only [List.length_append, List.length_cons, List.length_nil]; omega)]
   simp [subLine]
  ·rw [if_neg hi, List.drop_eq_nil_of_le (by omega)]
   simp [subsLine]

theorem m50_eq {f : FD} (h : (lineOf f).length ≤ 140737488355328) : m50 f = some (lineOf f) := by
 unfold lineOf headOf at h
 simp only [List.length_append, List.length_cons, List.length_nil] at h
 unfold m50
 have hl := m50_l1_eq f (f.Subs.length + 1) 0 (([] : Str) ++ (f.Tag ++ [32]) ++ [shown f.Ind_0] ++ [shown f.Ind_1]) (by omega) (by omega) (by simp only [List.drop_zero, List.length_append, List.length_cons, List.length_nil]; omega)
 rw [if_pos (by simp only [List.length_cons, List.length_nil]; omega), if_pos (by simp only [List.length_append, List.length_cons, List.length_nil]; omega), m106_eq, m106_eq]
 simp only [Option.bind_some]
 rw [if_pos (by simp only [List.length_append, List.length_cons, List.length_nil]; omega), if_pos (by simp only [List.length_append, List.length_cons, List.length_nil]; omega), hl]
 simp only [Option.bind_some, List.drop_zero]
 rw [if_pos (by simp only [List.length_append, List.length_cons, List.length_nil]; omega)]
 simp [lineOf, headOf]

end Go.WK.S
