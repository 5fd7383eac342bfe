/- Plain law: the lines of a text. No program in sight but the models. -/
import Derived.Test.YteljaomifdnkkaaGreatDoorLinesQ7
set_option linter.unusedSimpArgs false
set_option linter.unusedVariables false
namespace Go.WK.S
open Go Go.Proofs Go.WK Go.RowKit
set_option maxRecDepth 100000
set_option linter.unusedVariables false
set_option linter.unusedSimpArgs false

/-! ### no line feed in a valid text -/
def NoLF (s : Str) : Prop := ∀ c ∈ s, c.toNat ≠ 10
/-! ### lines -/
def lns : Str → Str → List Str × Str
  | cur, [] => ([], cur)
  | cur, c :: t => if c.toNat = 10 then (cur :: (lns [] t).1, (lns [] t).2) else lns (cur ++ [c]) t
theorem m18_l1_eq (s : Str) (hs : s.length ≤ 1000000000) : ∀ (k i : Nat) (l : List Str) (cur : Str), i ≤ s.length → s.length < k + i → l.length ≤ i → cur.length ≤ i →
  m18_l1 s k l cur i = some (l ++ (lns cur (s.drop i)).1, (lns cur (s.drop i)).2) := by
 intro k
 induction k with
 | zero => intro i l cur h1 h2; omega
 | succ k ih =>
  intro i l cur h1 h2 h3 h4
  rw [m18_l1]
  by_cases hi : i < s.length
  ·obtain ⟨c, hc⟩ := getq hi
   rw [if_pos hi, hc, drop_at hc, lns]
   simp only [Option.bind_some]
   by_cases h10 : c.toNat = 10
   ·rw [if_pos h10, if_pos h10, if_pos (by omega), ih (i + 1) _ _ (by omega) (by omega) (by simp only [List.length_append, List.length_cons, List.length_nil]; omega) (by simp)]
    simp
   ·rw [if_neg h10, if_neg h10, piece hc, if_pos (by omega), if_pos (by simp only [List.length_cons, List.length_nil]; omega), ih (i + 1) _ _ (by omega) (by omega) (by omega) (by simp only [List.length_append, List.length_cons, List.length_nil]; omega)]
  ·rw [if_neg hi, List.drop_eq_nil_of_le (by omega)]
   simp [lns]
theorem m18_eq {s : Str} (hs : s.length ≤ 1000000000) : m18 s = some (lns [] s) := by
 unfold m18
 rw [m18_l1_eq s hs (s.length + 1) 0 [] [] (by omega) (by omega) (by simp) (by simp)]
 simp
theorem lns_app (a : Str) (h : NoLF a) : ∀ (cur t : Str), lns cur (a ++ t) = lns (cur ++ a) t := by
 induction a with
 | nil => intro cur t; simp
 | cons c a ih =>
  intro cur t
  show lns cur (c :: (a ++ t)) = _
  rw [lns, if_neg (h c List.mem_cons_self), ih (fun x hx => h x (List.mem_cons_of_mem _ hx))]
  simp
theorem lns_line (a t : Str) (h : NoLF a) : lns [] (a ++ 10 :: t) = (a :: (lns [] t).1, (lns [] t).2) := by
 rw [lns_app a h, List.nil_append, lns, if_pos (by decide)]
theorem lns_no (a : Str) (h : NoLF a) : lns [] a = ([], a) := by
 have := lns_app a h [] []
 simpa [lns] using this
theorem split10 (s : Str) : NoLF s ∨ ∃ a t, s = a ++ 10 :: t ∧ NoLF a := by
 induction s with
 | nil => exact .inl (fun c h => by cases h)
 | cons c s ih =>
  by_cases h10 : c.toNat = 10
  ·have : c = 10 := UInt8.toNat_inj.1 h10
   subst this
   exact .inr ⟨[], s, rfl, fun c h => by cases h⟩
  ·rcases ih with h | ⟨a, t, rfl, h⟩
   ·exact .inl (fun x hx => by rcases List.mem_cons.1 hx with rfl | hx; exact h10; exact h x hx)
   ·exact .inr ⟨c :: a, t, rfl, fun x hx => by rcases List.mem_cons.1 hx with rfl | hx; exact h10; exact h x hx⟩
theorem lns_back : ∀ (n : Nat) (s : Str), s.length ≤ n → ((lns [] s).1.flatMap fun l => l ++ [10]) ++ (lns [] s).2 = s ∧ ∀ l ∈ (lns [] s).1, l.length ≤ s.length := by
 intro n
 induction n with
 | zero => intro s h; have : s = [] := List.eq_nil_of_length_eq_zero (by omega); subst this; simp [lns]
 | succ n ih =>
  intro s h
  rcases split10 s with h0 | ⟨a, t, rfl, h0⟩
  ·rw [lns_no s h0]; simp
  ·rw [lns_line a t h0]
   have hlen : t.length ≤ n := by simp only [List.length_append, List.length_cons] at h; omega
   obtain ⟨h1, h2⟩ := ih t hlen
   refine ⟨?_, fun l hl => ?_⟩
   ·simp only [List.flatMap_cons, List.append_assoc]
    rw [h1]
    simp
   ·simp only [List.length_append, List.length_cons]
    rcases List.mem_cons.1 hl with rfl | hl
    ·omega
    ·have := h2 l hl; omega
/-! ### the first line, as the program cuts it -/
theorem ix_app (a t : Str) (h : NoLF a) : Lib.indexByte (a ++ 10 :: t) 10 = (a.length : Int) := by
 have hmem : (10 : UInt8) ∈ a ++ 10 :: t := by simp
 obtain ⟨o, h1, h2, h3⟩ := ix_some hmem
 rw [h1]
 have ho : o = a.length := by
  rcases Nat.lt_trichotomy o a.length with hlt | he | hgt
  ·rw [List.getElem?_append_left hlt] at h2
   exact absurd rfl (h 10 (List.mem_of_getElem? h2))
  ·exact he
  ·have := h3 a.length hgt
   rw [List.getElem?_append_right (Nat.le_refl _)] at this
   simp at this
 rw [ho]
theorem ix_no (a : Str) (h : NoLF a) : Lib.indexByte a 10 = -1 := ix_none (fun hm => h 10 hm rfl)
theorem m134_eq (s : Str) (hs : s.length ≤ 1000000000) : m134 s [10] = some (if ([10] : Str) = s then 0 else Lib.indexByte s 10) := by
 unfold m134
 rw [if_neg (by simp)]
 by_cases he : ([10] : Str) = s
 ·rw [if_pos he, if_pos he]
 ·rw [if_neg he, if_neg he, if_pos (show ([10] : Str).length = 1 from rfl)]
  show (some (10 : UInt8)).bind _ = _
  simp only [Option.bind_some]
  unfold m162 m185
  rw [if_pos (by omega)]
  rfl
theorem m53_no {s : Str} (hs : s.length ≤ 1000000000) (h : NoLF s) : m53 s [10] = some (s, [], false) := by
 unfold m53 m108
 rw [m134_eq s hs, if_neg (fun e => h 10 (by rw [← e]; simp) rfl), ix_no s h]
 simp only [Option.bind_some]
 rw [if_neg (by omega)]
 rfl
theorem m53_line {a t : Str} (hs : (a ++ 10 :: t).length ≤ 1000000000) (h : NoLF a) : m53 (a ++ 10 :: t) [10] = some (a, t, true) := by
 unfold m53 m108
 have e : (if ([10] : Str) = a ++ 10 :: t then (0 : Int) else Lib.indexByte (a ++ 10 :: t) 10) = (a.length : Int) := by
  by_cases he : ([10] : Str) = a ++ 10 :: t
  ·rw [if_pos he]
   cases a with
   | nil => rfl
   | cons x a => exfalso; have := congrArg List.length he; simp at this
  ·rw [if_neg he, ix_app a t h]
 rw [m134_eq _ hs, e]
 simp only [List.length_append, List.length_cons] at hs
 simp only [Option.bind_some, List.length_append, List.length_cons, List.length_nil]
 rw [if_pos (by omega), if_pos (by omega), w64 (by omega)]
 have e1 : ((a.length : Int) + ((0 + 1 : Nat) : Int)).toNat = a.length + 1 := by omega
 have e2 : ((a.length : Int)).toNat = a.length := by omega
 rw [e1, e2, if_pos (by omega), List.take_left]
 have e3 : (a ++ 10 :: t).drop (a.length + 1) = t := by
  rw [← List.drop_drop, List.drop_left]; rfl
 rw [e3]
 rfl
end Go.WK.S
