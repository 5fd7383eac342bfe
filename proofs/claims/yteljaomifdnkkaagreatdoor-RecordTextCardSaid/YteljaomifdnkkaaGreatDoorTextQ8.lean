/- Plain law: the lines of a text. No program in sight but the models. -/
import Derived.Test.YteljaomifdnkkaaGreatDoorTextQ7
set_option linter.unusedSimpArgs false
set_option linter.unusedVariables false
namespace Go.WK.S
open Go Go.Proofs Go.WK Go.RowKit
set_option maxRecDepth 100000
set_option linter.unusedVariables false
set_option linter.unusedSimpArgs false

/-! ### no line feed in a valid text -/
theorem dec_bytes {t : Str} (hg : good1 t = true) : ∀ j, j < (dec t).2 → 32 ≤ by_ t j := by
 unfold good1 at hg
 simp only [Bool.and_eq_true, Bool.not_eq_true', decide_eq_false_iff_not] at hg
 obtain ⟨h1, h2⟩ := hg
 have h3 := (hasC_bd h2).1
 revert h1 h3
 unfold dec Lib.decodeN
 intro h1 h3 j hj
 have hj4 : j = 0 ∨ j = 1 ∨ j = 2 ∨ j = 3 ∨ 4 ≤ j := by omega
 revert h1 h3 hj
 repeat' split
 all_goals (intro h1 h3 hj; simp only [] at h1 h3 hj; rcases hj4 with rfl | rfl | rfl | rfl | hj4 <;> omega)
theorem ok_bytes : ∀ (n : Nat) (t : Str), okN n t = true → ∀ c ∈ t, 32 ≤ c.toNat := by
 intro n
 induction n with
 | zero => intro t h c hc; have := of_decide_eq_true (by simpa [okN] using h : decide (t = []) = true); rw [this] at hc; cases hc
 | succ n ih =>
  intro t h c hc
  rw [okN] at h
  split at h
  ·rename_i h0; rw [h0] at hc; cases hc
  ·split at h
   ·rename_i h0 hg
    rw [← List.take_append_drop (dec t).2 t] at hc
    rcases List.mem_append.1 hc with hc | hc
    ·obtain ⟨j, hj⟩ := List.getElem?_of_mem hc
     have hlt : j < (dec t).2 := by
      have := (List.getElem?_eq_some_iff.1 hj).1
      simp only [List.length_take] at this; omega
     rw [List.getElem?_take_of_lt hlt] at hj
     have := dec_bytes hg j hlt
     unfold by_ at this
     rw [List.getD_eq_getElem?_getD, hj] at this
     exact this
    ·exact ih _ h c hc
   ·cases h
theorem text_bytes {v : Str} (h : textOk v = true) : ∀ c ∈ v, 32 ≤ c.toNat := by
 unfold textOk at h
 simp only [Bool.and_eq_true] at h
 exact ok_bytes _ _ h.2
def NoLF (s : Str) : Prop := ∀ c ∈ s, c.toNat ≠ 10
theorem esc_bytes {v : Str} (h : ∀ c ∈ v, 32 ≤ c.toNat) : ∀ c ∈ esc v, 32 ≤ c.toNat := by
 intro c hc
 unfold esc at hc
 obtain ⟨d, hd, hc⟩ := List.mem_flatMap.1 hc
 have := h d hd
 unfold escC at hc
 split at hc
 ·simp only [List.mem_cons, List.not_mem_nil, or_false] at hc
  rcases hc with rfl | rfl
  ·decide
  ·exact this
 ·simp only [List.mem_singleton] at hc; rw [hc]; exact this
theorem line_noLF {f : FD} (h : fieldOk f = true) : NoLF (lineOf f) := by
 obtain ⟨p1, p2, p3, p4, p5⟩ := field_parts h
 have hdig := tagOk_dig (tag_of h)
 have hsh : ∀ c : UInt8, indOk c = true → (shown c).toNat ≠ 10 := by
  intro c hc
  unfold indOk at hc
  simp only [Bool.or_eq_true, decide_eq_true_eq, isC_iff] at hc
  unfold shown
  by_cases h32 : c.toNat = 32
  ·rw [if_pos h32]; decide
  ·rw [if_neg h32]; omega
 intro c hc
 unfold lineOf headOf at hc
 simp only [List.mem_append, List.mem_singleton] at hc
 rcases hc with (((hc | hc) | hc) | hc) | hc
 ·have := isD_iff.1 (hdig c hc); omega
 ·rw [hc]; decide
 ·rw [hc]; exact hsh _ p2
 ·rw [hc]; exact hsh _ p3
 ·unfold subsLine at hc
  obtain ⟨s, hs, hc⟩ := List.mem_flatMap.1 hc
  obtain ⟨hcode, ht⟩ := subOk_val (p5 s hs)
  unfold subLine at hc
  simp only [List.mem_append, List.mem_singleton, List.mem_cons, List.not_mem_nil, or_false] at hc
  rcases hc with (((hc | hc) | hc) | hc) | hc
  ·rw [hc]; decide
  ·rw [hc]; decide
  ·rw [hc]; rw [isC_iff] at hcode; omega
  ·rw [hc]; decide
  ·have := esc_bytes (text_bytes ht) c hc; omega
theorem itoa_noLF {n : Int} (h : 0 ≤ n) : NoLF (Lib.itoa n) := by
 obtain ⟨u, rfl⟩ := Int.eq_ofNat_of_zero_le h
 rw [itoa_nat]
 intro c hc
 have := isD_iff.1 (dec_dig u u (Nat.le_refl _) c hc)
 omega

/-! ### lines -/
def lns : Str → Str → List Str × Str
  | cur, [] => ([], cur)
  | cur, c :: t => if c.toNat = 10 then (cur :: (lns [] t).1, (lns [] t).2) else lns (cur ++ [c]) t
theorem m18_l1_eq (s : Str) (hs : s.length ≤ 1000000000) : ∀ (k i : Nat) (l : List Str) (cur : Str), i ≤ s.length → s.length < k + i → l.length ≤ i → cur.length ≤ i →
  m18_l1 s k l cur i = some (l ++ (lns cur (s.drop i)).1, (lns cur (s.drop i)).2) := by
 intro k
 induction k with
 | zero => intro i l cur h1 h2; omega
 | succ k ih =>
  intro i l cur h1 h2 h3 h4
  rw [m18_l1]
  by_cases hi : i < s.length
  ·obtain ⟨c, hc⟩ := getq hi
   rw [if_pos hi, hc, drop_at hc, lns]
   simp only [Option.bind_some]
   by_cases h10 : c.toNat = 10
   ·rw [if_pos h10, if_pos h10, if_pos (by omega), ih (i + 1) _ _ (by omega) (by omega) (by simp only [List.length_append, List.length_cons, List.length_nil]; omega) (by simp)]
    simp
   ·rw [if_neg h10, if_neg h10, piece hc, if_pos (by omega), if_pos (by simp only [List.length_cons, List.length_nil]; omega), ih (i + 1) _ _ (by omega) (by omega) (by omega) (by simp only [List.length_append, List.length_cons, List.length_nil]; omega)]
  ·rw [if_neg hi, List.drop_eq_nil_of_le (by omega)]
   simp [lns]
theorem m18_eq {s : Str} (hs : s.length ≤ 1000000000) : m18 s = some (lns [] s) := by
 unfold m18
 rw [m18_l1_eq s hs (s.length + 1) 0 [] [] (by omega) (by omega) (by simp) (by simp)]
 simp
theorem lns_app (a : Str) (h : NoLF a) : ∀ (cur t : Str), lns cur (a ++ t) = lns (cur ++ a) t := by
 induction a with
 | nil => intro cur t; simp
 | cons c a ih =>
  intro cur t
  show lns cur (c :: (a ++ t)) = _
  rw [lns, if_neg (h c List.mem_cons_self), ih (fun x hx => h x (List.mem_cons_of_mem _ hx))]
  simp
theorem lns_line (a t : Str) (h : NoLF a) : lns [] (a ++ 10 :: t) = (a :: (lns [] t).1, (lns [] t).2) := by
 rw [lns_app a h, List.nil_append, lns, if_pos (by decide)]
theorem lns_no (a : Str) (h : NoLF a) : lns [] a = ([], a) := by
 have := lns_app a h [] []
 simpa [lns] using this
theorem split10 (s : Str) : NoLF s ∨ ∃ a t, s = a ++ 10 :: t ∧ NoLF a := by
 induction s with
 | nil => exact .inl (fun c h => by cases h)
 | cons c s ih =>
  by_cases h10 : c.toNat = 10
  ·have : c = 10 := UInt8.toNat_inj.1 h10
   subst this
   exact .inr ⟨[], s, rfl, fun c h => by cases h⟩
  ·rcases ih with h | ⟨a, t, rfl, h⟩
   ·exact .inl (fun x hx => by rcases List.mem_cons.1 hx with rfl | hx; exact h10; exact h x hx)
   ·exact .inr ⟨c :: a, t, rfl, fun x hx => by rcases List.mem_cons.1 hx with rfl | hx; exact h10; exact h x hx⟩
theorem lns_back : ∀ (n : Nat) (s : Str), s.length ≤ n → ((lns [] s).1.flatMap fun l => l ++ [10]) ++ (lns [] s).2 = s ∧ ∀ l ∈ (lns [] s).1, l.length ≤ s.length := by
 intro n
 induction n with
 | zero => intro s h; have : s = [] := List.eq_nil_of_length_eq_zero (by omega); subst this; simp [lns]
 | succ n ih =>
  intro s h
  rcases split10 s with h0 | ⟨a, t, rfl, h0⟩
  ·rw [lns_no s h0]; simp
  ·rw [lns_line a t h0]
   have hlen : t.length ≤ n := by simp only [List.length_append, List.length_cons] at h; omega
   obtain ⟨h1, h2⟩ := ih t hlen
   refine ⟨?_, fun l hl => ?_⟩
   ·simp only [List.flatMap_cons, List.append_assoc]
    rw [h1]
    simp
   ·simp only [List.length_append, List.length_cons]
    rcases List.mem_cons.1 hl with rfl | hl
    ·omega
    ·have := h2 l hl; omega
/-! ### the first line, as the program cuts it -/
theorem ix_app (a t : Str) (h : NoLF a) : Lib.indexByte (a ++ 10 :: t) 10 = (a.length : Int) := by
 have hmem : (10 : UInt8) ∈ a ++ 10 :: t := by simp
 obtain ⟨o, h1, h2, h3⟩ := ix_some hmem
 rw [h1]
 have ho : o = a.length := by
  rcases Nat.lt_trichotomy o a.length with hlt | he | hgt
  ·rw [List.getElem?_append_left hlt] at h2
   exact absurd rfl (h 10 (List.mem_of_getElem? h2))
  ·exact he
  ·have := h3 a.length hgt
   rw [List.getElem?_append_right (Nat.le_refl _)] at this
   simp at this
 rw [ho]
theorem ix_no (a : Str) (h : NoLF a) : Lib.indexByte a 10 = -1 := ix_none (fun hm => h 10 hm rfl)
theorem m134_eq (s : Str) (hs : s.length ≤ 1000000000) : m134 s [10] = some (if ([10] : Str) = s then 0 else Lib.indexByte s 10) := by
 unfold m134
 rw [if_neg (by simp)]
 by_cases he : ([10] : Str) = s
 ·rw [if_pos he, if_pos he]
 ·rw [if_neg he, if_neg he, if_pos (show ([10] : Str).length = 1 from rfl)]
  show (some (10 : UInt8)).bind _ = _
  simp only [Option.bind_some]
  unfold m162 m185
  rw [if_pos (by omega)]
  rfl
theorem m53_no {s : Str} (hs : s.length ≤ 1000000000) (h : NoLF s) : m53 s [10] = some (s, [], false) := by
 unfold m53 m108
 rw [m134_eq s hs, if_neg (fun e => h 10 (by rw [← e]; simp) rfl), ix_no s h]
 simp only [Option.bind_some]
 rw [if_neg (by omega)]
 rfl
theorem m53_line {a t : Str} (hs : (a ++ 10 :: t).length ≤ 1000000000) (h : NoLF a) : m53 (a ++ 10 :: t) [10] = some (a, t, true) := by
 unfold m53 m108
 have e : (if ([10] : Str) = a ++ 10 :: t then (0 : Int) else Lib.indexByte (a ++ 10 :: t) 10) = (a.length : Int) := by
  by_cases he : ([10] : Str) = a ++ 10 :: t
  ·rw [if_pos he]
   cases a with
   | nil => rfl
   | cons x a => exfalso; have := congrArg List.length he; simp at this
  ·rw [if_neg he, ix_app a t h]
 rw [m134_eq _ hs, e]
 simp only [List.length_append, List.length_cons] at hs
 simp only [Option.bind_some, List.length_append, List.length_cons, List.length_nil]
 rw [if_pos (by omega), if_pos (by omega), w64 (by omega)]
 have e1 : ((a.length : Int) + ((0 + 1 : Nat) : Int)).toNat = a.length + 1 := by omega
 have e2 : ((a.length : Int)).toNat = a.length := by omega
 rw [e1, e2, if_pos (by omega), List.take_left]
 have e3 : (a ++ 10 :: t).drop (a.length + 1) = t := by
  rw [← List.drop_drop, List.drop_left]; rfl
 rw [e3]
 rfl
end Go.WK.S
