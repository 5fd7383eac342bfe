/- Plain law: texts: decoding, trimming, validity. No program in sight but the models. -/
import Derived.Test.YteljaomifdnkkaaGreatDoorCompareYV4
set_option linter.unusedSimpArgs false
set_option linter.unusedVariables false
namespace Go.WK.S
open Go Go.Proofs Go.WK Go.RowKit
set_option maxRecDepth 100000
set_option linter.unusedVariables false
set_option linter.unusedSimpArgs false

def okN : Nat → Str → Bool
  | 0, t => decide (t = [])
  | n + 1, t => if t = [] then true else if good1 t = true then okN n (t.drop (dec t).2) else false

theorem m125_l1_eq : ∀ (n k : Nat) (t : Str) (acc : List Int), t.length ≤ n → t.length < k → acc.length + t.length ≤ 17592186044416 →
  ∃ fl, m125_l1 k t acc = some fl ∧ ((∃ l, fl = .go l) ∧ okN n t = true ∨ (∃ l, fl = .ret (l, false)) ∧ okN n t = false) := by
 intro n
 induction n with
 | zero =>
  intro k t acc ht hk ha
  have := List.eq_nil_of_length_eq_zero (Nat.le_zero.1 ht)
  subst this
  obtain ⟨k, rfl⟩ : ∃ k', k = k' + 1 := ⟨k - 1, by simp at hk; omega⟩
  rw [m125_l1, if_neg (by simp)]
  exact ⟨_, rfl, .inl ⟨⟨_, rfl⟩, by simp [okN]⟩⟩
 | succ n ih =>
  intro k t acc ht hk ha
  obtain ⟨k, rfl⟩ : ∃ k', k = k' + 1 := ⟨k - 1, by omega⟩
  by_cases h : t = []
  ·subst h
   rw [m125_l1, if_neg (by simp)]
   exact ⟨_, rfl, .inl ⟨⟨_, rfl⟩, by simp [okN]⟩⟩
  ·have hl : 1 ≤ t.length := by cases t with | nil => exact absurd rfl h | cons a t => simp
   obtain ⟨d1, d2, d3⟩ := dec_len h
   rw [m125_l1, if_pos (by omega), m142_eq h (by omega)]
   simp only [Option.bind_some, okN, if_neg h]
   by_cases he : ((dec t).1 : Int) = 65533
   ·rw [if_pos he]
    have hg : good1 t = false := by unfold good1; rw [decide_eq_true (by omega)]; rfl
    rw [hg]
    exact ⟨_, rfl, .inr ⟨⟨_, rfl⟩, rfl⟩⟩
   ·rw [if_neg he, m143_eq _ (by omega) he]
    simp only [Option.bind_some]
    have hg : good1 t = hasC ((dec t).1 : Int) := by unfold good1; rw [decide_eq_false (by omega)]; simp
    rw [hg]
    by_cases hh : hasC ((dec t).1 : Int) = true
    ·rw [if_pos hh, if_pos hh, if_pos (by omega), if_pos (by omega), Int.toNat_natCast]
     exact ih k (t.drop (dec t).2) _ (by simp; omega) (by simp; omega) (by simp; omega)
    ·rw [if_neg hh, if_neg hh]
     exact ⟨_, rfl, .inr ⟨⟨_, rfl⟩, rfl⟩⟩
theorem m125_eq {s : Str} (hs : s.length ≤ 17592186044416) : ∃ l, m125 s = some (l, okN s.length s) := by
 obtain ⟨fl, h1, h2⟩ := m125_l1_eq s.length (s.length + 1) s [] (Nat.le_refl _) (by omega) (by simp; omega)
 unfold m125
 rw [if_pos hs, h1]
 rcases h2 with ⟨⟨l, rfl⟩, h⟩ | ⟨⟨l, rfl⟩, h⟩
 ·rw [h]; exact ⟨l, rfl⟩
 ·rw [h]; exact ⟨l, rfl⟩
theorem m127_l1_eq (s : Str) (hs : s.length ≤ 17592186044416) : ∀ (n k i : Nat) (acc : List Int), s.length - i ≤ n → i ≤ s.length → s.length < k + i → acc.length ≤ i →
  ∃ fl, m127_l1 s k acc (i : Int) = some fl ∧ ((∃ l, fl = .go l) ∧ okN n (s.drop i) = true ∨ (∃ l, fl = .ret (l, false)) ∧ okN n (s.drop i) = false) := by
 intro n
 induction n with
 | zero =>
  intro k i acc ht hi hk ha
  have hd : s.drop i = [] := List.drop_eq_nil_of_le (by omega)
  obtain ⟨k, rfl⟩ : ∃ k', k = k' + 1 := ⟨k - 1, by omega⟩
  rw [m127_l1, if_neg (by omega), hd]
  exact ⟨_, rfl, .inl ⟨⟨_, rfl⟩, by simp [okN]⟩⟩
 | succ n ih =>
  intro k i acc ht hi hk ha
  by_cases hn : i < s.length
  ·obtain ⟨k, rfl⟩ : ∃ k', k = k' + 1 := by
    refine ⟨k - 1, ?_⟩
    rcases Nat.eq_zero_or_pos k with h | h
    ·subst h; omega
    ·omega
   have h : s.drop i ≠ [] := by simp; omega
   obtain ⟨d1, d2, d3⟩ := dec_len h
   have hdl : (s.drop i).length = s.length - i := by simp
   obtain ⟨d, m, e1, e2, e3, e4⟩ := ref_at hs rfl h
   rw [m127_l1, if_pos (by omega), e1]
   simp only [Option.bind_some, okN, if_neg h]
   by_cases hm : m = 0
   ·have hg : good1 (s.drop i) = false := by
     cases hh : good1 (s.drop i) with
     | false => rfl
     | true => exact absurd hm (e3.2 hh).1
    subst hm
    rw [hg, if_pos (show ((0 : Nat) : Int) = 0 from rfl)]
    exact ⟨_, rfl, .inr ⟨⟨_, rfl⟩, rfl⟩⟩
   ·rw [if_neg (by omega), m152_eq _ (by omega)]
    simp only [Option.bind_some]
    by_cases hh : hasC (d : Int) = true
    ·have hg := e3.1 ⟨hm, hh⟩
     obtain ⟨f1, f2⟩ := e4 hg
     rw [if_pos hh, if_pos hg, if_pos (by omega)]
     have hw : IntKind.i64.wrap ((i : Int) + (m : Int)) = ((i + m : Nat) : Int) := by rw [w64 (by omega)]; omega
     rw [hw, ← f2, List.drop_drop]
     exact ih k (i + m) _ (by omega) (by omega) (by omega) (by simp; omega)
    ·have hg : good1 (s.drop i) = false := by
      cases hq : good1 (s.drop i) with
      | false => rfl
      | true => exact absurd (e3.2 hq).2 hh
     rw [if_neg hh, hg]
     exact ⟨_, rfl, .inr ⟨⟨_, rfl⟩, rfl⟩⟩
  ·have hd : s.drop i = [] := List.drop_eq_nil_of_le (by omega)
   obtain ⟨k, rfl⟩ : ∃ k', k = k' + 1 := ⟨k - 1, by omega⟩
   rw [m127_l1, if_neg (by omega), hd]
   exact ⟨_, rfl, .inl ⟨⟨_, rfl⟩, by simp [okN]⟩⟩
theorem m127_eq {s : Str} (hs : s.length ≤ 17592186044416) : ∃ l, m127 s = some (l, okN s.length s) := by
 obtain ⟨fl, h1, h2⟩ := m127_l1_eq s hs s.length (s.length + 1) 0 [] (by omega) (by omega) (by omega) (by simp)
 rw [List.drop_zero] at h2
 unfold m127
 rw [show ((0 : Int)) = ((0 : Nat) : Int) from rfl, h1]
 rcases h2 with ⟨⟨l, rfl⟩, h⟩ | ⟨⟨l, rfl⟩, h⟩
 ·rw [h]; exact ⟨l, rfl⟩
 ·rw [h]; exact ⟨l, rfl⟩

/-! ### trimming -/
theorem m144_l1_eq (c : UInt8) : ∀ (k : Nat) (s : Str), s.length < k → ∃ r, m144_l1 c k s = some r ∧ r.length ≤ s.length ∧ (s[0]? ≠ some c → r = s) ∧ (s[0]? = some c → r.length < s.length) := by
 intro k
 induction k with
 | zero => intro s h; omega
 | succ k ih =>
  intro s h
  rw [m144_l1]
  by_cases h0 : 0 < s.length
  ·obtain ⟨d, hd⟩ := getq h0
   rw [if_pos h0, hd]
   simp only [Option.bind_some]
   by_cases e : d.toNat = c.toNat
   ·rw [if_pos e, if_pos (by omega)]
    obtain ⟨r, h1, h2, _, _⟩ := ih (s.drop 1) (by simp; omega)
    have e' := UInt8.toNat_inj.1 e
    refine ⟨r, h1, by simp at h2; omega, fun hn => absurd (by rw [e']) hn, fun _ => by simp at h2; omega⟩
   ·rw [if_neg e]
    exact ⟨s, rfl, Nat.le_refl _, fun _ => rfl, fun hn => absurd (by rw [Option.some.inj hn]) e⟩
  ·rw [if_neg h0]
   exact ⟨s, rfl, Nat.le_refl _, fun _ => rfl, fun hn => by have := getq_lt hn; omega⟩
theorem m145_l1_eq (c : UInt8) : ∀ (k : Nat) (s : Str), s.length < k → ∃ r, m145_l1 c k s = some r ∧ r.length ≤ s.length ∧ (s[s.length - 1]? ≠ some c → r = s) ∧ (s[s.length - 1]? = some c → r.length < s.length) := by
 intro k
 induction k with
 | zero => intro s h; omega
 | succ k ih =>
  intro s h
  rw [m145_l1]
  by_cases h0 : 0 < s.length
  ·obtain ⟨d, hd⟩ := getq (xs := s) (i := s.length - 1) (by omega)
   rw [if_pos h0, at?_eq (i := s.length - 1) (by omega) hd, hd]
   simp only [Option.bind_some]
   by_cases e : d.toNat = c.toNat
   ·rw [if_pos e, if_pos (by omega)]
    have ht : ((s.length : Int) - 1).toNat = s.length - 1 := by omega
    rw [ht]
    obtain ⟨r, h1, h2, _, _⟩ := ih (s.take (s.length - 1)) (by simp; omega)
    have e' := UInt8.toNat_inj.1 e
    refine ⟨r, h1, by simp at h2; omega, fun hn => absurd (by rw [e']) hn, fun _ => by simp at h2; omega⟩
   ·rw [if_neg e]
    exact ⟨s, rfl, Nat.le_refl _, fun _ => rfl, fun hn => absurd (by rw [Option.some.inj hn]) e⟩
  ·rw [if_neg h0]
   exact ⟨s, rfl, Nat.le_refl _, fun _ => rfl, fun hn => by have := getq_lt hn; omega⟩
theorem m126_eq {s : Str} (h : s ≠ []) : ∃ r, m126 s [32] = some r ∧ (r = s ↔ s[0]? ≠ some 32 ∧ s[s.length - 1]? ≠ some 32) := by
 obtain ⟨r1, a1, a2, a3, a4⟩ := m145_l1_eq 32 (s.length + 1) s (by omega)
 obtain ⟨r2, b1, b2, b3, b4⟩ := m144_l1_eq 32 (r1.length + 1) r1 (by omega)
 refine ⟨r2, ?_, ?_⟩
 ·unfold m126 m145 m144
  rw [if_neg h, if_neg (by simp)]
  simp only [List.length_cons, List.length_nil, List.getElem?_cons_zero, Option.bind_some, if_true]
  rw [decide_eq_true (by decide)]
  simp only [if_true, a1, b1, Option.bind_some]
 ·by_cases e : s[s.length - 1]? = some 32
  ·have := a4 e
   constructor
   ·intro hr; rw [hr] at b2; omega
   ·intro hr; exact absurd e hr.2
  ·have hr1 := a3 e
   subst hr1
   by_cases e0 : r1[0]? = some 32
   ·have := b4 e0
    constructor
    ·intro hr; rw [hr] at this; omega
    ·intro hr; exact absurd e0 hr.1
   ·exact ⟨fun _ => ⟨e0, e⟩, fun _ => b3 e0⟩

/-! ### texts -/
def textOk (s : Str) : Bool := decide (1 ≤ s.length ∧ s.length ≤ 400 ∧ s[0]? ≠ some 32 ∧ s[s.length - 1]? ≠ some 32) && okN s.length s
theorem m78_eq {s : Str} (hs : s.length ≤ 17592186044416) : m78 s = some (textOk s) := by
 obtain ⟨l, h1⟩ := m125_eq hs
 unfold m78 textOk
 rw [h1]
 simp only [Option.bind_some]
 by_cases hok : okN s.length s = true
 ·rw [if_pos hok, hok]
  by_cases h : s = []
  ·subst h; simp
  ·have hl : 1 ≤ s.length := by cases s with | nil => exact absurd rfl h | cons a t => simp
   rw [if_neg h]
   by_cases h4 : s.length ≤ 400
   ·obtain ⟨r, e1, e2⟩ := m126_eq h
    rw [if_pos h4, e1]
    simp only [Option.bind_some, Bool.and_true]
    congr 1
    rw [Bool.eq_iff_iff]
    simp only [decide_eq_true_eq]
    rw [e2]
    exact ⟨fun hh => ⟨hl, h4, hh⟩, fun hh => hh.2.2⟩
   ·rw [if_neg h4, decide_eq_false (fun hh => h4 hh.2.1)]; rfl
 ·rw [if_neg hok]
  simp [hok]
theorem m80_eq {s : Str} (hs : s.length ≤ 17592186044416) : m80 s = some (textOk s) := by
 obtain ⟨l, h1⟩ := m127_eq hs
 unfold m80 textOk
 by_cases h0 : s.length < 1
 ·rw [if_pos h0, decide_eq_false (by omega)]; rfl
 ·rw [if_neg h0]
  by_cases h4 : 400 < s.length
  ·rw [if_pos h4, decide_eq_false (by omega)]; rfl
  ·obtain ⟨c, hc⟩ := getq (xs := s) (i := 0) (by omega)
   obtain ⟨d, hd⟩ := getq (xs := s) (i := s.length - 1) (by omega)
   rw [if_neg h4, hc, at?_eq (i := s.length - 1) (by omega) hd, hd]
   simp only [Option.bind_some]
   have e32 : (32 : UInt8).toNat = 32 := rfl
   by_cases h5 : c.toNat = 32
   ·have : c = 32 := UInt8.toNat_inj.1 h5
    rw [if_pos h5, decide_eq_false (fun hh => hh.2.2.1 (by rw [this]))]; rfl
   ·rw [if_neg h5]
    by_cases h6 : d.toNat = 32
    ·have : d = 32 := UInt8.toNat_inj.1 h6
     rw [if_pos h6, decide_eq_false (fun hh => hh.2.2.2 (by rw [this]))]; rfl
    ·rw [if_neg h6, h1, decide_eq_true ⟨by omega, by omega, fun e => h5 (by rw [Option.some.inj e]; rfl), fun e => h6 (by rw [Option.some.inj e]; rfl)⟩]
     rfl
end Go.WK.S
