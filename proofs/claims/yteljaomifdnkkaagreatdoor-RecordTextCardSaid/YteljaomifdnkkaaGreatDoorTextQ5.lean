/- Plain law: the reference's field of a line. No program in sight but the models. -/
import Derived.Test.YteljaomifdnkkaaGreatDoorTextQ4
set_option linter.unusedSimpArgs false
set_option linter.unusedVariables false
namespace Go.WK.S
open Go Go.Proofs Go.WK Go.RowKit
set_option maxRecDepth 100000
set_option linter.unusedVariables false
set_option linter.unusedSimpArgs false

/-! ### the parts of a line -/
def prt : Str → Str → List Str
  | cur, [] => [cur]
  | cur, [c] => [cur ++ [c]]
  | cur, c :: d :: t => if c.toNat = 32 ∧ d.toNat = 36 then cur :: prt [] t else prt (cur ++ [c]) (d :: t)
theorem prt_step {cur r : Str} {c : UInt8} (h : ¬ (c.toNat = 32 ∧ ∃ d t, r = d :: t ∧ d.toNat = 36)) : prt cur (c :: r) = prt (cur ++ [c]) r := by
  cases r with
  | nil => simp [prt]
  | cons d t => rw [prt, if_neg (fun hh => h ⟨hh.1, d, t, rfl, hh.2⟩)]
theorem prt_len : ∀ (n : Nat) (cur t : Str), t.length ≤ n → (prt cur t).length ≤ t.length + 1 ∧ ∀ p ∈ prt cur t, p.length ≤ cur.length + t.length := by
  intro n
  induction n with
  | zero => intro cur t h; have : t = [] := List.eq_nil_of_length_eq_zero (by omega); subst this; simp [prt]
  | succ n ih =>
    intro cur t h
    rcases t with _ | ⟨c, _ | ⟨d, t⟩⟩
    · simp [prt]
    · simp [prt]
    · simp only [List.length_cons] at h
      unfold prt
      split
      · obtain ⟨h1, h2⟩ := ih [] t (by omega)
        simp only [List.length_cons, List.length_nil] at h1 h2 ⊢
        refine ⟨by omega, fun p hp => ?_⟩
        rcases List.mem_cons.1 hp with rfl | hp
        · omega
        · have := h2 p hp; omega
      · obtain ⟨h1, h2⟩ := ih (cur ++ [c]) (d :: t) (by simp only [List.length_cons]; omega)
        simp only [List.length_append, List.length_cons, List.length_nil] at h1 h2 ⊢
        exact ⟨by omega, fun p hp => by have := h2 p hp; omega⟩
theorem set_last {α : Type} (l : List α) (x y : α) : (l ++ [x]).set l.length y = l ++ [y] := by
  rw [List.set_append_right _ _ (Nat.le_refl _)]
  simp
theorem m113_l1_eq (s : Str) (hs : s.length ≤ 1000000000) : ∀ (k i : Nat) (done : List Str) (cur : Str), i ≤ s.length → s.length < k + i → done.length ≤ i → cur.length ≤ i → m113_l1 s k (done ++ [cur]) i = some (done ++ prt cur (s.drop i)) := by
  intro k
  induction k using Nat.strongRecOn with
  | ind k ih =>
    intro i done cur h1 h2 h3 h4
    obtain ⟨k, rfl⟩ : ∃ k', k = k' + 1 := ⟨k - 1, by omega⟩
    rw [m113_l1]
    by_cases hi : i < s.length
    · obtain ⟨c, hc⟩ := getq hi
      rw [if_pos hi]
      have hlast : at? (done ++ [cur]) (((done ++ [cur]).length : Int) - 1) = some cur := by
        rw [at?_pred _ (by simp)]
        simp
      have hset : ∀ y, (done ++ [cur]).set (((done ++ [cur]).length : Int) - 1).toNat y = done ++ [y] := fun y => by
        have e : (((done ++ [cur]).length : Int) - 1).toNat = done.length := by simp only [List.length_append, List.length_cons, List.length_nil]; omega
        rw [e, set_last]
      have go : ∀ d t, s.drop (i + 1) = d → ¬ (c.toNat = 32 ∧ ∃ d' t', d = d' :: t' ∧ d'.toNat = 36) → t = prt cur (s.drop i) →
          ((at? (done ++ [cur]) (((done ++ [cur]).length : Int) - 1)).bind fun x1488 =>
            if i ≤ i + 1 ∧ i + 1 ≤ s.length then
             if x1488.length + ((s.take (i + 1)).drop i).length ≤ 9223372036854775807 then
              (at? (done ++ [cur]) (((done ++ [cur]).length : Int) - 1)).bind fun x1499 =>
              m113_l1 s k ((done ++ [cur]).set (((done ++ [cur]).length : Int) - 1).toNat (x1488 ++ ((s.take (i + 1)).drop i))) (i + 1)
             else none
            else none) = some (done ++ t) := by
        intro d t hd hn ht
        rw [hlast]
        simp only [Option.bind_some]
        rw [piece hc, if_pos (by omega), if_pos (by simp only [List.length_cons, List.length_nil]; omega), hset, ih k (by omega) (i + 1) done _ (by omega) (by omega) (by omega) (by simp only [List.length_append, List.length_cons, List.length_nil]; omega)]
        rw [ht, drop_at hc, prt_step (by rw [hd]; exact hn)]
      by_cases hn : i + 1 < s.length
      · obtain ⟨d, hd⟩ := getq hn
        rw [if_pos hn, hc]
        simp only [Option.bind_some]
        by_cases hsep : c.toNat = 32 ∧ d.toNat = 36
        · rw [if_pos hsep.1, hd]
          simp only [Option.bind_some]
          rw [if_pos (decide_eq_true (by omega)), if_pos (by simp only [List.length_append, List.length_cons, List.length_nil]; omega), if_pos (by omega)]
          rw [ih k (by omega) (i + 1 + 1) (done ++ [cur]) [] (by omega) (by omega) (by simp only [List.length_append, List.length_cons, List.length_nil]; omega) (by simp)]
          rw [drop_at hc, drop_at hd, prt, if_pos hsep]
          simp
        · have hb : (if c.toNat = 32 then (s[i + 1]?).bind fun c1477 => some (decide ((c1477.toNat : Int) = 36)) else some false) = some false := by
            by_cases h32 : c.toNat = 32
            · rw [if_pos h32, hd]
              simp only [Option.bind_some]
              rw [decide_eq_false (by intro h; exact hsep ⟨h32, by omega⟩)]
            · rw [if_neg h32]
          rw [hb]
          simp only [Option.bind_some]
          rw [if_neg (by simp)]
          exact go _ _ rfl (fun ⟨h32, d', t', e, h36⟩ => hsep ⟨h32, by rw [drop_at hd] at e; injection e with e1 e2; rw [e1]; exact h36⟩) rfl
      · rw [if_neg hn]
        simp only [Option.bind_some]
        rw [if_neg (by simp)]
        refine go _ _ rfl (fun ⟨_, d', t', e, _⟩ => ?_) rfl
        rw [List.drop_eq_nil_of_le (by omega)] at e
        cases e
    · rw [if_neg hi, List.drop_eq_nil_of_le (by omega)]
      simp [prt]
theorem m113_eq {s : Str} (hs : s.length ≤ 1000000000) : m113 s = some (prt [] s) := by
  unfold m113
  have := m113_l1_eq s hs (s.length + 1) 0 [] [] (by omega) (by omega) (by simp) (by simp)
  simp only [List.nil_append, List.drop_zero] at this
  rw [this]
  rfl
/-! ### a value without its backslashes -/
def unesc : Str → Str
  | [] => []
  | [c] => [c]
  | c :: d :: t => if c.toNat = 92 then d :: unesc t else c :: unesc (d :: t)
theorem unesc_len : ∀ (n : Nat) (t : Str), t.length ≤ n → (unesc t).length ≤ t.length := by
  intro n
  induction n with
  | zero => intro t h; have : t = [] := List.eq_nil_of_length_eq_zero (by omega); subst this; simp [unesc]
  | succ n ih =>
    intro t h
    rcases t with _ | ⟨c, _ | ⟨d, t⟩⟩
    · simp [unesc]
    · simp [unesc]
    · simp only [List.length_cons] at h
      unfold unesc
      split
      · have := ih t (by omega); simp only [List.length_cons]; omega
      · have := ih (d :: t) (by simp only [List.length_cons]; omega); simp only [List.length_cons] at this ⊢; omega
theorem m114_l1_eq (s : Str) (hs : s.length ≤ 1000000000) : ∀ (k i : Nat) (acc : Str), i ≤ s.length → s.length < k + i → acc.length ≤ i → m114_l1 s k acc i = some (acc ++ unesc (s.drop i)) := by
  intro k
  induction k using Nat.strongRecOn with
  | ind k ih =>
    intro i acc h1 h2 h3
    obtain ⟨k, rfl⟩ : ∃ k', k = k' + 1 := ⟨k - 1, by omega⟩
    rw [m114_l1]
    by_cases hi : i < s.length
    · obtain ⟨c, hc⟩ := getq hi
      rw [if_pos hi, hc]
      simp only [Option.bind_some]
      by_cases hn : i + 1 < s.length
      · obtain ⟨d, hd⟩ := getq hn
        by_cases h92 : c.toNat = 92
        · rw [if_pos h92, if_pos hn]
          simp only [Option.bind_some]
          rw [piece hd, if_pos (by omega), if_pos (by omega), if_pos (by simp only [List.length_cons, List.length_nil]; omega), ih k (by omega) (i + 1 + 1) _ (by omega) (by omega) (by simp only [List.length_append, List.length_cons, List.length_nil]; omega), drop_at hc, drop_at hd, unesc, if_pos h92]
          simp
        · rw [if_neg h92]
          simp only [Option.bind_some]
          rw [piece hc, if_pos (by omega), if_pos (by omega), if_pos (by simp only [List.length_cons, List.length_nil]; omega), ih k (by omega) (i + 1) _ (by omega) (by omega) (by simp only [List.length_append, List.length_cons, List.length_nil]; omega), drop_at hc, drop_at hd, unesc, if_neg h92]
          simp
      · have hb : (if c.toNat = 92 then (if i + 1 < s.length then some (i + 1) else some i) else some i) = some i := by
          by_cases h92 : c.toNat = 92
          · rw [if_pos h92, if_neg hn]
          · rw [if_neg h92]
        rw [hb]
        simp only [Option.bind_some]
        rw [piece hc, if_pos (by omega), if_pos (by omega), if_pos (by simp only [List.length_cons, List.length_nil]; omega), ih k (by omega) (i + 1) _ (by omega) (by omega) (by simp only [List.length_append, List.length_cons, List.length_nil]; omega), drop_at hc, List.drop_eq_nil_of_le (i := i + 1) (by omega)]
        simp [unesc]
    · rw [if_neg hi, List.drop_eq_nil_of_le (by omega)]
      simp [unesc]
theorem m114_eq {s : Str} (hs : s.length ≤ 1000000000) : m114 s = some (unesc s) := by
  unfold m114
  rw [m114_l1_eq s hs (s.length + 1) 0 [] (by omega) (by omega) (by simp)]
  rfl
theorem unesc_esc (v : Str) : unesc (esc v) = v := by
  induction v with
  | nil => rfl
  | cons c v ih =>
    rw [esc_cons]
    by_cases he : c.toNat = 36 ∨ c.toNat = 92
    · have e : escC c = [92, c] := by unfold escC; rw [if_pos he]
      rw [e]
      show unesc (92 :: c :: esc v) = _
      rw [unesc, if_pos (by decide), ih]
    · have e : escC c = [c] := by unfold escC; rw [if_neg he]
      rw [e]
      show unesc (c :: esc v) = _
      cases hv : esc v with
      | nil => rw [hv] at ih; rw [← ih]; rfl
      | cons d t => rw [unesc, if_neg (fun h => he (.inr h)), ← hv, ih]
end Go.WK.S
