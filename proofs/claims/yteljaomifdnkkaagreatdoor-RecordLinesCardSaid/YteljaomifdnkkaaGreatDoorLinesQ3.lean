/- Plain law: the program's field of a line. No program in sight but the models. -/
import Derived.Test.YteljaomifdnkkaaGreatDoorLinesQ2
set_option linter.unusedSimpArgs false
set_option linter.unusedVariables false
namespace Go.WK.S
open Go Go.Proofs Go.WK Go.RowKit
set_option maxRecDepth 100000
set_option linter.unusedVariables false
set_option linter.unusedSimpArgs false

/-! ### the value with which a string begins -/
def scan : Str → Str → Str × Nat × Bool
  | out, [] => (out, 0, false)
  | out, [c] => if c.toNat = 36 then (out, 0, true) else (out ++ [c], 1, false)
  | out, c :: d :: t => if c.toNat = 36 then (out, 0, true) else if c.toNat = 92 then ((scan (out ++ [d]) t).1, (scan (out ++ [d]) t).2.1 + 2, (scan (out ++ [d]) t).2.2)
      else ((scan (out ++ [c]) (d :: t)).1, (scan (out ++ [c]) (d :: t)).2.1 + 1, (scan (out ++ [c]) (d :: t)).2.2)
def trimS (o : Str) : Str := if o.getLast? = some 32 then o.dropLast else o
theorem m138_eq (o : Str) : m138 o [32] = some (trimS o) := by
  unfold m138 m171 m190 trimS
  rcases List.eq_nil_or_concat o with rfl | ⟨l, c, rfl⟩
  · simp
  · rw [List.concat_eq_append]
    simp only [List.length_append, List.length_cons, List.length_nil, List.getLast?_concat, List.dropLast_concat]
    rw [if_pos (by omega), if_pos (by omega)]
    simp only [Option.bind_some]
    have e : (((l.length + (0 + 1) : Nat) : Int) - ((0 + 1 : Nat) : Int)).toNat = l.length := by omega
    rw [e, List.drop_left, List.take_left]
    by_cases hc : c = 32
    · subst hc
      rw [if_pos (by simp), if_pos (by omega), if_pos rfl]
      rfl
    · rw [if_neg (by simpa using hc), if_neg (by simpa using hc)]
      rfl
theorem scan_len : ∀ (n : Nat) (out t : Str), t.length ≤ n → (scan out t).2.1 ≤ t.length ∧ (scan out t).1.length ≤ out.length + t.length := by
  intro n
  induction n with
  | zero => intro out t h; have : t = [] := List.eq_nil_of_length_eq_zero (by omega); subst this; simp [scan]
  | succ n ih =>
    intro out t h
    rcases t with _ | ⟨c, _ | ⟨d, t⟩⟩
    · simp [scan]
    · unfold scan; split <;> simp
    · simp only [List.length_cons] at h
      have h1 := ih (out ++ [d]) t (by omega)
      have h2 := ih (out ++ [c]) (d :: t) (by simp only [List.length_cons]; omega)
      simp only [List.length_append, List.length_cons, List.length_nil] at h1 h2 ⊢
      unfold scan
      split
      · simp
      · split <;> simp only [] <;> omega
def scanR (r : Str × Nat × Bool) (i : Nat) : Fl (Str × Int) (List UInt8) := if r.2.2 = true then .ret (trimS r.1, max (((i + r.2.1 : Nat) : Int) - 1) 0) else .go r.1
theorem m112_l1_eq (s : Str) (hs : s.length ≤ 1000000000) : ∀ (k i : Nat) (out : Str), i ≤ s.length → s.length < k + i → out.length ≤ i → m112_l1 s k out i = some (scanR (scan out (s.drop i)) i) := by
  intro k
  induction k using Nat.strongRecOn with
  | ind k ih =>
    intro i out h1 h2 h3
    obtain ⟨k, rfl⟩ : ∃ k', k = k' + 1 := ⟨k - 1, by omega⟩
    rw [m112_l1]
    by_cases hi : i < s.length
    · obtain ⟨c, hc⟩ := getq hi
      rw [if_pos hi, hc, drop_at hc]
      simp only [Option.bind_some]
      by_cases h36 : c.toNat = 36
      · rw [if_pos h36, m138_eq]
        simp only [Option.bind_some]
        have e : scan out (c :: s.drop (i + 1)) = (out, 0, true) := by
          cases s.drop (i + 1) with
          | nil => unfold scan; rw [if_pos h36]
          | cons d t => unfold scan; rw [if_pos h36]
        rw [e]
        simp [scanR]
      · rw [if_neg h36]
        by_cases hn : i + 1 < s.length
        · obtain ⟨d, hd⟩ := getq hn
          rw [drop_at hd]
          by_cases h92 : c.toNat = 92
          · rw [if_pos h92, if_pos hn]
            simp only [Option.bind_some]
            rw [hd]
            simp only [Option.bind_some]
            rw [if_pos (by omega), if_pos (by omega), ih k (by omega) (i + 1 + 1) _ (by omega) (by omega) (by simp only [List.length_append, List.length_cons, List.length_nil]; omega)]
            have e : scan out (c :: d :: s.drop (i + 1 + 1)) = ((scan (out ++ [d]) (s.drop (i + 1 + 1))).1, (scan (out ++ [d]) (s.drop (i + 1 + 1))).2.1 + 2, (scan (out ++ [d]) (s.drop (i + 1 + 1))).2.2) := by
              rw [scan, if_neg h36, if_pos h92]
            rw [e]
            unfold scanR
            simp only []
            congr 3
            congr 2
            omega
          · rw [if_neg h92]
            simp only [Option.bind_some]
            rw [hc]
            simp only [Option.bind_some]
            rw [if_pos (by omega), if_pos (by omega), ih k (by omega) (i + 1) _ (by omega) (by omega) (by simp only [List.length_append, List.length_cons, List.length_nil]; omega)]
            have e : scan out (c :: d :: s.drop (i + 1 + 1)) = ((scan (out ++ [c]) (d :: s.drop (i + 1 + 1))).1, (scan (out ++ [c]) (d :: s.drop (i + 1 + 1))).2.1 + 1, (scan (out ++ [c]) (d :: s.drop (i + 1 + 1))).2.2) := by
              rw [scan, if_neg h36, if_neg h92]
            rw [e, drop_at hd]
            unfold scanR
            simp only []
            congr 3
            congr 2
            omega
        · rw [List.drop_eq_nil_of_le (by omega)]
          have hb : (if c.toNat = 92 then (if i + 1 < s.length then some (i + 1) else some i) else some i) = some i := by
            by_cases h92 : c.toNat = 92
            · rw [if_pos h92, if_neg hn]
            · rw [if_neg h92]
          rw [hb]
          simp only [Option.bind_some]
          rw [hc]
          simp only [Option.bind_some]
          rw [if_pos (by omega), if_pos (by omega), ih k (by omega) (i + 1) _ (by omega) (by omega) (by simp only [List.length_append, List.length_cons, List.length_nil]; omega), List.drop_eq_nil_of_le (by omega)]
          have e : scan out [c] = (out ++ [c], 1, false) := by rw [scan, if_neg h36]
          rw [e]
          simp [scan, scanR]
    · rw [if_neg hi, List.drop_eq_nil_of_le (by omega)]
      simp [scan, scanR]
def valOf (t : Str) : Str × Nat := if (scan [] t).2.2 = true then (trimS (scan [] t).1, (scan [] t).2.1 - 1) else ((scan [] t).1, t.length)
theorem m112_eq {t : Str} (h : t.length ≤ 1000000000) : m112 t = some ((valOf t).1, ((valOf t).2 : Int)) := by
  unfold m112
  rw [m112_l1_eq t h _ 0 [] (by omega) (by omega) (by simp)]
  simp only [Option.bind_some, List.drop_zero]
  unfold scanR valOf
  by_cases hb : (scan [] t).2.2 = true
  · rw [if_pos hb, if_pos hb]
    simp only []
    congr 2
    omega
  · rw [if_neg hb, if_neg hb]
theorem trimS_len (o : Str) : (trimS o).length ≤ o.length := by unfold trimS; split <;> simp
theorem valOf_len (t : Str) : (valOf t).1.length ≤ t.length ∧ (valOf t).2 ≤ t.length := by
  have h := scan_len t.length [] t (Nat.le_refl _)
  have h2 := trimS_len (scan [] t).1
  simp only [List.length_nil] at h
  unfold valOf
  split
  · simp only []; omega
  · simp only []; omega
theorem scan_esc (v : Str) : ∀ (out t : Str), scan out (esc v ++ t) = ((scan (out ++ v) t).1, (scan (out ++ v) t).2.1 + (esc v).length, (scan (out ++ v) t).2.2) := by
  induction v with
  | nil => intro out t; simp [esc]
  | cons c v ih =>
    intro out t
    rw [esc_cons]
    by_cases he : c.toNat = 36 ∨ c.toNat = 92
    · have e : escC c = [92, c] := by unfold escC; rw [if_pos he]
      rw [e]
      show scan out (92 :: c :: (esc v ++ t)) = _
      rw [scan, if_neg (by decide), if_pos (by decide), ih]
      simp only [List.append_assoc, List.cons_append, List.nil_append, List.length_cons]
      rw [Nat.add_assoc]
    · have e : escC c = [c] := by unfold escC; rw [if_neg he]
      rw [e]
      show scan out (c :: (esc v ++ t)) = _
      have step : ∀ r : Str, scan out (c :: r) = ((scan (out ++ [c]) r).1, (scan (out ++ [c]) r).2.1 + 1, (scan (out ++ [c]) r).2.2) := by
        intro r
        cases r with
        | nil => have h36 : ¬ c.toNat = 36 := fun h => he (.inl h)
                 simp [scan, h36]
        | cons d r => rw [scan, if_neg (fun h => he (.inl h)), if_neg (fun h => he (.inr h))]
      rw [step, ih]
      simp only [List.append_assoc, List.cons_append, List.nil_append, List.length_cons]
      rw [Nat.add_assoc]
theorem subsLine_head (l : List SD) : subsLine l = [] ∨ ∃ t, subsLine l = 32 :: 36 :: t := by
  cases l with
  | nil => exact .inl rfl
  | cons s l => exact .inr ⟨_, by rw [subsLine_cons]; rfl⟩
theorem valOf_esc {v : Str} (hv : v.getLast? ≠ some 32) (l : List SD) : valOf (esc v ++ subsLine l) = (v, (esc v).length) := by
  unfold valOf
  rw [scan_esc]
  simp only [List.nil_append]
  rcases subsLine_head l with e | ⟨t, e⟩
  · rw [e]
    simp [scan]
  · rw [e]
    have e2 : scan v (32 :: 36 :: t) = (v ++ [32], 1, true) := by
      rw [scan, if_neg (by decide), if_neg (by decide)]
      have : scan (v ++ [32]) (36 :: t) = (v ++ [32], 0, true) := by
        cases t with
        | nil => rw [scan, if_pos (by decide)]
        | cons d t => rw [scan, if_pos (by decide)]
      rw [this]
    rw [e2]
    simp only [if_true]
    unfold trimS
    rw [List.getLast?_concat, if_pos rfl, List.dropLast_concat]
    congr 1
    omega
end Go.WK.S
