/- Plain law: the program's field of a line, whole. No program in sight but the models. -/
import Derived.Test.YteljaomifdnkkaaGreatDoorLinesQ3
set_option linter.unusedSimpArgs false
set_option linter.unusedVariables false
namespace Go.WK.S
open Go Go.Proofs Go.WK Go.RowKit
set_option maxRecDepth 100000
set_option linter.unusedVariables false
set_option linter.unusedSimpArgs false

def readC (c : UInt8) : UInt8 := if c.toNat = 95 then 32 else if c.toNat = 32 then 95 else c
theorem m111_eq (c : UInt8) : m111 c = some (readC c) := by
  unfold m111 readC
  repeat' split
  all_goals rfl
theorem read_shown {c : UInt8} (h : indOk c = true) : readC (shown c) = c := by
  unfold indOk at h
  simp only [Bool.or_eq_true, decide_eq_true_eq, isC_iff] at h
  unfold readC shown
  by_cases hc : c.toNat = 32
  · rw [if_pos hc, if_pos (by decide)]
    exact UInt8.toNat_inj.1 (by rw [hc]; rfl)
  · rw [if_neg hc, if_neg (by omega), if_neg hc]
def zeroF : FD := ⟨[], 0, 0, []⟩
def SubsB (L : Nat) (l : List SD) : Prop := l.length ≤ 21 ∧ ∀ s ∈ l, s.Value.length ≤ L
theorem m56_l1_tot (L : Nat) (hL : L ≤ 1000000) (a : Str) (b c : UInt8) (d : List SD) : ∀ (k : Nat) (rest : Str) (subs : List SD), rest.length < k → rest.length ≤ L → SubsB L subs →
    m56_l1 k rest subs a b c d = some (.ret (zeroF, false)) ∨ ∃ subs', m56_l1 k rest subs a b c d = some (.go (subs', a, b, c, d)) ∧ SubsB L subs' := by
  intro k
  induction k using Nat.strongRecOn with
  | ind k ih =>
    intro rest subs h1 h2 h3
    obtain ⟨k, rfl⟩ : ∃ k', k = k' + 1 := ⟨k - 1, by omega⟩
    rw [m56_l1]
    by_cases h0 : rest = []
    · rw [if_pos h0]; exact .inr ⟨subs, rfl, h3⟩
    · rw [if_neg h0]
      by_cases h5 : rest.length < 5
      · rw [if_pos h5]; exact .inl rfl
      · rw [if_neg h5]
        by_cases h20 : 20 < subs.length
        · rw [if_pos h20]; exact .inl rfl
        · have hd : (rest.drop 4).length = rest.length - 4 := by simp
          have hv := valOf_len (rest.drop 4)
          obtain ⟨x, hx⟩ := getq (xs := rest) (i := 2) (by omega)
          rw [if_neg h20, if_pos (by omega), m112_eq (by omega)]
          simp only [Option.bind_some]
          rw [hx]
          simp only [Option.bind_some]
          rw [if_pos (by omega), w64 (by omega)]
          have e : ((4 : Int) + (((valOf (rest.drop 4)).2 : Nat) : Int)).toNat = 4 + (valOf (rest.drop 4)).2 := by omega
          rw [e, if_pos (by omega)]
          refine ih k (by omega) (rest.drop (4 + (valOf (rest.drop 4)).2)) _ (by simp only [List.length_drop]; omega) (by simp only [List.length_drop]; omega) ⟨by simp only [List.length_append, List.length_cons, List.length_nil]; omega, fun s hs => ?_⟩
          rcases List.mem_append.1 hs with hs | hs
          · exact h3.2 s hs
          · simp only [List.mem_singleton] at hs
            subst hs
            simp only []
            omega
theorem subOk_val {s : SD} (h : subOk s = true) : isC s.Code = true ∧ textOk s.Value = true := by unfold subOk at h; simpa using h
theorem textOk_ends {v : Str} (h : textOk v = true) : (1 ≤ v.length ∧ v.length ≤ 400) ∧ v.getLast? ≠ some 32 ∧ v[0]? ≠ some 32 := by
  unfold textOk at h
  simp only [Bool.and_eq_true, decide_eq_true_eq] at h
  refine ⟨⟨h.1.1, h.1.2.1⟩, ?_, h.1.2.2.1⟩
  rw [List.getLast?_eq_getElem?]
  exact h.1.2.2.2
theorem m56_l1_comp (a : Str) (b c : UInt8) (d : List SD) : ∀ (l : List SD) (k : Nat) (subs : List SD), l.length < k → subs.length + l.length ≤ 20 → (∀ s ∈ l, subOk s = true) →
    m56_l1 k (subsLine l) subs a b c d = some (.go (subs ++ l, a, b, c, d)) := by
  intro l
  induction l with
  | nil =>
    intro k subs h1 h2 h3
    obtain ⟨k, rfl⟩ : ∃ k', k = k' + 1 := ⟨k - 1, by omega⟩
    rw [m56_l1, if_pos (show subsLine [] = [] from rfl), List.append_nil]
  | cons s l ih =>
    intro k subs h1 h2 h3
    simp only [List.length_cons] at h1 h2
    obtain ⟨k, rfl⟩ : ∃ k', k = k' + 1 := ⟨k - 1, by omega⟩
    obtain ⟨hc, ht⟩ := subOk_val (h3 s List.mem_cons_self)
    obtain ⟨⟨t1, t2⟩, t3, t4⟩ := textOk_ends ht
    have hB : (subsLine l).length ≤ 20 * 804 := by
      have := subsLine_len (l := l) (B := 400) (fun x hx => (textOk_ends (subOk_val (h3 x (List.mem_cons_of_mem _ hx))).2).1.2)
      omega
    have hesc : 1 ≤ (esc s.Value).length ∧ (esc s.Value).length ≤ 800 := by
      have := esc_len s.Value
      refine ⟨?_, by omega⟩
      cases hv : s.Value with
      | nil => rw [hv] at t1; simp at t1
      | cons x r => rw [esc_cons]; unfold escC; split <;> simp
    have hform : subsLine (s :: l) = 32 :: 36 :: s.Code :: 32 :: (esc s.Value ++ subsLine l) := by rw [subsLine_cons]; simp [subLine]
    have hlen : (subsLine (s :: l)).length = 4 + ((esc s.Value).length + (subsLine l).length) := by rw [hform]; simp only [List.length_cons, List.length_append]; omega
    have hd : (subsLine (s :: l)).drop 4 = esc s.Value ++ subsLine l := by rw [hform]; rfl
    rw [m56_l1, if_neg (by rw [hform]; simp), if_neg (by omega), if_neg (by omega), if_pos (by omega), hd, m112_eq (by simp only [List.length_append]; omega), valOf_esc t3]
    simp only [Option.bind_some]
    have h2' : (subsLine (s :: l))[2]? = some s.Code := by rw [hform]; rfl
    rw [h2']
    simp only [Option.bind_some]
    rw [if_pos (by omega), w64 (by omega)]
    have e : ((4 : Int) + (((esc s.Value).length : Nat) : Int)).toNat = 4 + (esc s.Value).length := by omega
    rw [e, if_pos (by omega), ← List.drop_drop, hd, List.drop_left, ih k _ (by omega) (by simp only [List.length_append, List.length_cons, List.length_nil]; omega) (fun x hx => h3 x (List.mem_cons_of_mem _ hx))]
    simp
theorem field_parts {f : FD} (h : fieldOk f = true) : f.Tag.length = 3 ∧ indOk f.Ind_0 = true ∧ indOk f.Ind_1 = true ∧ (1 ≤ f.Subs.length ∧ f.Subs.length ≤ 20) ∧ ∀ s ∈ f.Subs, subOk s = true := by
  have ht := tagOk_len (tag_of h)
  unfold fieldOk at h
  simp only [Bool.and_eq_true, decide_eq_true_eq, List.all_eq_true] at h
  exact ⟨ht, h.1.1.1.2, h.1.1.2, h.1.2, h.2⟩
theorem lineB {f : FD} {L : Nat} (hL : L ≤ 1000000) (ht : f.Tag.length = 3) (hs : SubsB L f.Subs) : (lineOf f).length ≤ 100000000 := by
  have h1 := subsLine_len (l := f.Subs) (B := L) hs.2
  have h2 := hs.1
  have h3 : f.Subs.length * (2 * L + 4) ≤ 21 * (2 * L + 4) := Nat.mul_le_mul_right _ h2
  unfold lineOf headOf
  simp only [List.length_append, List.length_cons, List.length_nil]
  omega
/-- A line is that of a valid field. -/
def IsLine (s : Str) (f : FD) : Prop := fieldOk f = true ∧ lineOf f = s
theorem m56_eq {s : Str} (hl : s.length ≤ 1000000) : ∃ f ok, m56 s = some (f, ok) ∧ (ok = true → IsLine s f) ∧ ∀ f0, IsLine s f0 → f = f0 ∧ ok = true := by
  unfold m56
  by_cases h6 : s.length < 6
  · rw [if_pos h6]
    refine ⟨_, _, rfl, fun h => (by cases h), fun f0 hf => ?_⟩
    exfalso
    obtain ⟨h1, h2⟩ := hf
    have := (field_parts h1).1
    rw [← h2] at h6
    obtain ⟨_, _, _, ⟨h4, _⟩, _⟩ := field_parts h1
    unfold lineOf headOf at h6
    cases hs : f0.Subs with
    | nil => rw [hs] at h4; simp at h4
    | cons a l =>
      rw [hs, subsLine_cons] at h6
      simp only [subLine, List.length_append, List.length_cons, List.length_nil] at h6
      omega
  · rw [if_neg h6]
    obtain ⟨c4, h4⟩ := getq (xs := s) (i := 4) (by omega)
    obtain ⟨c5, h5⟩ := getq (xs := s) (i := 5) (by omega)
    rw [if_pos (by omega), h4]
    simp only [Option.bind_some]
    rw [m111_eq]
    simp only [Option.bind_some]
    rw [h5]
    simp only [Option.bind_some]
    rw [m111_eq]
    simp only [Option.bind_some]
    rw [if_pos (by omega)]
    -- what a valid field's line comes to
    have comp : ∀ f0, IsLine s f0 → f0.Tag = s.take 3 ∧ f0.Ind_0 = readC c4 ∧ f0.Ind_1 = readC c5 ∧ s.drop 6 = subsLine f0.Subs := by
      intro f0 hf
      obtain ⟨h1, h2⟩ := hf
      obtain ⟨p1, p2, p3, p4, p5⟩ := field_parts h1
      obtain ⟨x, y, z, hxyz⟩ : ∃ x y z, f0.Tag = [x, y, z] := by
        match hT : f0.Tag, p1 with
        | [x, y, z], _ => exact ⟨x, y, z, rfl⟩
      subst h2
      have e : lineOf f0 = x :: y :: z :: 32 :: shown f0.Ind_0 :: shown f0.Ind_1 :: subsLine f0.Subs := by unfold lineOf headOf; rw [hxyz]; simp
      rw [e] at h4 h5 ⊢
      simp only [List.getElem?_cons_succ, List.getElem?_cons_zero, Option.some.injEq] at h4 h5
      subst h4 h5
      exact ⟨by rw [hxyz]; rfl, (read_shown p2).symm, (read_shown p3).symm, rfl⟩
    have hL : s.length ≤ 1000000 := hl
    have fin : ∀ (subs : List SD), SubsB s.length subs → ∃ f ok, ((m35 (⟨s.take 3, readC c4, readC c5, subs⟩ : D_api_Field)).bind fun x744 =>
       if x744 = true then (m50 (⟨s.take 3, readC c4, readC c5, subs⟩ : D_api_Field)).bind fun x748 => some ((⟨s.take 3, readC c4, readC c5, subs⟩ : D_api_Field), decide (x748 = s))
       else some ((⟨s.take 3, readC c4, readC c5, subs⟩ : D_api_Field), false)) = some (f, ok) ∧ f = ⟨s.take 3, readC c4, readC c5, subs⟩ ∧ (ok = true ↔ IsLine s f) := by
      intro subs hb
      rw [m35_eq (f := ⟨s.take 3, readC c4, readC c5, subs⟩) (fun x hx => by have := hb.2 x hx; omega)]
      simp only [Option.bind_some]
      by_cases hok : fieldOk ⟨s.take 3, readC c4, readC c5, subs⟩ = true
      · rw [if_pos hok, m50_eq (by have := lineB hL (tagOk_len (tag_of hok)) hb; omega)]
        exact ⟨_, _, rfl, rfl, by rw [decide_eq_true_eq]; exact ⟨fun h => ⟨hok, h⟩, fun h => h.2⟩⟩
      · rw [if_neg hok]
        exact ⟨_, _, rfl, rfl, ⟨fun h => (by cases h), fun h => absurd h.1 hok⟩⟩
    rcases m56_l1_tot s.length hL ([] : Str) 0 0 [] 9223372036854775808 (s.drop 6) [] (by simp only [List.length_drop]; omega) (by simp only [List.length_drop]; omega) ⟨by simp, fun _ h => by cases h⟩ with h | ⟨subs, h, hb⟩
    · rw [h]
      refine ⟨zeroF, false, rfl, fun h => (by cases h), fun f0 hf => ?_⟩
      exfalso
      obtain ⟨_, _, _, e⟩ := comp f0 hf
      obtain ⟨_, _, _, p4, p5⟩ := field_parts hf.1
      rw [e, m56_l1_comp ([] : Str) 0 0 [] f0.Subs 9223372036854775808 [] (by omega) (by simp; omega) p5] at h
      cases h
    · rw [h]
      obtain ⟨f, ok, h1, h2, h3⟩ := fin subs hb
      refine ⟨f, ok, h1, fun hk => h3.1 hk, fun f0 hf => ?_⟩
      obtain ⟨e1, e2, e3, e⟩ := comp f0 hf
      obtain ⟨_, _, _, p4, p5⟩ := field_parts hf.1
      rw [e, m56_l1_comp ([] : Str) 0 0 [] f0.Subs 9223372036854775808 [] (by omega) (by simp; omega) p5] at h
      simp only [Option.some.injEq, Fl.go.injEq, Prod.mk.injEq, List.nil_append] at h
      have hf0 : f = f0 := by rw [h2, ← h.1, ← e1, ← e2, ← e3]
      exact ⟨hf0, h3.2 (by rw [hf0]; exact hf)⟩
end Go.WK.S
