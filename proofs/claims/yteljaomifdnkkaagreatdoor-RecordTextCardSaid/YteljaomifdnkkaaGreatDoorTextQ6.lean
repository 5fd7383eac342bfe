/- Plain law: the reference's field of a line, whole. No program in sight but the models. -/
import Derived.Test.YteljaomifdnkkaaGreatDoorTextQ5
set_option linter.unusedSimpArgs false
set_option linter.unusedVariables false
namespace Go.WK.S
open Go Go.Proofs Go.WK Go.RowKit
set_option maxRecDepth 100000
set_option linter.unusedVariables false
set_option linter.unusedSimpArgs false

def readR (c : UInt8) : UInt8 := if c.toNat = 95 then 32 else c
theorem readR_shown {c : UInt8} (h : indOk c = true) : readR (shown c) = c := by
 unfold indOk at h
 simp only [Bool.or_eq_true, decide_eq_true_eq, isC_iff] at h
 unfold readR shown
 by_cases hc : c.toNat = 32
 ·rw [if_pos hc, if_pos (by decide)]
  exact UInt8.toNat_inj.1 (by rw [hc]; rfl)
 ·rw [if_neg hc, if_neg (by omega)]
theorem m58_l1_eq (c d : UInt8) : m58_l1 (2 + 1) 0 c d = some (readR c, readR d) := by
 have e0 : ∀ x y : UInt8, (if x.toNat = 95 then some ((32 : UInt8), y) else some (x, y)) = some (readR x, y) := fun x y => by unfold readR; split <;> rfl
 have e1 : ∀ x y : UInt8, (if y.toNat = 95 then some (x, (32 : UInt8)) else some (x, y)) = some (x, readR y) := fun x y => by unfold readR; split <;> rfl
 rw [m58_l1, if_pos (by omega), if_pos rfl, e0]
 simp only [Option.bind_some]
 rw [if_pos (by omega), m58_l1, if_pos (by omega), if_neg (by omega), if_pos rfl, e1]
 simp only [Option.bind_some]
 rw [if_pos (by omega), m58_l1, if_neg (by omega)]
def partS (p : Str) : Option SD := if p.length < 3 then none else (p[1]?).bind fun c => if c.toNat = 32 then (p[0]?).map fun d => ⟨d, unesc (p.drop 2)⟩ else none
def partsS : List Str → Option (List SD)
  | [] => some []
  | p :: l => (partS p).bind fun s => (partsS l).map fun r => s :: r
theorem m58_l2_eq (ps : List Str) (hn : ps.length ≤ 1000000000) (hb : ∀ p ∈ ps, p.length ≤ 1000000000) (a : Str) (b c : UInt8) (d : List SD) : ∀ (k i : Nat) (acc : List SD), i ≤ ps.length → ps.length < k + i → acc.length ≤ i →
  m58_l2 ps k i acc a b c d = some (match partsS (ps.drop i) with | none => .ret (zeroF, false) | some l => .go (acc ++ l, a, b, c, d)) := by
 intro k
 induction k with
 | zero => intro i acc h1 h2; omega
 | succ k ih =>
  intro i acc h1 h2 h3
  rw [m58_l2]
  by_cases hi : i < ps.length
  ·obtain ⟨p, hp⟩ := getq hi
   have hpb := hb p (List.mem_of_getElem? hp)
   rw [if_pos hi, hp, drop_at hp]
   simp only [Option.bind_some, partsS]
   unfold partS
   by_cases h3' : p.length < 3
   ·rw [if_pos h3', if_pos h3']; rfl
   ·obtain ⟨c1, hc1⟩ := getq (xs := p) (i := 1) (by omega)
    obtain ⟨c0, hc0⟩ := getq (xs := p) (i := 0) (by omega)
    rw [if_neg h3', if_neg h3', hc1]
    simp only [Option.bind_some]
    by_cases h32 : c1.toNat = 32
    ·rw [if_pos h32, if_pos h32, hc0]
     simp only [Option.bind_some, Option.map_some]
     rw [if_pos (by omega), m114_eq (by simp only [List.length_drop]; omega)]
     simp only [Option.bind_some]
     rw [if_pos (by omega), ih (i + 1) _ (by omega) (by omega) (by simp only [List.length_append, List.length_cons, List.length_nil]; omega)]
     cases partsS (ps.drop (i + 1)) with
     | none => rfl
     | some l => simp
    ·rw [if_neg h32, if_neg h32]; rfl
  ·rw [if_neg hi, List.drop_eq_nil_of_le (by omega)]
   simp [partsS]
theorem partsS_B {L : Nat} : ∀ {ps : List Str} {l : List SD}, (∀ p ∈ ps, p.length ≤ L) → partsS ps = some l → ∀ s ∈ l, s.Value.length ≤ L
 | [], l, _, h => by have hq := Option.some.inj h; subst hq; intro s hs; cases hs
 | p :: ps, l, hb, h => by
  obtain ⟨x, hx, h⟩ := obind h
  obtain ⟨r, hr, rfl⟩ := Option.map_eq_some_iff.1 h
  intro s hs
  rcases List.mem_cons.1 hs with rfl | hs
  ·unfold partS at hx
   split at hx
   ·cases hx
   ·obtain ⟨c1, _, hx⟩ := obind hx
    split at hx
    ·obtain ⟨c0, _, rfl⟩ := Option.map_eq_some_iff.1 hx
     have := unesc_len (p.drop 2).length (p.drop 2) (Nat.le_refl _)
     have hp := hb p List.mem_cons_self
     simp only [List.length_drop] at this ⊢
     omega
    ·cases hx
  ·exact partsS_B (fun q hq => hb q (List.mem_cons_of_mem _ hq)) hr s hs

/-! ### a line's parts are its subfields -/
theorem esc_head {v t : Str} (ht : ∀ d t', t = d :: t' → d.toNat ≠ 36) : ∀ d t', esc v ++ t = d :: t' → d.toNat ≠ 36 := by
 intro d t' h
 cases v with
 | nil => exact ht d t' (by simpa [esc] using h)
 | cons c v =>
  rw [esc_cons] at h
  by_cases he : c.toNat = 36 ∨ c.toNat = 92
  ·have e : escC c = [92, c] := by unfold escC; rw [if_pos he]
   rw [e] at h
   injection h with h1 h2
   rw [← h1]; decide
  ·have e : escC c = [c] := by unfold escC; rw [if_neg he]
   rw [e] at h
   injection h with h1 h2
   rw [← h1]; exact fun hh => he (.inl hh)
theorem prt_esc (v : Str) : ∀ (cur t : Str), (∀ d t', t = d :: t' → d.toNat ≠ 36) → prt cur (esc v ++ t) = prt (cur ++ esc v) t := by
 induction v with
 | nil => intro cur t _; simp [esc]
 | cons c v ih =>
  intro cur t ht
  rw [esc_cons]
  have hh := esc_head (v := v) ht
  by_cases he : c.toNat = 36 ∨ c.toNat = 92
  ·have e : escC c = [92, c] := by unfold escC; rw [if_pos he]
   rw [e]
   show prt cur (92 :: c :: (esc v ++ t)) = _
   rw [prt_step (fun ⟨h, _⟩ => by revert h; decide), prt_step (fun ⟨h, _⟩ => by omega), ih _ _ ht]
   simp
  ·have e : escC c = [c] := by unfold escC; rw [if_neg he]
   rw [e]
   show prt cur (c :: (esc v ++ t)) = _
   rw [prt_step (fun ⟨_, d, t', e', h36⟩ => hh d t' e' h36), ih _ _ ht]
   simp
theorem prt_subs : ∀ (l : List SD) (cur : Str), (∀ s ∈ l, subOk s = true) → prt cur (subsLine l) = cur :: l.map fun s => s.Code :: 32 :: esc s.Value
 | [], cur, _ => by simp [subsLine, prt]
 | s :: l, cur, h => by
  obtain ⟨hc, ht⟩ := subOk_val (h s List.mem_cons_self)
  have hform : subsLine (s :: l) = 32 :: 36 :: s.Code :: 32 :: (esc s.Value ++ subsLine l) := by rw [subsLine_cons]; simp [subLine]
  have hne : s.Code.toNat ≠ 32 := by rw [isC_iff] at hc; omega
  have hsub : ∀ d t', subsLine l = d :: t' → d.toNat ≠ 36 := by
   intro d t' e
   rcases subsLine_head l with h0 | ⟨t, h0⟩
   ·rw [h0] at e; cases e
   ·rw [h0] at e; injection e with e1 _; rw [← e1]; decide
  rw [hform, prt, if_pos (by decide), prt_step (fun ⟨h, _⟩ => hne h), prt_step (fun ⟨_, d, t', e', h36⟩ => esc_head hsub d t' e' h36), prt_esc _ _ _ hsub, prt_subs l _ (fun x hx => h x (List.mem_cons_of_mem _ hx))]
  simp
theorem partsS_subs : ∀ (l : List SD), (∀ s ∈ l, subOk s = true) → partsS (l.map fun s => s.Code :: 32 :: esc s.Value) = some l
 | [], _ => rfl
 | s :: l, h => by
  obtain ⟨hc, ht⟩ := subOk_val (h s List.mem_cons_self)
  obtain ⟨⟨t1, _⟩, _, _⟩ := textOk_ends ht
  have hesc : 1 ≤ (esc s.Value).length := by
   cases hv : s.Value with
   | nil => rw [hv] at t1; simp at t1
   | cons x r => rw [esc_cons]; unfold escC; split <;> simp
  rw [List.map_cons, partsS]
  have hp : partS (s.Code :: 32 :: esc s.Value) = some s := by
   unfold partS
   rw [if_neg (by simp only [List.length_cons]; omega)]
   show (some (32 : UInt8)).bind _ = _
   simp only [Option.bind_some]
   rw [if_pos (by decide)]
   show some (⟨s.Code, unesc (esc s.Value)⟩ : SD) = _
   rw [unesc_esc]
  rw [hp]
  simp only [Option.bind_some]
  rw [partsS_subs l (fun x hx => h x (List.mem_cons_of_mem _ hx))]
  rfl
theorem prt_ne : ∀ (n : Nat) (cur t : Str), t.length ≤ n → prt cur t ≠ [] := by
 intro n
 induction n with
 | zero => intro cur t h; have : t = [] := List.eq_nil_of_length_eq_zero (by omega); subst this; simp [prt]
 | succ n ih =>
  intro cur t h
  rcases t with _ | ⟨c, _ | ⟨d, t⟩⟩
  ·simp [prt]
  ·simp [prt]
  ·simp only [List.length_cons] at h
   unfold prt
   split
   ·simp
   ·exact ih _ _ (by simp only [List.length_cons]; omega)
theorem m58_eq {s : Str} (hl : s.length ≤ 1000000) : ∃ f ok, m58 s = some (f, ok) ∧ (ok = true → IsLine s f) ∧ ∀ f0, IsLine s f0 → f = f0 ∧ ok = true := by
 have hB := prt_len s.length [] s (Nat.le_refl _)
 simp only [List.length_nil] at hB
 -- what a valid field's line comes to
 have comp : ∀ f0, IsLine s f0 → ∃ c4 c5 : UInt8, prt [] s = headOf f0 :: f0.Subs.map (fun s => s.Code :: 32 :: esc s.Value) ∧ (headOf f0).length = 6 ∧ (headOf f0)[3]? = some 32 ∧ (headOf f0)[4]? = some c4 ∧ (headOf f0)[5]? = some c5 ∧ (headOf f0).take 3 = f0.Tag ∧ readR c4 = f0.Ind_0 ∧ readR c5 = f0.Ind_1 := by
  intro f0 hf
  obtain ⟨h1, h2⟩ := hf
  obtain ⟨p1, p2, p3, p4, p5⟩ := field_parts h1
  have hdig := tagOk_dig (tag_of h1)
  obtain ⟨x, y, z, hxyz⟩ : ∃ x y z, f0.Tag = [x, y, z] := by
   match hT : f0.Tag, p1 with
   | [x, y, z], _ => exact ⟨x, y, z, rfl⟩
  have e : headOf f0 = [x, y, z, 32, shown f0.Ind_0, shown f0.Ind_1] := by unfold headOf; rw [hxyz]; rfl
  rw [hxyz] at hdig
  have hx := isD_iff.1 (hdig x (by simp))
  have hy := isD_iff.1 (hdig y (by simp))
  have hz := isD_iff.1 (hdig z (by simp))
  have hsh : ∀ c : UInt8, indOk c = true → (shown c).toNat ≠ 32 ∧ (shown c).toNat ≠ 36 := by
   intro c hc
   unfold indOk at hc
   simp only [Bool.or_eq_true, decide_eq_true_eq, isC_iff] at hc
   unfold shown
   by_cases h32 : c.toNat = 32
   ·rw [if_pos h32]; decide
   ·rw [if_neg h32]; omega
  refine ⟨shown f0.Ind_0, shown f0.Ind_1, ?_, by rw [e]; rfl, by rw [e]; rfl, by rw [e]; rfl, by rw [e]; rfl, by rw [e, hxyz]; rfl, readR_shown p2, readR_shown p3⟩
  rw [← h2]
  unfold lineOf
  rw [e]
  show prt [] (x :: y :: z :: 32 :: shown f0.Ind_0 :: shown f0.Ind_1 :: subsLine f0.Subs) = _
  rw [prt_step (fun ⟨h, _⟩ => by omega), prt_step (fun ⟨h, _⟩ => by omega), prt_step (fun ⟨h, _⟩ => by omega), prt_step (fun ⟨_, d, t', e', h36⟩ => by injection e' with e1 _; rw [← e1] at h36; exact (hsh _ p2).2 h36),
   prt_step (fun ⟨h, _⟩ => (hsh _ p2).1 h), prt_step (fun ⟨h, _⟩ => (hsh _ p3).1 h), prt_subs _ _ p5]
  rfl
 unfold m58
 rw [m113_eq (by omega)]
 simp only [Option.bind_some]
 cases hps : prt [] s with
 | nil => exact absurd hps (prt_ne s.length [] s (Nat.le_refl _))
 | cons h0 ps =>
  rw [hps] at hB comp
  have hh0 := hB.2 h0 List.mem_cons_self
  show ∃ f ok, ((some h0).bind _) = some (f, ok) ∧ _
  simp only [Option.bind_some, List.getElem?_cons_zero]
  have no : (∀ f0, ¬ IsLine s f0) → ∃ f ok, (some (zeroF, false) : Option (FD × Bool)) = some (f, ok) ∧ (ok = true → IsLine s f) ∧ ∀ f0, IsLine s f0 → f = f0 ∧ ok = true := fun hno => ⟨zeroF, false, rfl, fun h => (by cases h), fun f0 hf => absurd hf (hno f0)⟩
  by_cases h6 : h0.length = 6
  ·obtain ⟨c3, hc3⟩ := getq (xs := h0) (i := 3) (by omega)
   obtain ⟨c4, hc4⟩ := getq (xs := h0) (i := 4) (by omega)
   obtain ⟨c5, hc5⟩ := getq (xs := h0) (i := 5) (by omega)
   rw [if_pos h6, hc3]
   simp only [Option.bind_some]
   by_cases h32 : c3.toNat = 32
   ·rw [if_pos h32, if_pos (by omega), hc4]
    simp only [Option.bind_some]
    rw [hc5]
    simp only [Option.bind_some]
    rw [m58_l1_eq]
    simp only [Option.bind_some]
    rw [m58_l2_eq (h0 :: ps) (by omega) (fun p hp => by have := hB.2 p hp; omega) ([] : Str) 0 0 [] _ 1 [] (by simp) (by omega) (by simp)]
    simp only [Option.bind_some, List.drop_succ_cons, List.drop_zero]
    cases hpr : partsS ps with
    | none =>
     refine no (fun f0 hf => ?_)
     obtain ⟨_, _, e, _⟩ := comp f0 hf
     injection e with e1 e2
     obtain ⟨_, _, _, p4, p5⟩ := field_parts hf.1
     rw [e2, partsS_subs _ p5] at hpr
     cases hpr
    | some l =>
     simp only [List.nil_append]
     have hlB := partsS_B (L := s.length) (fun p hp => by have := hB.2 p (List.mem_cons_of_mem _ hp); omega) hpr
     have hcmp : ∀ f0, IsLine s f0 → (⟨h0.take 3, readR c4, readR c5, l⟩ : FD) = f0 := by
      intro f0 hf
      obtain ⟨d4, d5, e, q1, q2, q3, q4, q5, q6, q7⟩ := comp f0 hf
      injection e with e1 e2
      obtain ⟨_, _, _, p4, p5⟩ := field_parts hf.1
      rw [e2, partsS_subs _ p5] at hpr
      have hq := Option.some.inj hpr
      rw [e1] at hc4 hc5 ⊢
      rw [q3] at hc4
      rw [q4] at hc5
      have w1 := Option.some.inj hc4
      have w2 := Option.some.inj hc5
      rw [← w1, ← w2, q5, q6, q7, ← hq]
     rw [m36_eq (f := ⟨h0.take 3, readR c4, readR c5, l⟩) (fun x hx => by have := hlB x hx; omega)]
     simp only [Option.bind_some]
     by_cases hok : fieldOk ⟨h0.take 3, readR c4, readR c5, l⟩ = true
     ·obtain ⟨p1, _, _, p4, _⟩ := field_parts hok
      rw [if_pos hok, m52_eq (by have := lineB (f := ⟨h0.take 3, readR c4, readR c5, l⟩) hl p1 ⟨by have := p4.2; simp only at this ⊢; omega, hlB⟩; omega)]
      simp only [Option.bind_some]
      by_cases hls : lineOf ⟨h0.take 3, readR c4, readR c5, l⟩ = s
      ·rw [if_pos hls]
       exact ⟨_, _, rfl, fun _ => ⟨hok, hls⟩, fun f0 hf => ⟨hcmp f0 hf, rfl⟩⟩
      ·rw [if_neg hls]
       exact no (fun f0 hf => hls (by rw [hcmp f0 hf]; exact hf.2))
     ·rw [if_neg hok]
      exact no (fun f0 hf => hok (by rw [hcmp f0 hf]; exact hf.1))
   ·rw [if_neg h32]
    refine no (fun f0 hf => ?_)
    obtain ⟨_, _, e, q1, q2, _⟩ := comp f0 hf
    injection e with e1 e2
    rw [e1, q2] at hc3
    have := Option.some.inj hc3
    exact h32 (by rw [← this]; rfl)
  ·rw [if_neg h6]
   refine no (fun f0 hf => ?_)
   obtain ⟨_, _, e, q1, _⟩ := comp f0 hf
   injection e with e1 e2
   exact h6 (by rw [e1]; exact q1)
end Go.WK.S
