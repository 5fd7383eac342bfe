/- Plain law: the number of a record's text, of the program and of the reference. No program in sight but the models. -/
import Derived.Test.YteljaomifdnkkaaGreatDoorTextQ6
import Derived.Lib.AtoiAllCases
set_option linter.unusedSimpArgs false
set_option linter.unusedVariables false
namespace Go.WK.S
open Go Go.Proofs Go.WK Go.RowKit
set_option maxRecDepth 100000
set_option linter.unusedVariables false
set_option linter.unusedSimpArgs false

def numV (acc : Nat) (l : Str) : Nat := l.foldl (fun a c => 10 * a + (c.toNat - 48)) acc
theorem numV_cons (acc : Nat) (c : UInt8) (l : Str) : numV acc (c :: l) = numV (10 * acc + (c.toNat - 48)) l := by simp [numV]
theorem numV_snoc (acc : Nat) (c : UInt8) (l : Str) : numV acc (l ++ [c]) = 10 * numV acc l + (c.toNat - 48) := by simp [numV]
theorem dig_toNat {d : Nat} (h : d < 10) : (UInt8.ofNat (48 + d)).toNat = 48 + d := by rw [UInt8.toNat_ofNat']; omega
theorem dec_dig : ∀ (n u : Nat), u ≤ n → ∀ c ∈ Lib.decDigits u, isD c = true := by
  intro n
  induction n with
  | zero => intro u h c hc; rw [dec_small (by omega)] at hc; simp only [List.mem_singleton] at hc; subst hc; rw [isD_iff, dig_toNat (by omega)]; omega
  | succ n ih =>
    intro u h c hc
    by_cases hs : u < 10
    · rw [dec_small hs] at hc; simp only [List.mem_singleton] at hc; subst hc; rw [isD_iff, dig_toNat (by omega)]; omega
    · rw [dec_big hs] at hc
      rcases List.mem_append.1 hc with hc | hc
      · exact ih (u / 10) (by omega) c hc
      · simp only [List.mem_singleton] at hc; subst hc; rw [isD_iff, dig_toNat (by omega)]; omega
theorem dec_val : ∀ (n u : Nat), u ≤ n → numV 0 (Lib.decDigits u) = u := by
  intro n
  induction n with
  | zero => intro u h; rw [dec_small (by omega)]; simp only [numV, List.foldl_cons, List.foldl_nil]; rw [dig_toNat (by omega)]; omega
  | succ n ih =>
    intro u h
    by_cases hs : u < 10
    · rw [dec_small hs]; simp only [numV, List.foldl_cons, List.foldl_nil]; rw [dig_toNat (by omega)]; omega
    · rw [dec_big hs, numV_snoc, ih (u / 10) (by omega), dig_toNat (by omega)]; omega
theorem dec_ne (u : Nat) : Lib.decDigits u ≠ [] := by
  by_cases hs : u < 10
  · rw [dec_small hs]; simp
  · rw [dec_big hs]; simp
theorem dec_first : ∀ (n u : Nat), u ≤ n → 1 ≤ u → ∀ c t, Lib.decDigits u = c :: t → c.toNat ≠ 48 := by
  intro n
  induction n with
  | zero => intro u h h1; omega
  | succ n ih =>
    intro u h h1 c t e
    by_cases hs : u < 10
    · rw [dec_small hs] at e
      injection e with e1 e2
      rw [← e1, dig_toNat (by omega)]; omega
    · rw [dec_big hs] at e
      cases hd : Lib.decDigits (u / 10) with
      | nil => exact absurd hd (dec_ne _)
      | cons x r =>
        rw [hd] at e
        injection e with e1 e2
        rw [← e1]
        exact ih (u / 10) (by omega) (by omega) x r hd
theorem numV_bd : ∀ (l : Str) (acc k : Nat), (∀ c ∈ l, isD c = true) → acc < 10 ^ k → numV acc l < 10 ^ (k + l.length) := by
  intro l
  induction l with
  | nil => intro acc k _ h; simpa [numV] using h
  | cons c l ih =>
    intro acc k hd h
    rw [numV_cons]
    have hc := isD_iff.1 (hd c List.mem_cons_self)
    have := ih (10 * acc + (c.toNat - 48)) (k + 1) (fun x hx => hd x (List.mem_cons_of_mem _ hx)) (by rw [Nat.pow_succ]; omega)
    rw [List.length_cons]
    have e : k + (l.length + 1) = k + 1 + l.length := by omega
    rw [e]; exact this
theorem parse_num : ∀ (l : Str) (acc k : Nat), (∀ c ∈ l, isD c = true) → acc < 10 ^ k → k + l.length ≤ 18 → Lib.parseUint10 acc l = .ok (numV acc l) := by
  intro l
  induction l with
  | nil => intro acc k _ _ _; rfl
  | cons c l ih =>
    intro acc k hd h hk
    have hc := isD_iff.1 (hd c List.mem_cons_self)
    have hlim : 10 ^ k ≤ 10 ^ 17 := Nat.pow_le_pow_right (by omega) (by simp only [List.length_cons] at hk; omega)
    have h17 : (10 : Nat) ^ 17 = 100000000000000000 := by decide
    rw [Lib.parseUint10, if_pos hc, if_neg (by omega), if_neg (by omega), numV_cons, Nat.mul_comm acc 10]
    exact ih _ (k + 1) (fun x hx => hd x (List.mem_cons_of_mem _ hx)) (by rw [Nat.pow_succ]; omega) (by simp only [List.length_cons] at hk; omega)
theorem atoi_dec {u : Nat} (h : u ≤ 1000000000) : Lib.atoiAll (Lib.decDigits u) = .ok (u : Int) := by
  have hl := decD_len (u := u) 10 (by have : (10 : Nat) ^ 10 = 10000000000 := by decide
                                      omega) (by omega)
  have hp := parse_num (Lib.decDigits u) 0 0 (dec_dig u u (Nat.le_refl _)) (by simp) (by omega)
  rw [dec_val u u (Nat.le_refl _)] at hp
  cases hd : Lib.decDigits u with
  | nil => exact absurd hd (dec_ne u)
  | cons c r =>
    have hc := isD_iff.1 (dec_dig u u (Nat.le_refl _) c (by rw [hd]; exact List.mem_cons_self))
    rw [hd] at hp
    rw [Lib.atoiAll_plain c r (by omega) (by omega)]
    unfold Lib.parseMag
    rw [if_neg (by simp), hp]
    unfold Lib.signless
    show (if 9223372036854775808 ≤ u then Lib.NumEnd.range else Lib.NumEnd.ok (u : Int)) = _
    rw [if_neg (by omega)]
theorem m55_eq {s : Str} (hl : s.length ≤ 1000000) : ∃ n ok, m55 s = some (n, ok) ∧ (ok = true → (1 ≤ n ∧ n ≤ 1000000000) ∧ Lib.itoa n = s) ∧ ∀ n0, (1 ≤ n0 ∧ n0 ≤ 1000000000) → Lib.itoa n0 = s → n = n0 ∧ ok = true := by
  have comp : ∀ n0 : Int, (1 ≤ n0 ∧ n0 ≤ 1000000000) → Lib.itoa n0 = s → m110 s = some (n0, true) := by
    intro n0 hn e
    obtain ⟨u, rfl⟩ := Int.eq_ofNat_of_zero_le (by omega : 0 ≤ n0)
    rw [itoa_nat] at e
    unfold m110 atoiM
    rw [if_pos (by omega), ← e, atoi_dec (by omega)]
  have tot : ∃ r, m110 s = some r := by
    unfold m110 atoiM
    rw [if_pos (by omega)]
    split <;> exact ⟨_, rfl⟩
  obtain ⟨⟨n, b⟩, hr⟩ := tot
  have key : ∀ n0, (1 ≤ n0 ∧ n0 ≤ 1000000000) → Lib.itoa n0 = s → n = n0 ∧ b = true := by
    intro n0 hn e
    have := comp n0 hn e
    rw [hr] at this
    have hq := Option.some.inj this
    simp only [Prod.mk.injEq] at hq
    exact hq
  unfold m55
  rw [hr]
  simp only [Option.bind_some]
  cases b with
  | false => exact ⟨n, false, rfl, fun h => (by cases h), fun n0 hn e => by have := (key n0 hn e).2; cases this⟩
  | true =>
    rw [if_pos rfl]
    by_cases h1 : 1 ≤ n
    · rw [if_pos h1]
      by_cases h2 : n ≤ 1000000000
      · rw [if_pos h2]
        unfold m49
        exact ⟨n, _, rfl, fun h => ⟨⟨h1, h2⟩, of_decide_eq_true h⟩, fun n0 hn e => by obtain ⟨rfl, _⟩ := key n0 hn e; exact ⟨rfl, decide_eq_true e⟩⟩
      · rw [if_neg h2]
        exact ⟨n, false, rfl, fun h => (by cases h), fun n0 hn e => by obtain ⟨rfl, _⟩ := key n0 hn e; omega⟩
    · rw [if_neg h1]
      exact ⟨n, false, rfl, fun h => (by cases h), fun n0 hn e => by obtain ⟨rfl, _⟩ := key n0 hn e; omega⟩

/-! ### the reference's -/
theorem dec_of : ∀ (n : Nat) (l : Str), l.length ≤ n → l ≠ [] → (∀ c ∈ l, isD c = true) → (∀ c t, l = c :: t → t ≠ [] → c.toNat ≠ 48) → Lib.decDigits (numV 0 l) = l := by
  intro n
  induction n with
  | zero => intro l h hne; exact absurd (List.eq_nil_of_length_eq_zero (by omega)) hne
  | succ n ih =>
    intro l h hne hd hf
    rcases List.eq_nil_or_concat l with rfl | ⟨r, c, rfl⟩
    · exact absurd rfl hne
    · rw [List.concat_eq_append] at *
      have hc := isD_iff.1 (hd c (by simp))
      have ec : UInt8.ofNat (48 + (c.toNat - 48)) = c := UInt8.toNat_inj.1 (by rw [dig_toNat (by omega)]; omega)
      cases hr : r with
      | nil =>
        simp only [List.nil_append, numV, List.foldl_cons, List.foldl_nil]
        rw [dec_small (by omega)]
        simp only [Nat.mul_zero, Nat.zero_add]
        rw [ec]
      | cons x t =>
        rw [← hr]
        have hx : x.toNat ≠ 48 := hf x (t ++ [c]) (by rw [hr]; rfl) (by simp)
        have hxd := isD_iff.1 (hd x (by rw [hr]; simp))
        have hir := ih r (by simp only [List.length_append, List.length_cons, List.length_nil] at h; omega) (by rw [hr]; simp) (fun y hy => hd y (by simp [hy])) (fun y t' e _ => by
          rw [hr] at e; injection e with e1 _; rw [← e1]; exact hx)
        have hpos : 1 ≤ numV 0 r := by
          rw [hr, numV_cons]
          have mono : ∀ (l : Str) (a : Nat), 1 ≤ a → 1 ≤ numV a l := by
            intro l
            induction l with
            | nil => intro a h; exact h
            | cons y l ih => intro a h; rw [numV_cons]; exact ih _ (by omega)
          exact mono t _ (by omega)
        rw [numV_snoc, dec_big (by omega)]
        have e1 : (10 * numV 0 r + (c.toNat - 48)) / 10 = numV 0 r := by omega
        have e2 : (10 * numV 0 r + (c.toNat - 48)) % 10 = c.toNat - 48 := by omega
        rw [e1, e2, hir, ec]
theorem m57_l1_eq (s : Str) : ∀ (k i : Nat), i ≤ s.length → s.length < k + i → i ≤ 18 → (∀ c ∈ s.take i, isD c = true) →
    (m57_l1 s k ((numV 0 (s.take i) : Nat) : Int) i = some (.ret (0, false)) ∧ ¬ ((∀ c ∈ s, isD c = true) ∧ s.length ≤ 18)) ∨ (m57_l1 s k ((numV 0 (s.take i) : Nat) : Int) i = some (.go ((numV 0 s : Nat) : Int)) ∧ (∀ c ∈ s, isD c = true) ∧ s.length ≤ 18) := by
  intro k
  induction k with
  | zero => intro i h1 h2; omega
  | succ k ih =>
    intro i h1 h2 h3 h4
    rw [m57_l1]
    by_cases hi : i < s.length
    · obtain ⟨c, hc⟩ := getq hi
      rw [if_pos hi, hc]
      simp only [Option.bind_some]
      rw [m84_eq]
      simp only [Option.bind_some]
      by_cases hd : isD c = true
      · rw [if_pos hd]
        by_cases h17 : 17 < i
        · rw [if_pos h17]; exact .inl ⟨rfl, fun h => by omega⟩
        · rw [if_neg h17]
          have hcd := isD_iff.1 hd
          have hbd := numV_bd (s.take i) 0 0 h4 (by simp)
          have hlim : (10 : Nat) ^ (0 + (s.take i).length) ≤ 10 ^ 17 := Nat.pow_le_pow_right (by omega) (by simp only [List.length_take]; omega)
          have e17 : (10 : Nat) ^ 17 = 100000000000000000 := by decide
          have ew : ((w8 ((c.toNat : Int) - 48)).toNat : Int) = (c.toNat : Int) - 48 := w8_in (by omega)
          rw [ew, w64 (n := 10 * ((numV 0 (s.take i) : Nat) : Int)) (by omega), w64 (by omega)]
          have e : 10 * ((numV 0 (s.take i) : Nat) : Int) + ((c.toNat : Int) - 48) = ((numV 0 (s.take (i + 1)) : Nat) : Int) := by
            rw [List.take_add_one, hc]
            simp only [Option.toList_some]
            rw [numV_snoc]
            omega
          rw [e]
          refine ih (i + 1) (by omega) (by omega) (by omega) (fun x hx => ?_)
          rw [List.take_add_one, hc] at hx
          rcases List.mem_append.1 hx with hx | hx
          · exact h4 x hx
          · simp only [Option.toList_some, List.mem_singleton] at hx; rw [hx]; exact hd
      · rw [if_neg hd]
        exact .inl ⟨rfl, fun h => hd (h.1 c (List.mem_of_getElem? hc))⟩
    · rw [if_neg hi]
      have e : s.take i = s := List.take_of_length_le (by omega)
      rw [e] at h4 ⊢
      exact .inr ⟨rfl, h4, by omega⟩
theorem m57_eq (s : Str) : ∃ n ok, m57 s 1000000000 = some (n, ok) ∧ (ok = true → n ≠ 0 → (1 ≤ n ∧ n ≤ 1000000000) ∧ Lib.itoa n = s) ∧ ∀ n0, (1 ≤ n0 ∧ n0 ≤ 1000000000) → Lib.itoa n0 = s → n = n0 ∧ ok = true := by
  have comp : ∀ n0 : Int, (1 ≤ n0 ∧ n0 ≤ 1000000000) → Lib.itoa n0 = s → ((∀ c ∈ s, isD c = true) ∧ s.length ≤ 18) ∧ ((numV 0 s : Nat) : Int) = n0 ∧ s ≠ [] ∧ ∀ c t, s = c :: t → c.toNat ≠ 48 := by
    intro n0 hn e
    obtain ⟨u, rfl⟩ := Int.eq_ofNat_of_zero_le (by omega : 0 ≤ n0)
    rw [itoa_nat] at e
    subst e
    have hl := decD_len (u := u) 10 (by have : (10 : Nat) ^ 10 = 10000000000 := by decide
                                        omega) (by omega)
    exact ⟨⟨dec_dig u u (Nat.le_refl _), by omega⟩, by rw [dec_val u u (Nat.le_refl _)], dec_ne u, dec_first u u (Nat.le_refl _) (by omega)⟩
  have L := m57_l1_eq s (s.length + 1) 0 (by omega) (by omega) (by omega) (by simp)
  simp only [List.take_zero] at L
  have e0 : ((numV 0 ([] : Str) : Nat) : Int) = 0 := rfl
  rw [e0] at L
  unfold m57
  rcases L with ⟨h, hno⟩ | ⟨h, hd, h18⟩
  · rw [h]
    exact ⟨0, false, rfl, fun h => (by cases h), fun n0 hn e => absurd (comp n0 hn e).1 hno⟩
  · rw [h]
    simp only [Option.bind_some]
    by_cases h0 : 0 < s.length
    · rw [if_pos h0]
      by_cases hm : ((numV 0 s : Nat) : Int) ≤ 1000000000
      · rw [if_pos hm]
        obtain ⟨c, t, hs⟩ : ∃ c t, s = c :: t := by
          cases hs : s with
          | nil => rw [hs] at h0; simp at h0
          | cons c t => exact ⟨c, t, rfl⟩
        have hc0 : s[0]? = some c := by rw [hs]; rfl
        rw [hc0]
        simp only [Option.bind_some]
        by_cases h48 : c.toNat = 48
        · rw [if_pos h48]
          refine ⟨_, _, rfl, fun hk hn => ?_, fun n0 hn e => absurd h48 ((comp n0 hn e).2.2.2 c t hs)⟩
          have := of_decide_eq_true hk
          exfalso
          apply hn
          rw [this]
          rfl
        · rw [if_neg h48]
          refine ⟨_, _, rfl, fun _ hn => ⟨by omega, ?_⟩, fun n0 hn e => ⟨(comp n0 hn e).2.1, rfl⟩⟩
          rw [itoa_nat]
          exact dec_of s.length s (Nat.le_refl _) (by rw [hs]; simp) hd (fun c' t' e _ => by rw [hs] at e; injection e with e1 _; rw [← e1]; exact h48)
      · rw [if_neg hm]
        exact ⟨_, _, rfl, fun h => (by cases h), fun n0 hn e => by have := (comp n0 hn e).2.1; omega⟩
    · rw [if_neg h0]
      refine ⟨_, _, rfl, fun h => (by cases h), fun n0 hn e => ?_⟩
      have := (comp n0 hn e).2.2.1
      exact absurd (List.eq_nil_of_length_eq_zero (by omega)) this
end Go.WK.S
