/- Plain law: the number of a record's text, of the program and of the reference. No program in sight but the models. -/
import Derived.Test.YteljaomifdnkkaaGreatDoorLinesQ6
import Derived.Lib.AtoiAllCases
set_option linter.unusedSimpArgs false
set_option linter.unusedVariables false
namespace Go.WK.S
open Go Go.Proofs Go.WK Go.RowKit
set_option maxRecDepth 100000
set_option linter.unusedVariables false
set_option linter.unusedSimpArgs false

def numV (acc : Nat) (l : Str) : Nat := l.foldl (fun a c => 10 * a + (c.toNat - 48)) acc
theorem numV_cons (acc : Nat) (c : UInt8) (l : Str) : numV acc (c :: l) = numV (10 * acc + (c.toNat - 48)) l := by simp [numV]
theorem numV_snoc (acc : Nat) (c : UInt8) (l : Str) : numV acc (l ++ [c]) = 10 * numV acc l + (c.toNat - 48) := by simp [numV]
theorem dig_toNat {d : Nat} (h : d < 10) : (UInt8.ofNat (48 + d)).toNat = 48 + d := by rw [UInt8.toNat_ofNat']; omega
theorem dec_dig : ∀ (n u : Nat), u ≤ n → ∀ c ∈ Lib.decDigits u, isD c = true := by
  intro n
  induction n with
  | zero => intro u h c hc; rw [dec_small (by omega)] at hc; simp only [List.mem_singleton] at hc; subst hc; rw [isD_iff, dig_toNat (by omega)]; omega
  | succ n ih =>
    intro u h c hc
    by_cases hs : u < 10
    · rw [dec_small hs] at hc; simp only [List.mem_singleton] at hc; subst hc; rw [isD_iff, dig_toNat (by omega)]; omega
    · rw [dec_big hs] at hc
      rcases List.mem_append.1 hc with hc | hc
      · exact ih (u / 10) (by omega) c hc
      · simp only [List.mem_singleton] at hc; subst hc; rw [isD_iff, dig_toNat (by omega)]; omega
theorem dec_val : ∀ (n u : Nat), u ≤ n → numV 0 (Lib.decDigits u) = u := by
  intro n
  induction n with
  | zero => intro u h; rw [dec_small (by omega)]; simp only [numV, List.foldl_cons, List.foldl_nil]; rw [dig_toNat (by omega)]; omega
  | succ n ih =>
    intro u h
    by_cases hs : u < 10
    · rw [dec_small hs]; simp only [numV, List.foldl_cons, List.foldl_nil]; rw [dig_toNat (by omega)]; omega
    · rw [dec_big hs, numV_snoc, ih (u / 10) (by omega), dig_toNat (by omega)]; omega
theorem dec_ne (u : Nat) : Lib.decDigits u ≠ [] := by
  by_cases hs : u < 10
  · rw [dec_small hs]; simp
  · rw [dec_big hs]; simp
theorem parse_num : ∀ (l : Str) (acc k : Nat), (∀ c ∈ l, isD c = true) → acc < 10 ^ k → k + l.length ≤ 18 → Lib.parseUint10 acc l = .ok (numV acc l) := by
  intro l
  induction l with
  | nil => intro acc k _ _ _; rfl
  | cons c l ih =>
    intro acc k hd h hk
    have hc := isD_iff.1 (hd c List.mem_cons_self)
    have hlim : 10 ^ k ≤ 10 ^ 17 := Nat.pow_le_pow_right (by omega) (by simp only [List.length_cons] at hk; omega)
    have h17 : (10 : Nat) ^ 17 = 100000000000000000 := by decide
    rw [Lib.parseUint10, if_pos hc, if_neg (by omega), if_neg (by omega), numV_cons, Nat.mul_comm acc 10]
    exact ih _ (k + 1) (fun x hx => hd x (List.mem_cons_of_mem _ hx)) (by rw [Nat.pow_succ]; omega) (by simp only [List.length_cons] at hk; omega)
theorem atoi_dec {u : Nat} (h : u ≤ 1000000000) : Lib.atoiAll (Lib.decDigits u) = .ok (u : Int) := by
  have hl := decD_len (u := u) 10 (by have : (10 : Nat) ^ 10 = 10000000000 := by decide
                                      omega) (by omega)
  have hp := parse_num (Lib.decDigits u) 0 0 (dec_dig u u (Nat.le_refl _)) (by simp) (by omega)
  rw [dec_val u u (Nat.le_refl _)] at hp
  cases hd : Lib.decDigits u with
  | nil => exact absurd hd (dec_ne u)
  | cons c r =>
    have hc := isD_iff.1 (dec_dig u u (Nat.le_refl _) c (by rw [hd]; exact List.mem_cons_self))
    rw [hd] at hp
    rw [Lib.atoiAll_plain c r (by omega) (by omega)]
    unfold Lib.parseMag
    rw [if_neg (by simp), hp]
    unfold Lib.signless
    show (if 9223372036854775808 ≤ u then Lib.NumEnd.range else Lib.NumEnd.ok (u : Int)) = _
    rw [if_neg (by omega)]
theorem m55_eq {s : Str} (hl : s.length ≤ 1000000) : ∃ n ok, m55 s = some (n, ok) ∧ (ok = true → (1 ≤ n ∧ n ≤ 1000000000) ∧ Lib.itoa n = s) ∧ ∀ n0, (1 ≤ n0 ∧ n0 ≤ 1000000000) → Lib.itoa n0 = s → n = n0 ∧ ok = true := by
  have comp : ∀ n0 : Int, (1 ≤ n0 ∧ n0 ≤ 1000000000) → Lib.itoa n0 = s → m110 s = some (n0, true) := by
    intro n0 hn e
    obtain ⟨u, rfl⟩ := Int.eq_ofNat_of_zero_le (by omega : 0 ≤ n0)
    rw [itoa_nat] at e
    unfold m110 atoiM
    rw [if_pos (by omega), ← e, atoi_dec (by omega)]
  have tot : ∃ r, m110 s = some r := by
    unfold m110 atoiM
    rw [if_pos (by omega)]
    split <;> exact ⟨_, rfl⟩
  obtain ⟨⟨n, b⟩, hr⟩ := tot
  have key : ∀ n0, (1 ≤ n0 ∧ n0 ≤ 1000000000) → Lib.itoa n0 = s → n = n0 ∧ b = true := by
    intro n0 hn e
    have := comp n0 hn e
    rw [hr] at this
    have hq := Option.some.inj this
    simp only [Prod.mk.injEq] at hq
    exact hq
  unfold m55
  rw [hr]
  simp only [Option.bind_some]
  cases b with
  | false => exact ⟨n, false, rfl, fun h => (by cases h), fun n0 hn e => by have := (key n0 hn e).2; cases this⟩
  | true =>
    rw [if_pos rfl]
    by_cases h1 : 1 ≤ n
    · rw [if_pos h1]
      by_cases h2 : n ≤ 1000000000
      · rw [if_pos h2]
        unfold m49
        exact ⟨n, _, rfl, fun h => ⟨⟨h1, h2⟩, of_decide_eq_true h⟩, fun n0 hn e => by obtain ⟨rfl, _⟩ := key n0 hn e; exact ⟨rfl, decide_eq_true e⟩⟩
      · rw [if_neg h2]
        exact ⟨n, false, rfl, fun h => (by cases h), fun n0 hn e => by obtain ⟨rfl, _⟩ := key n0 hn e; omega⟩
    · rw [if_neg h1]
      exact ⟨n, false, rfl, fun h => (by cases h), fun n0 hn e => by obtain ⟨rfl, _⟩ := key n0 hn e; omega⟩

/-! ### the reference's -/
end Go.WK.S
