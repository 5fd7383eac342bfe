/- Plain law: numbers and the text of a record, of the program and of the reference. No program in sight but the models. -/
import Derived.Test.YteljaomifdnkkaaGreatDoorLinesQ1
set_option linter.unusedSimpArgs false
set_option linter.unusedVariables false
namespace Go.WK.S
open Go Go.Proofs Go.WK Go.RowKit
set_option maxRecDepth 100000
set_option linter.unusedVariables false
set_option linter.unusedSimpArgs false

theorem dec_small {u : Nat} (h : u < 10) : Lib.decDigits u = [UInt8.ofNat (48 + u)] := by rw [Lib.decDigits, dif_pos h]
theorem dec_big {u : Nat} (h : ¬ u < 10) : Lib.decDigits u = Lib.decDigits (u / 10) ++ [UInt8.ofNat (48 + u % 10)] := by rw [Lib.decDigits, dif_neg h]
theorem decD_len {u : Nat} : ∀ n, u < 10 ^ n → 0 < n → (Lib.decDigits u).length ≤ n := by
 intro n
 induction n generalizing u with
 | zero => intro _ h; omega
 | succ n ih =>
  intro h _
  by_cases hs : u < 10
  ·rw [dec_small hs]; simp
  ·rw [dec_big hs]
   have hn : 0 < n := by
    cases n with
    | zero => simp at h; omega
    | succ n => omega
   have := ih (u := u / 10) (by rw [Nat.pow_succ] at h; omega) hn
   simp only [List.length_append, List.length_cons, List.length_nil]; omega
theorem itoa_nat (u : Nat) : Lib.itoa (u : Int) = Lib.decDigits u := by
 unfold Lib.itoa
 rw [if_neg (by omega)]
 simp

/-! ### the text of a record -/
def recW : Str := [114, 101, 99, 111, 114, 100, 32]
theorem escC_len (c : UInt8) : (escC c).length ≤ 2 := by unfold escC; split <;> simp
theorem esc_len (v : Str) : (esc v).length ≤ 2 * v.length := by
 induction v with
 | nil => simp [esc]
 | cons c v ih => rw [esc_cons]; have := escC_len c; simp only [List.length_append, List.length_cons]; omega
theorem subsLine_len {l : List SD} {B : Nat} (h : ∀ s ∈ l, s.Value.length ≤ B) : (subsLine l).length ≤ l.length * (2 * B + 4) := by
 induction l with
 | nil => simp [subsLine]
 | cons s l ih =>
  rw [subsLine_cons]
  have h1 := h s List.mem_cons_self
  have h2 := ih (fun x hx => h x (List.mem_cons_of_mem _ hx))
  have h3 := esc_len s.Value
  have h4 : (l.length + 1) * (2 * B + 4) = l.length * (2 * B + 4) + (2 * B + 4) := Nat.succ_mul _ _
  simp only [subLine, List.length_append, List.length_cons, List.length_nil]
  rw [h4]
  omega
theorem tag_of {f : FD} (h : fieldOk f = true) : tagOk f.Tag = true := by unfold fieldOk at h; simp only [Bool.and_eq_true] at h; exact h.1.1.1.1
end Go.WK.S
