/- Plain law: numbers and the text of a record, of the program and of the reference. No program in sight but the models. -/
import Derived.Test.YteljaomifdnkkaaGreatDoorTextQ1
set_option linter.unusedSimpArgs false
set_option linter.unusedVariables false
namespace Go.WK.S
open Go Go.Proofs Go.WK Go.RowKit
set_option maxRecDepth 100000
set_option linter.unusedVariables false
set_option linter.unusedSimpArgs false

theorem dec_small {u : Nat} (h : u < 10) : Lib.decDigits u = [UInt8.ofNat (48 + u)] := by rw [Lib.decDigits, dif_pos h]
theorem dec_big {u : Nat} (h : ¬ u < 10) : Lib.decDigits u = Lib.decDigits (u / 10) ++ [UInt8.ofNat (48 + u % 10)] := by rw [Lib.decDigits, dif_neg h]
theorem decD_len {u : Nat} : ∀ n, u < 10 ^ n → 0 < n → (Lib.decDigits u).length ≤ n := by
 intro n
 induction n generalizing u with
 | zero => intro _ h; omega
 | succ n ih =>
  intro h _
  by_cases hs : u < 10
  ·rw [dec_small hs]; simp
  ·rw [dec_big hs]
   have hn : 0 < n := by
    cases n with
    | zero => simp at h; omega
    | succ n => omega
   have := ih (u := u / 10) (by rw [Nat.pow_succ] at h; omega) hn
   simp only [List.length_append, List.length_cons, List.length_nil]; omega
theorem dig8 (d : Nat) (h : d < 10) : w8 (IntKind.i64.wrap (48 + (d : Int))) = UInt8.ofNat (48 + d) := by
 rw [w64 (by omega)]
 unfold w8
 congr 1
 omega
theorem m51_l1_eq : ∀ (n u : Nat) (acc : Str) (k : Nat), u < 10 ^ n → 0 < n → n ≤ 18 → n + 1 < k → acc.length + n ≤ 1000 → m51_l1 k (u : Int) acc true = some (Lib.decDigits u ++ acc) := by
 intro n
 induction n with
 | zero => intro u acc k _ h; omega
 | succ n ih =>
  intro u acc k hu _ hn hk ha
  obtain ⟨k, rfl⟩ : ∃ k', k = k' + 1 := ⟨k - 1, by omega⟩
  have hlim : u < 10 ^ 18 := Nat.lt_of_lt_of_le hu (Nat.pow_le_pow_right (by omega) hn)
  have h18 : (10 : Nat) ^ 18 = 1000000000000000000 := by decide
  rw [h18] at hlim
  have hm : Int.tmod (u : Int) 10 = ((u % 10 : Nat) : Int) := by rw [Int.tmod_eq_emod_of_nonneg (by omega)]; omega
  have hd : Int.tdiv (u : Int) 10 = ((u / 10 : Nat) : Int) := by rw [Int.tdiv_eq_ediv_of_nonneg (by omega)]; omega
  rw [m51_l1, if_pos rfl, hm, hd, w64 (n := ((u / 10 : Nat) : Int)) (by omega)]
  rw [if_neg (by omega)]
  simp only [Option.bind_some]
  rw [dig8 _ (Nat.mod_lt _ (by omega)), if_pos (by simp only [List.length_cons, List.length_nil]; omega)]
  by_cases hs : u < 10
  ·have h0 : u / 10 = 0 := by omega
   obtain ⟨k, rfl⟩ : ∃ k', k = k' + 1 := ⟨k - 1, by omega⟩
   have hd0 : (!decide (((u / 10 : Nat) : Int) = 0)) = false := by rw [h0]; rfl
   rw [hd0, m51_l1, if_neg (by simp), dec_small hs, Nat.mod_eq_of_lt hs]
  ·have hd0 : (!decide (((u / 10 : Nat) : Int) = 0)) = true := by
    rw [decide_eq_false (by omega)]; rfl
   have hn0 : 0 < n := by
    cases n with
    | zero => simp at hu; omega
    | succ n => omega
   rw [hd0, ih (u / 10) _ k (by rw [Nat.pow_succ] at hu; omega) hn0 (by omega) (by omega) (by simp only [List.length_append, List.length_cons, List.length_nil]; omega), dec_big hs]
   simp
theorem pow18 : (10 : Nat) ^ 18 = 1000000000000000000 := by decide
theorem itoa_nat (u : Nat) : Lib.itoa (u : Int) = Lib.decDigits u := by
 unfold Lib.itoa
 rw [if_neg (by omega)]
 simp
theorem m51_eq {n : Int} (h : 0 ≤ n ∧ n < 1000000000000000000) : m51 n = some (Lib.itoa n) := by
 obtain ⟨u, rfl⟩ := Int.eq_ofNat_of_zero_le h.1
 rw [itoa_nat]
 have hu : u < 10 ^ 18 := by rw [pow18]; omega
 have h1 := decD_len (u := u) 18 hu (by omega)
 have h2 := m51_l1_eq 18 u [] 9223372036854775808 hu (by omega) (by omega) (by omega) (by simp)
 unfold m51
 rw [if_neg (by omega)]
 simp only [Option.bind_some]
 rw [h2]
 simp only [Option.bind_some, List.append_nil, List.nil_append, List.length_nil]
 rw [if_pos (by omega)]
theorem itoa_len {n : Int} (h : 0 ≤ n ∧ n < 1000000000000000000) : (Lib.itoa n).length ≤ 18 := by
 obtain ⟨u, rfl⟩ := Int.eq_ofNat_of_zero_le h.1
 rw [itoa_nat]
 exact decD_len 18 (by rw [pow18]; omega) (by omega)

/-! ### the text of a record -/
def recW : Str := [114, 101, 99, 111, 114, 100, 32]
def fieldsText (l : List FD) : Str := l.flatMap fun f => lineOf f ++ [10]
def textOf (r : RD) : Str := recW ++ Lib.itoa r.ID ++ [10] ++ fieldsText r.Fields
theorem fieldsText_cons (f : FD) (l : List FD) : fieldsText (f :: l) = lineOf f ++ [10] ++ fieldsText l := by simp [fieldsText]
theorem m13_l1_eq (r : RD) : ∀ (k i : Nat) (acc : Str), i ≤ r.Fields.length → r.Fields.length < k + i → acc.length + (fieldsText (r.Fields.drop i)).length ≤ 140737488355328 → m13_l1 r k acc i = some (acc ++ fieldsText (r.Fields.drop i)) := by
 intro k
 induction k with
 | zero => intro i acc h1 h2; omega
 | succ k ih =>
  intro i acc h1 h2 h3
  rw [m13_l1]
  by_cases hi : i < r.Fields.length
  ·obtain ⟨f, hf⟩ := getq hi
   rw [if_pos hi, hf]
   rw [drop_at hf, fieldsText_cons] at h3 ⊢
   simp only [List.length_append, List.length_cons, List.length_nil] at h3
   simp only [Option.bind_some]
   have hl : m50 (⟨f.Tag, f.Ind_0, f.Ind_1, f.Subs⟩ : D_api_Field) = some (lineOf f) := m50_eq (f := f) (by omega)
   rw [hl]
   simp only [Option.bind_some]
   rw [if_pos (by simp only [List.length_cons, List.length_nil]; omega), if_pos (by simp only [List.length_append, List.length_cons, List.length_nil]; omega), ih (i + 1) _ (by omega) (by omega) (by simp only [List.length_append, List.length_cons, List.length_nil]; omega)]
   simp
  ·rw [if_neg hi, List.drop_eq_nil_of_le (by omega)]
   simp [fieldsText]
theorem m14_l1_eq (r : RD) : ∀ (k i : Nat) (acc : Str), i ≤ r.Fields.length → r.Fields.length < k + i → acc.length + (fieldsText (r.Fields.drop i)).length ≤ 140737488355328 → m14_l1 r k acc i = some (acc ++ fieldsText (r.Fields.drop i)) := by
 intro k
 induction k with
 | zero => intro i acc h1 h2; omega
 | succ k ih =>
  intro i acc h1 h2 h3
  rw [m14_l1]
  by_cases hi : i < r.Fields.length
  ·obtain ⟨f, hf⟩ := getq hi
   rw [if_pos hi, hf]
   rw [drop_at hf, fieldsText_cons] at h3 ⊢
   simp only [List.length_append, List.length_cons, List.length_nil] at h3
   simp only [Option.bind_some]
   rw [m52_eq (f := f) (by omega)]
   simp only [Option.bind_some]
   rw [if_pos (by simp only [List.length_cons, List.length_nil]; omega), if_pos (by simp only [List.length_append, List.length_cons, List.length_nil]; omega), ih (i + 1) _ (by omega) (by omega) (by simp only [List.length_append, List.length_cons, List.length_nil]; omega)]
   simp
  ·rw [if_neg hi, List.drop_eq_nil_of_le (by omega)]
   simp [fieldsText]
theorem escC_len (c : UInt8) : (escC c).length ≤ 2 := by unfold escC; split <;> simp
theorem esc_len (v : Str) : (esc v).length ≤ 2 * v.length := by
 induction v with
 | nil => simp [esc]
 | cons c v ih => rw [esc_cons]; have := escC_len c; simp only [List.length_append, List.length_cons]; omega
theorem subsLine_len {l : List SD} {B : Nat} (h : ∀ s ∈ l, s.Value.length ≤ B) : (subsLine l).length ≤ l.length * (2 * B + 4) := by
 induction l with
 | nil => simp [subsLine]
 | cons s l ih =>
  rw [subsLine_cons]
  have h1 := h s List.mem_cons_self
  have h2 := ih (fun x hx => h x (List.mem_cons_of_mem _ hx))
  have h3 := esc_len s.Value
  have h4 : (l.length + 1) * (2 * B + 4) = l.length * (2 * B + 4) + (2 * B + 4) := Nat.succ_mul _ _
  simp only [subLine, List.length_append, List.length_cons, List.length_nil]
  rw [h4]
  omega
theorem tag_of {f : FD} (h : fieldOk f = true) : tagOk f.Tag = true := by unfold fieldOk at h; simp only [Bool.and_eq_true] at h; exact h.1.1.1.1
theorem line_len {f : FD} (hf : FewF f) (ht : f.Tag.length ≤ 3) : (lineOf f).length ≤ 17000 := by
 have h1 := subsLine_len (l := f.Subs) (B := 402) hf.2
 have h2 := hf.1
 unfold lineOf headOf
 simp only [List.length_append, List.length_cons, List.length_nil]
 omega
theorem fieldsText_len {l : List FD} (h : ∀ f ∈ l, (lineOf f).length ≤ 17000) : (fieldsText l).length ≤ l.length * 17001 := by
 induction l with
 | nil => simp [fieldsText]
 | cons f l ih =>
  rw [fieldsText_cons]
  have h1 := h f List.mem_cons_self
  have h2 := ih (fun x hx => h x (List.mem_cons_of_mem _ hx))
  simp only [List.length_append, List.length_cons, List.length_nil, Nat.succ_mul]
  omega
theorem recOk_id {r : RD} (h : recOk r = true) : (1 ≤ r.ID ∧ r.ID ≤ 1000000000) ∧ (1 ≤ r.Fields.length ∧ r.Fields.length ≤ 60) ∧ ∀ f ∈ r.Fields, fieldOk f = true := by
 unfold recOk at h
 simp only [Bool.and_eq_true, decide_eq_true_eq, List.all_eq_true] at h
 exact ⟨h.1.1, h.1.2, h.2⟩
theorem text_len {r : RD} (h : recOk r = true) (hf : ∀ f ∈ r.Fields, FewF f) : (fieldsText r.Fields).length ≤ 1020060 := by
 obtain ⟨_, h2, h3⟩ := recOk_id h
 have := fieldsText_len (l := r.Fields) (fun f hm => line_len (hf f hm) (by rw [tagOk_len (tag_of (h3 f hm))]; omega))
 omega
/-- Print, of any record whose text is short. -/
theorem m13_any {r : RD} (hs : ∀ f ∈ r.Fields, Sml f) (hl : recOk r = true → (fieldsText r.Fields).length ≤ 100000000000) : m13 r = some (if recOk r then (textOf r, 0) else ([], 1)) := by
 unfold m13
 have e : m37 (⟨r.ID, r.Fields⟩ : D_api_Record) = some (recOk r) := m37_eq (r := r) hs
 rw [e]
 simp only [Option.bind_some]
 by_cases h : recOk r = true
 ·obtain ⟨h1, _, _⟩ := recOk_id h
  have h4 := itoa_len (n := r.ID) (by omega)
  have h5 := hl h
  rw [if_pos h, if_pos h]
  unfold m49
  simp only [Option.bind_some]
  rw [if_pos (by simp only [List.length_cons, List.length_nil]; omega), if_pos (by simp only [List.length_append, List.length_cons, List.length_nil]; omega), m13_l1_eq r _ 0 _ (by omega) (by omega) (by simp only [List.drop_zero, List.length_append, List.length_cons, List.length_nil]; omega)]
  simp [textOf, recW]
 ·rw [if_neg h, if_neg h]
theorem m13_eq {r : RD} (hf : ∀ f ∈ r.Fields, FewF f) : m13 r = some (if recOk r then (textOf r, 0) else ([], 1)) :=
 m13_any (fun f hm => (hf f hm).sml) (fun h => by have := text_len h hf; omega)
theorem m14_eq {r : RD} (hf : ∀ f ∈ r.Fields, FewF f) : m14 r = some (if recOk r then (textOf r, 0) else ([], 1)) := by
 unfold m14
 have e : m27 (⟨r.ID, r.Fields⟩ : D_api_Record) = some (recOk r) := m27_eq (r := r) (fun f hm => (hf f hm).sml)
 rw [e]
 simp only [Option.bind_some]
 by_cases h : recOk r = true
 ·obtain ⟨h1, _, _⟩ := recOk_id h
  have h4 := itoa_len (n := r.ID) (by omega)
  have h5 := text_len h hf
  rw [if_pos h, if_pos h, m51_eq (by omega)]
  simp only [Option.bind_some]
  rw [if_pos (by simp only [List.length_cons, List.length_nil]; omega), if_pos (by simp only [List.length_append, List.length_cons, List.length_nil]; omega), m14_l1_eq r _ 0 _ (by omega) (by omega) (by simp only [List.drop_zero, List.length_append, List.length_cons, List.length_nil]; omega)]
  simp [textOf, recW]
 ·rw [if_neg h, if_neg h]
end Go.WK.S
