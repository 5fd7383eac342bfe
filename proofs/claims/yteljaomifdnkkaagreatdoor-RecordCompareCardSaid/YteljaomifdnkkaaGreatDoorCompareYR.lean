/- Plain law: records, their form, equality, places in maps, conversion, lossless maps. No program in sight but the models. -/
import Derived.Test.YteljaomifdnkkaaGreatDoorCompareYV5
set_option linter.unusedSimpArgs false
set_option linter.unusedVariables false
namespace Go.WK.S
open Go Go.Proofs Go.WK Go.RowKit
set_option maxRecDepth 100000
set_option linter.unusedVariables false
set_option linter.unusedSimpArgs false

/-! ### loops that search, loops that check -/
theorem findLoop {α β : Type} {xs : List α} {lp : Nat → Nat → Option (Fl β Unit)} (p : α → Bool) (ρ : Nat → α → β)
  (h1 : ∀ k i x, xs[i]? = some x → p x = true → lp (k + 1) i = some (.ret (ρ i x)))
  (h2 : ∀ k i x, xs[i]? = some x → p x = false → lp (k + 1) i = lp k (i + 1))
  (h3 : ∀ k i, ¬ i < xs.length → lp (k + 1) i = some (.go ())) :
  ∀ k i, i ≤ xs.length → xs.length < k + i → (∃ j x, xs[j]? = some x ∧ (xs.drop i).find? p = some x ∧ lp k i = some (.ret (ρ j x))) ∨ ((xs.drop i).find? p = none ∧ lp k i = some (.go ())) := by
 intro k
 induction k with
 | zero => intro i hi hk; omega
 | succ k ih =>
  intro i hi hk
  by_cases hn : i < xs.length
  ·have hx : xs[i]? = some xs[i] := List.getElem?_eq_getElem hn
   have e : xs.drop i = xs[i] :: xs.drop (i + 1) := List.drop_eq_getElem_cons hn
   cases hp : p xs[i]
   ·rw [h2 k i _ hx hp, e, List.find?_cons_of_neg (by simp [hp])]
    exact ih (i + 1) (by omega) (by omega)
   ·exact .inl ⟨i, xs[i], hx, by rw [e, List.find?_cons_of_pos hp], h1 k i _ hx hp⟩
  ·exact .inr ⟨by rw [List.drop_eq_nil_of_le (by omega)]; rfl, h3 k i hn⟩
theorem chkW {β : Type} {lp : Nat → Nat → Option (Fl β Unit)} {n : Nat} (c : Nat → Prop) (bad : β)
  (h : ∀ k i, i < n → (lp (k + 1) i = lp k (i + 1) ∧ c i) ∨ lp (k + 1) i = some (.ret bad))
  (h3 : ∀ k i, ¬ i < n → lp (k + 1) i = some (.go ())) :
  ∀ k i, i ≤ n → n < k + i → (lp k i = some (.go ()) ∧ ∀ j, i ≤ j → j < n → c j) ∨ lp k i = some (.ret bad) := by
 intro k
 induction k with
 | zero => intro i hi hk; omega
 | succ k ih =>
  intro i hi hk
  by_cases hn : i < n
  ·rcases h k i hn with ⟨e, hc⟩ | e
   ·rw [e]
    rcases ih (i + 1) (by omega) (by omega) with ⟨e2, h2⟩ | e2
    ·refine .inl ⟨e2, fun j h1 h3 => ?_⟩
     by_cases hj : j = i
     ·subst hj; exact hc
     ·exact h2 j (by omega) h3
    ·exact .inr e2
   ·exact .inr e
  ·exact .inl ⟨h3 k i hn, fun j _ _ => by omega⟩
theorem all_get {α : Type} {xs : List α} {P : α → Prop} : (∀ j, 0 ≤ j → j < xs.length → ∀ x, xs[j]? = some x → P x) ↔ ∀ x ∈ xs, P x := by
 constructor
 ·intro h x hx
  obtain ⟨i, hi⟩ := List.mem_iff_getElem?.1 hx
  exact h i (by omega) (getq_lt hi) x hi
 ·intro h j _ _ x hx
  exact h x (List.mem_of_getElem? hx)

theorem any_of_find {α : Type} {xs : List α} {p : α → Bool} {x : α} (h : xs.find? p = some x) : xs.any p = true :=
 List.any_eq_true.2 ⟨x, List.mem_of_find?_eq_some h, List.find?_some h⟩
theorem any_of_none {α : Type} {xs : List α} {p : α → Bool} (h : xs.find? p = none) : xs.any p = false := by
 rw [List.any_eq_false]
 exact fun x hx => by simpa using List.find?_eq_none.1 h x hx

abbrev SD := D_api_Sub
abbrev FD := D_api_Field
theorem m75_eq {xs : List SD} {p1 : SD → Option Bool} (p : SD → Bool) (hp : ∀ x ∈ xs, p1 x = some (p x)) : m75 xs p1 = some (xs.any p) := by
 unfold m75 m97
 have L := findLoop (xs := xs) (lp := m97_l1 xs p1) p (fun i _ => (i : Int)) ?_ ?_ ?_ (xs.length + 1) 0 (by omega) (by omega)
 ·rw [List.drop_zero] at L
  rcases L with ⟨j, x, _, hf, e⟩ | ⟨hf, e⟩
  ·rw [e, any_of_find hf]; simp
  ·rw [e, any_of_none hf]; rfl
 ·intro k i x hx h
  rw [m97_l1, if_pos (getq_lt hx), hx]
  simp only [Option.bind_some]
  rw [hp x (List.mem_of_getElem? hx), h]; rfl
 ·intro k i x hx h
  rw [m97_l1, if_pos (getq_lt hx), hx]
  simp only [Option.bind_some]
  rw [hp x (List.mem_of_getElem? hx), h]; rfl
 ·intro k i hi
  rw [m97_l1, if_neg hi]
theorem m81_eq {xs : List FD} {p1 : FD → Option Bool} (p : FD → Bool) (hp : ∀ x ∈ xs, p1 x = some (p x)) : m81 xs p1 = some (xs.any p) := by
 unfold m81 m95
 have L := findLoop (xs := xs) (lp := m95_l1 xs p1) p (fun i _ => (i : Int)) ?_ ?_ ?_ (xs.length + 1) 0 (by omega) (by omega)
 ·rw [List.drop_zero] at L
  rcases L with ⟨j, x, _, hf, e⟩ | ⟨hf, e⟩
  ·rw [e, any_of_find hf]; simp
  ·rw [e, any_of_none hf]; rfl
 ·intro k i x hx h
  rw [m95_l1, if_pos (getq_lt hx), hx]
  simp only [Option.bind_some]
  rw [hp x (List.mem_of_getElem? hx), h]; rfl
 ·intro k i x hx h
  rw [m95_l1, if_pos (getq_lt hx), hx]
  simp only [Option.bind_some]
  rw [hp x (List.mem_of_getElem? hx), h]; rfl
 ·intro k i hi
  rw [m95_l1, if_neg hi]

/-! ### the form of a record -/
def indOk (c : UInt8) : Bool := decide (c.toNat = 32) || isC c
theorem m77_eq (c : UInt8) : m77 c = some (isC c) := by
 unfold m77 m94
 rw [m83_eq]
 simp only [Option.bind_some, isD_iff]
 repeat' split
 all_goals (try simp only [Option.bind_some]) <;> (congr 1; rw [Bool.eq_iff_iff, isC_iff]; simp only [decide_eq_true_eq, true_iff, false_iff, Bool.false_eq_true]; omega)
theorem m79_eq (c : UInt8) : m79 c = some (isC c) := by
 unfold m79
 rw [m84_eq]
 simp only [Option.bind_some, isD_iff]
 repeat' split
 all_goals (congr 1; rw [Bool.eq_iff_iff, isC_iff]; simp only [decide_eq_true_eq, true_iff, false_iff, Bool.false_eq_true]; omega)
theorem m74_eq (c : UInt8) : m74 c = some (indOk c) := by
 unfold m74 indOk
 rw [m77_eq]
 by_cases h : c.toNat = 32
 ·rw [if_pos h]; simp [h]
 ·rw [if_neg h]; simp [h]
def subOk (s : SD) : Bool := isC s.Code && textOk s.Value
def fieldOk (f : FD) : Bool := tagOk f.Tag && indOk f.Ind_0 && indOk f.Ind_1 && decide (1 ≤ f.Subs.length ∧ f.Subs.length ≤ 20) && f.Subs.all subOk
abbrev RD := D_api_Record
def recOk (r : RD) : Bool := decide (1 ≤ r.ID ∧ r.ID ≤ 1000000000) && decide (1 ≤ r.Fields.length ∧ r.Fields.length ≤ 60) && r.Fields.all fieldOk
/-- Values of which the models' bounds can hold. -/
def Sml (f : FD) : Prop := ∀ s ∈ f.Subs, s.Value.length ≤ 17592186044416
theorem m76_eq {s : SD} (h : s.Value.length ≤ 17592186044416) : m76 s = some (!subOk s) := by
 unfold m76 subOk
 rw [m77_eq, m78_eq h]
 simp only [Option.bind_some]
 cases isC s.Code <;> simp
theorem any_not {α : Type} (p : α → Bool) (xs : List α) : (xs.any fun x => !p x) = !xs.all p := by
 induction xs with
 | nil => rfl
 | cons x xs ih => simp [ih, Bool.not_and]
theorem m35_eq {f : FD} (h : Sml f) : m35 f = some (fieldOk f) := by
 unfold m35 fieldOk
 rw [m38_eq, m74_eq, m74_eq, m75_eq (fun s => !subOk s) (fun s hs => m76_eq (h s hs)), any_not]
 simp only [Option.bind_some]
 cases tagOk f.Tag
 ·simp
 ·cases indOk f.Ind_0
  ·simp
  ·cases indOk f.Ind_1
   ·simp
   ·simp only [if_true, Bool.true_and, Bool.and_true, Bool.not_not]
    by_cases h1 : f.Subs.length < 1
    ·rw [if_pos h1, decide_eq_false (by omega)]; rfl
    ·rw [if_neg h1]
     by_cases h2 : 20 < f.Subs.length
     ·rw [if_pos h2, decide_eq_false (by omega)]; rfl
     ·rw [if_neg h2, decide_eq_true (by omega)]; rfl
theorem m37_eq {r : RD} (h : ∀ f ∈ r.Fields, Sml f) : m37 r = some (recOk r) := by
 unfold m37 recOk
 rw [m81_eq (fun f => !fieldOk f) (fun f hf => by show (m35 f).bind _ = _; rw [m35_eq (h f hf)]; rfl), any_not]
 simp only [Option.bind_some, Bool.not_not]
 by_cases h1 : r.ID < 1
 ·rw [if_pos h1, decide_eq_false (fun hh => by omega)]; rfl
 ·rw [if_neg h1]
  by_cases h2 : 1000000000 < r.ID
  ·rw [if_pos h2, decide_eq_false (fun hh => by omega)]; rfl
  ·rw [if_neg h2, decide_eq_true (p := 1 ≤ r.ID ∧ r.ID ≤ 1000000000) ⟨by omega, by omega⟩]
   by_cases h3 : r.Fields.length < 1
   ·rw [if_pos h3, decide_eq_false (fun hh => by omega)]; rfl
   ·rw [if_neg h3]
    by_cases h4 : 60 < r.Fields.length
    ·rw [if_pos h4, decide_eq_false (fun hh => by omega)]; rfl
    ·rw [if_neg h4, decide_eq_true (p := 1 ≤ r.Fields.length ∧ r.Fields.length ≤ 60) ⟨by omega, by omega⟩]; rfl

theorem all_false {α : Type} {xs : List α} {p : α → Bool} (h : ¬ ∀ x ∈ xs, p x = true) : xs.all p = false := by
 rw [Bool.eq_false_iff]
 intro hh
 exact h (fun x hx => List.all_eq_true.1 hh x hx)
theorem m36_eq {f : FD} (h : Sml f) : m36 f = some (fieldOk f) := by
 unfold m36 fieldOk
 rw [m39_eq]
 simp only [Option.bind_some]
 by_cases ht : tagOk f.Tag = true
 ·rw [if_pos ht, ht]
  by_cases h1 : f.Subs.length < 1
  ·rw [if_pos h1, decide_eq_false (by omega)]; simp
  ·rw [if_neg h1]
   by_cases h2 : 20 < f.Subs.length
   ·rw [if_pos h2, decide_eq_false (by omega)]; simp
   ·rw [if_neg h2, decide_eq_true (by omega)]
    have A : m36_l1 f (2 + 1) 0 = if indOk f.Ind_0 && indOk f.Ind_1 then some (.go ()) else some (.ret false) := by
     simp only [m36_l1, m79_eq, indOk]
     by_cases a : f.Ind_0.toNat = 32 <;> by_cases b : f.Ind_1.toNat = 32 <;> rcases Bool.eq_false_or_eq_true (isC f.Ind_0) with hA | hA <;> rcases Bool.eq_false_or_eq_true (isC f.Ind_1) with hB | hB <;> simp [a, b, hA, hB]
    have L := chk (lp := m36_l2 f) (n := f.Subs.length) (fun j => ∀ s, f.Subs[j]? = some s → subOk s = true) false ?_ ?_ ?_ (f.Subs.length + 1) 0 (by omega) (by omega)
    ·rw [all_get] at L
     rw [A]
     by_cases hi : (indOk f.Ind_0 && indOk f.Ind_1) = true
     ·rw [if_pos hi]
      simp only [Option.bind_some]
      have hi' : (indOk f.Ind_0 && indOk f.Ind_1) = true := hi
      by_cases hs : ∀ s ∈ f.Subs, subOk s = true
      ·rw [L.1 hs, show f.Subs.all subOk = true from List.all_eq_true.2 hs]
       simp only [Option.bind_some, Bool.true_and, hi', Bool.and_true]
      ·rw [L.2 hs, all_false hs]
       simp
     ·rw [if_neg hi]
      simp only [Bool.not_eq_true] at hi
      simp [hi]
    ·intro k i hi hc
     obtain ⟨s, hs⟩ := getq hi
     have := hc s hs
     simp only [subOk, Bool.and_eq_true] at this
     rw [m36_l2, if_pos hi, hs]
     simp only [Option.bind_some, m79_eq, this.1, m80_eq (h s (List.mem_of_getElem? hs)), this.2, if_true]
    ·intro k i hi hc
     obtain ⟨s, hs⟩ := getq hi
     have : ¬ subOk s = true := fun hh => hc (fun s' hs' => by obtain rfl := Option.some.inj (hs.symm.trans hs'); exact hh)
     simp only [subOk, Bool.and_eq_true] at this
     rw [m36_l2, if_pos hi, hs]
     simp only [Option.bind_some, m79_eq, m80_eq (h s (List.mem_of_getElem? hs))]
     by_cases a : isC s.Code = true
     ·rw [if_pos a, if_neg (fun b => this ⟨a, b⟩)]
     ·rw [if_neg a]
    ·intro k i hi
     rw [m36_l2, if_neg hi]
 ·rw [if_neg ht]
  simp only [Bool.not_eq_true] at ht
  simp [ht]
theorem m27_eq {r : RD} (h : ∀ f ∈ r.Fields, Sml f) : m27 r = some (recOk r) := by
 unfold m27 recOk
 by_cases h1 : r.ID < 1
 ·rw [if_pos h1, decide_eq_false (fun hh => by omega)]; rfl
 ·rw [if_neg h1]
  by_cases h2 : 1000000000 < r.ID
  ·rw [if_pos h2, decide_eq_false (fun hh => by omega)]; rfl
  ·rw [if_neg h2, decide_eq_true (p := 1 ≤ r.ID ∧ r.ID ≤ 1000000000) ⟨by omega, by omega⟩]
   by_cases h3 : r.Fields.length < 1
   ·rw [if_pos h3, decide_eq_false (fun hh => by omega)]; rfl
   ·rw [if_neg h3]
    by_cases h4 : 60 < r.Fields.length
    ·rw [if_pos h4, decide_eq_false (fun hh => by omega)]; rfl
    ·rw [if_neg h4, decide_eq_true (p := 1 ≤ r.Fields.length ∧ r.Fields.length ≤ 60) ⟨by omega, by omega⟩]
     have L := chk (lp := m27_l1 r) (n := r.Fields.length) (fun j => ∀ s, r.Fields[j]? = some s → fieldOk s = true) false ?_ ?_ ?_ (r.Fields.length + 1) 0 (by omega) (by omega)
     ·rw [all_get] at L
      by_cases hs : ∀ s ∈ r.Fields, fieldOk s = true
      ·rw [L.1 hs, show r.Fields.all fieldOk = true from List.all_eq_true.2 hs]; rfl
      ·rw [L.2 hs, all_false hs]; rfl
     ·intro k i hi hc
      obtain ⟨s, hs⟩ := getq hi
      rw [m27_l1, if_pos hi, hs]
      simp only [Option.bind_some]
      rw [m36_eq (h s (List.mem_of_getElem? hs)), hc s hs]; rfl
     ·intro k i hi hc
      obtain ⟨s, hs⟩ := getq hi
      have : ¬ fieldOk s = true := fun hh => hc (fun s' hs' => by obtain rfl := Option.some.inj (hs.symm.trans hs'); exact hh)
      rw [m27_l1, if_pos hi, hs]
      simp only [Option.bind_some]
      rw [m36_eq (h s (List.mem_of_getElem? hs))]
      simp only [Option.bind_some]
      rw [if_neg this]
     ·intro k i hi
      rw [m27_l1, if_neg hi]

/-! ### records of the size that the laws ask for -/
def FewF (f : FD) : Prop := f.Subs.length ≤ 21 ∧ ∀ s ∈ f.Subs, s.Value.length ≤ 402
theorem FewF.sml {f : FD} (h : FewF f) : Sml f := fun s hs => by have := h.2 s hs; omega

/-! ### equality -/
theorem ext_get {α : Type} {a b : List α} (hl : a.length = b.length) : (∀ j, 0 ≤ j → j < a.length → a[j]? = b[j]?) ↔ a = b := by
 constructor
 ·intro h
  apply List.ext_getElem? 
  intro i
  by_cases hi : i < a.length
  ·exact h i (by omega) hi
  ·rw [List.getElem?_eq_none (by omega), List.getElem?_eq_none (by omega)]
 ·rintro rfl j _ _; rfl
theorem m46_eq (a b : FD) : m46 a b = some (decide (a = b)) := by
 unfold m46
 have ne : a.Tag ≠ b.Tag ∨ a.Ind_0 ≠ b.Ind_0 ∨ a.Ind_1 ≠ b.Ind_1 ∨ a.Subs ≠ b.Subs → decide (a = b) = false := by
  intro h
  apply decide_eq_false
  rintro rfl
  simp at h
 by_cases h1 : a.Tag = b.Tag
 ·rw [if_pos h1]
  by_cases h2 : a.Ind_0 = b.Ind_0 ∧ a.Ind_1 = b.Ind_1
  ·rw [if_pos (by rw [h2.1, h2.2]; simp)]
   by_cases h3 : a.Subs.length = b.Subs.length
   ·rw [if_pos h3]
    have L := chk (lp := m46_l1 a b) (n := a.Subs.length) (fun j => a.Subs[j]? = b.Subs[j]?) false ?_ ?_ ?_ (a.Subs.length + 1) 0 (by omega) (by omega)
    ·rw [ext_get h3] at L
     by_cases h4 : a.Subs = b.Subs
     ·rw [L.1 h4, decide_eq_true (by cases a; cases b; simp_all)]; rfl
     ·rw [L.2 h4, ne (.inr (.inr (.inr h4)))]; rfl
    ·intro k i hi hc
     obtain ⟨x, hx⟩ := getq hi
     rw [m46_l1, if_pos hi, ← hc, hx]
     simp
    ·intro k i hi hc
     obtain ⟨x, hx⟩ := getq hi
     obtain ⟨y, hy⟩ := getq (xs := b.Subs) (i := i) (by omega)
     rw [m46_l1, if_pos hi, hx, hy]
     simp only [Option.bind_some]
     rw [if_neg]
     intro hh
     rw [Bool.and_eq_true, decide_eq_true_eq, decide_eq_true_eq] at hh
     apply hc
     rw [hx, hy]
     obtain ⟨c, v⟩ := x
     obtain ⟨d, w⟩ := y
     simp only at hh
     have : c = d := UInt8.toNat_inj.1 (by omega)
     simp_all
    ·intro k i hi
     rw [m46_l1, if_neg hi]
   ·rw [if_neg h3, ne (.inr (.inr (.inr (fun e => h3 (by rw [e])))))]
  ·rw [if_neg, ne]
   ·by_cases h3 : a.Ind_0 = b.Ind_0
    ·exact .inr (.inr (.inl (fun e => h2 ⟨h3, e⟩)))
    ·exact .inr (.inl h3)
   ·intro hh
    rw [Bool.and_eq_true, decide_eq_true_eq, decide_eq_true_eq] at hh
    exact h2 ⟨UInt8.toNat_inj.1 (by omega), UInt8.toNat_inj.1 (by omega)⟩
 ·rw [if_neg h1, ne (.inl h1)]
theorem m21_eq (a b : List FD) : m21 a b = some (decide (a = b)) := by
 unfold m21
 by_cases h3 : a.length = b.length
 ·rw [if_pos h3]
  have L := chk (lp := m21_l1 a b) (n := a.length) (fun j => a[j]? = b[j]?) false ?_ ?_ ?_ (a.length + 1) 0 (by omega) (by omega)
  ·rw [ext_get h3] at L
   by_cases h4 : a = b
   ·rw [L.1 h4, decide_eq_true h4]; rfl
   ·rw [L.2 h4, decide_eq_false h4]; rfl
  ·intro k i hi hc
   obtain ⟨x, hx⟩ := getq hi
   rw [m21_l1, if_pos hi, ← hc, hx]
   simp only [Option.bind_some, m46_eq, decide_true, if_true]
  ·intro k i hi hc
   obtain ⟨x, hx⟩ := getq hi
   obtain ⟨y, hy⟩ := getq (xs := b) (i := i) (by omega)
   rw [m21_l1, if_pos hi, hx, hy]
   simp only [Option.bind_some, m46_eq]
   rw [if_neg]
   intro hh
   exact hc (by rw [hx, hy, of_decide_eq_true hh])
  ·intro k i hi
   rw [m21_l1, if_neg hi]
 ·rw [if_neg h3, decide_eq_false (fun e => h3 (by rw [e]))]
theorem m17_eq (a b : RD) : m17 a b = some (decide (a = b)) := by
 unfold m17
 by_cases h : a.ID = b.ID
 ·rw [if_pos h, m21_eq]
  simp only [Option.bind_some]
  congr 1
  cases a; cases b; simp_all
 ·rw [if_neg h, decide_eq_false (fun e => h (by rw [e]))]
end Go.WK.S
