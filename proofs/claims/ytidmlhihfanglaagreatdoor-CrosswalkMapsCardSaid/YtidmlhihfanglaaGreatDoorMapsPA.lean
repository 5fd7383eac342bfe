/- Plain law, part a: loops of the models, codes, tags, entries, maps. No program in sight but the models. -/
import Derived.Test.YtidmlhihfanglaaGreatDoorMapsF05
set_option linter.unusedSimpArgs false
set_option linter.unusedVariables false
namespace Go.WK.S
open Go Go.Proofs Go.WK Go.RowKit
set_option maxRecDepth 100000
set_option linter.unusedVariables false
set_option linter.unusedSimpArgs false

/-! ### loops -/
theorem chk {β : Type} {lp : Nat → Nat → Option (Fl β Unit)} {n : Nat} (c : Nat → Prop) (bad : β)
  (h1 : ∀ k i, i < n → c i → lp (k + 1) i = lp k (i + 1))
  (h2 : ∀ k i, i < n → ¬ c i → lp (k + 1) i = some (.ret bad))
  (h3 : ∀ k i, ¬ i < n → lp (k + 1) i = some (.go ())) :
  ∀ k i, i ≤ n → n < k + i → ((∀ j, i ≤ j → j < n → c j) → lp k i = some (.go ())) ∧ (¬ (∀ j, i ≤ j → j < n → c j) → lp k i = some (.ret bad)) := by
 intro k
 induction k with
 | zero => intro i hi hk; omega
 | succ k ih =>
  intro i hi hk
  by_cases hn : i < n
  ·by_cases hc : c i
   ·rw [h1 k i hn hc]
    have := ih (i + 1) (by omega) (by omega)
    have e : (∀ j, i ≤ j → j < n → c j) ↔ (∀ j, i + 1 ≤ j → j < n → c j) := by
     constructor
     ·intro h j a b; exact h j (by omega) b
     ·intro h j a b
      by_cases hj : j = i
      ·subst hj; exact hc
      ·exact h j (by omega) b
    rw [e]; exact this
   ·rw [h2 k i hn hc]
    exact ⟨fun h => absurd (h i (Nat.le_refl _) hn) hc, fun _ => rfl⟩
  ·rw [h3 k i hn]
   exact ⟨fun _ => rfl, fun h => absurd (fun j a b => by omega) h⟩

theorem foldMap {α β : Type} {xs : List α} {lp : Nat → List β → Nat → Option (List β)} (f : α → β)
  (h1 : ∀ k acc i x, xs[i]? = some x → acc.length ≤ i → lp (k + 1) acc i = lp k (acc ++ [f x]) (i + 1))
  (h3 : ∀ k acc i, ¬ i < xs.length → lp (k + 1) acc i = some acc) :
  ∀ k acc i, i ≤ xs.length → xs.length < k + i → acc.length ≤ i → lp k acc i = some (acc ++ (xs.drop i).map f) := by
 intro k
 induction k with
 | zero => intro acc i hi hk ha; omega
 | succ k ih =>
  intro acc i hi hk ha
  by_cases hn : i < xs.length
  ·rw [h1 k acc i xs[i] (List.getElem?_eq_getElem hn) ha, ih _ _ (by omega) (by omega) (by simp; omega), List.drop_eq_getElem_cons hn]
   simp only [List.map_cons, List.append_assoc, List.cons_append, List.nil_append]
  ·rw [h3 k acc i hn, List.drop_eq_nil_of_le (by omega)]; simp

theorem foldStr {α : Type} {xs : List α} {lp : Nat → Str → Nat → Option Str} (f : α → Str) (B : Nat)
  (h1 : ∀ k acc i x, xs[i]? = some x → acc.length + (f x).length ≤ B → lp (k + 1) acc i = lp k (acc ++ f x) (i + 1))
  (h3 : ∀ k acc i, ¬ i < xs.length → lp (k + 1) acc i = some acc) :
  ∀ k acc i, i ≤ xs.length → xs.length < k + i → acc.length + ((xs.drop i).flatMap f).length ≤ B → lp k acc i = some (acc ++ (xs.drop i).flatMap f) := by
 intro k
 induction k with
 | zero => intro acc i hi hk ha; omega
 | succ k ih =>
  intro acc i hi hk ha
  by_cases hn : i < xs.length
  ·rw [List.drop_eq_getElem_cons hn, List.flatMap_cons, List.length_append] at ha
   rw [h1 k acc i xs[i] (List.getElem?_eq_getElem hn) (by omega), ih _ _ (by omega) (by omega) (by simp only [List.length_append]; omega), List.drop_eq_getElem_cons hn]
   simp only [List.flatMap_cons, List.append_assoc]
  ·rw [h3 k acc i hn, List.drop_eq_nil_of_le (by omega)]; simp

theorem at?_pred {α : Type} (xs : List α) {i : Nat} (h : 0 < i) : at? xs ((i : Int) - 1) = xs[i - 1]? := by
 unfold at?
 rw [if_pos (by omega)]
 congr 1
 omega

theorem getq {α : Type} {xs : List α} {i : Nat} (h : i < xs.length) : ∃ x, xs[i]? = some x := ⟨xs[i], List.getElem?_eq_getElem h⟩
theorem getq_lt {α : Type} {xs : List α} {i : Nat} {x : α} (h : xs[i]? = some x) : i < xs.length := (List.getElem?_eq_some_iff.1 h).1

/-! ### codes and tags -/
def isD (c : UInt8) : Bool := decide (48 ≤ c.toNat ∧ c.toNat ≤ 57)
def isC (c : UInt8) : Bool := decide (48 ≤ c.toNat ∧ c.toNat ≤ 57 ∨ 97 ≤ c.toNat ∧ c.toNat ≤ 122)
theorem isD_iff {c : UInt8} : isD c = true ↔ 48 ≤ c.toNat ∧ c.toNat ≤ 57 := by simp [isD]
theorem isC_iff {c : UInt8} : isC c = true ↔ (48 ≤ c.toNat ∧ c.toNat ≤ 57 ∨ 97 ≤ c.toNat ∧ c.toNat ≤ 122) := by simp [isC]
theorem m91_eq (c : UInt8) : m91 c = some (isC c) := by
 unfold m91
 repeat' split
 all_goals (congr 1; rw [Bool.eq_iff_iff, isC_iff]; simp only [decide_eq_true_eq, true_iff, false_iff, Bool.false_eq_true]; omega)
theorem m117_eq (c : UInt8) : m117 c = some (isD c) := by
 unfold m117
 repeat' split
 all_goals (congr 1; rw [Bool.eq_iff_iff, isD_iff]; simp only [decide_eq_true_eq, true_iff, false_iff, Bool.false_eq_true]; omega)
theorem m115_eq (c : UInt8) : m115 c = some (isD c) := by
 unfold m115
 repeat' split
 all_goals (congr 1; rw [Bool.eq_iff_iff, isD_iff]; simp only [decide_eq_true_eq, true_iff, false_iff, Bool.false_eq_true]; omega)
theorem m88_eq (c : UInt8) : m88 c = some (isC c) := by
 unfold m88 m89
 rw [m115_eq]
 simp only [Option.bind_some, isD_iff]
 repeat' split
 all_goals (simp only [Option.bind_some]; congr 1; rw [Bool.eq_iff_iff, isC_iff]; simp only [decide_eq_true_eq, true_iff, false_iff, Bool.false_eq_true]; omega)
def tagOk (s : Str) : Bool := decide (s.length = 3) && s.all isD && !decide (s = [48, 48, 48])
theorem m92_eq (s : Str) : m92 s = some (tagOk s) := by
 unfold m92 tagOk
 rcases s with _ | ⟨a, _ | ⟨b, _ | ⟨c, _ | ⟨d, t⟩⟩⟩⟩
 all_goals simp [m117_eq]
 split
 ·rename_i h; obtain ⟨rfl, rfl, rfl⟩ := h; simp
 ·rename_i h
  have : ¬ a = 48 ∨ ¬ b = 48 ∨ ¬ c = 48 := by
   by_cases h1 : a = 48
   ·by_cases h2 : b = 48
    ·exact .inr (.inr (fun h3 => h ⟨h1, h2, h3⟩))
    ·exact .inr (.inl h2)
   ·exact .inl h1
  cases isD a <;> cases isD b <;> cases isD c <;> simp_all
theorem m87_eq (s : Str) : m87 s = some (tagOk s) := by
 unfold m87 tagOk
 rcases s with _ | ⟨a, _ | ⟨b, _ | ⟨c, _ | ⟨d, t⟩⟩⟩⟩
 all_goals simp [m115_eq]
 cases isD a <;> cases isD b <;> cases isD c <;> simp
theorem tagOk_len {s : Str} (h : tagOk s = true) : s.length = 3 := by
 unfold tagOk at h; simp at h; exact h.1.1
/-! ### entries: of the program (E), of the reference (R) -/
abbrev E := D_crosswalk_Entry
abbrev R := D_ref16_Entry
abbrev EP := D_crosswalk_Pair
abbrev RP := D_ref16_Pair
def oP (p : RP) : EP := ⟨p.From, p.To⟩
def tP (p : EP) : RP := ⟨p.From, p.To⟩
def oE (x : R) : E := ⟨x.From, x.To, x.Codes.map oP⟩
def tE (x : E) : R := ⟨x.From, x.To, x.Codes.map tP⟩
theorem tP_oP (p : RP) : tP (oP p) = p := rfl
theorem tE_oE (x : R) : tE (oE x) = x := by cases x; simp [oE, tE, Function.comp_def, tP_oP]
theorem map_tE_oE (m : List R) : (m.map oE).map tE = m := by simp [Function.comp_def, tE_oE]
def CodeAt (l : List EP) (j : Nat) : Prop := ∀ p, l[j]? = some p → isC p.From = true ∧ isC p.To = true ∧ (0 < j → ∀ q, l[j - 1]? = some q → q.From.toNat < p.From.toNat)
def OkC (l : List EP) : Prop := ∀ j, j < l.length → CodeAt l j
def Good (x : E) : Prop := OkC x.Codes ∧ tagOk x.From = true ∧ tagOk x.To = true ∧ 0 < x.Codes.length
noncomputable def good (x : E) : Bool := @decide (Good x) (Classical.propDecidable _)
theorem good_iff {x : E} : good x = true ↔ Good x := by unfold good; simp
theorem good_true {x : E} (h : Good x) : good x = true := good_iff.2 h
theorem good_false {x : E} (h : ¬ Good x) : good x = false := by unfold good; simp [h]

theorem m57_l1_eq (x : E) : ((OkC x.Codes) → m57_l1 x (x.Codes.length + 1) 0 = some (.go ())) ∧ (¬ OkC x.Codes → m57_l1 x (x.Codes.length + 1) 0 = some (.ret false)) := by
 have L := chk (lp := m57_l1 x) (n := x.Codes.length) (CodeAt x.Codes) false ?_ ?_ ?_ (x.Codes.length + 1) 0 (by omega) (by omega)
 ·have e : (∀ j, 0 ≤ j → j < x.Codes.length → CodeAt x.Codes j) ↔ OkC x.Codes := ⟨fun h j hj => h j (by omega) hj, fun h j _ hj => h j hj⟩
  rw [e] at L; exact L
 ·intro k i hi hc
  obtain ⟨p, hp⟩ := getq hi
  obtain ⟨h1, h2, h3⟩ := hc p hp
  rw [m57_l1, if_pos hi, hp]
  simp only [Option.bind_some, m91_eq, h1, h2, if_true]
  by_cases h0 : 0 < i
  ·obtain ⟨q, hq⟩ := getq (xs := x.Codes) (i := i - 1) (by omega)
   rw [if_pos h0, at?_pred _ h0, hq, Option.bind_some, if_neg (by have := h3 h0 q hq; omega)]
  ·rw [if_neg h0]
 ·intro k i hi hc
  obtain ⟨p, hp⟩ := getq hi
  rw [m57_l1, if_pos hi, hp]
  simp only [Option.bind_some, m91_eq]
  by_cases h1 : isC p.From = true
  ·by_cases h2 : isC p.To = true
   ·rw [if_pos h1, if_pos h2]
    by_cases h0 : 0 < i
    ·obtain ⟨q, hq⟩ := getq (xs := x.Codes) (i := i - 1) (by omega)
     rw [if_pos h0, at?_pred _ h0, hq, Option.bind_some, if_pos]
     apply Nat.le_of_not_lt
     intro hlt
     apply hc
     intro p' hp'
     obtain rfl := Option.some.inj (hp.symm.trans hp')
     exact ⟨h1, h2, fun _ q' hq' => by obtain rfl := Option.some.inj (hq.symm.trans hq'); exact hlt⟩
    ·exfalso
     apply hc
     intro p' hp'
     obtain rfl := Option.some.inj (hp.symm.trans hp')
     exact ⟨h1, h2, fun h => absurd h h0⟩
   ·rw [if_pos h1, if_neg h2]
  ·rw [if_neg h1]
 ·intro k i hi
  rw [m57_l1, if_neg hi]

theorem m57_eq (x : E) : m57 x = some (good x) := by
 unfold m57
 by_cases h : OkC x.Codes
 ·rw [(m57_l1_eq x).1 h]
  simp only [Option.bind_some, m92_eq]
  by_cases h1 : tagOk x.From = true
  ·by_cases h2 : tagOk x.To = true
   ·rw [if_pos h1, if_pos h2]
    by_cases h3 : 0 < x.Codes.length
    ·rw [good_true ⟨h, h1, h2, h3⟩, decide_eq_true (by omega)]
    ·rw [good_false (fun g => h3 g.2.2.2), decide_eq_false (by omega)]
   ·rw [if_pos h1, if_neg h2, good_false (fun g => h2 g.2.2.1)]
  ·rw [if_neg h1, good_false (fun g => h1 g.2.1)]
 ·rw [(m57_l1_eq x).2 h, good_false (fun g => h g.1)]
  rfl

/-! the reference's -/
theorem m55_l1_eq (x : R) : ((OkC (oE x).Codes) → m55_l1 x (x.Codes.length + 1) 0 = some (.go ())) ∧ (¬ OkC (oE x).Codes → m55_l1 x (x.Codes.length + 1) 0 = some (.ret false)) := by
 have hl : (oE x).Codes.length = x.Codes.length := by simp [oE]
 have L := chk (lp := m55_l1 x) (n := x.Codes.length) (CodeAt (oE x).Codes) false ?_ ?_ ?_ (x.Codes.length + 1) 0 (by omega) (by omega)
 ·have e : (∀ j, 0 ≤ j → j < x.Codes.length → CodeAt (oE x).Codes j) ↔ OkC (oE x).Codes := ⟨fun h j hj => h j (by omega) (by omega), fun h j _ hj => h j (by omega)⟩
  rw [e] at L; exact L
 ·intro k i hi hc
  obtain ⟨p, hp⟩ := getq hi
  obtain ⟨h1, h2, h3⟩ := hc (oP p) (by simp [oE, hp])
  simp only [oP] at h1 h2 h3
  rw [m55_l1, if_pos hi, hp]
  simp only [Option.bind_some, m88_eq, h1, h2, if_true]
  by_cases h0 : 0 < i
  ·obtain ⟨q, hq⟩ := getq (xs := x.Codes) (i := i - 1) (by omega)
   rw [if_pos h0, at?_pred _ h0, hq, Option.bind_some, if_neg (by have := h3 h0 (oP q) (by simp [oE, hq]); simp only [oP] at this; omega)]
  ·rw [if_neg h0]
 ·intro k i hi hc
  obtain ⟨p, hp⟩ := getq hi
  rw [m55_l1, if_pos hi, hp]
  simp only [Option.bind_some, m88_eq]
  by_cases h1 : isC p.From = true
  ·by_cases h2 : isC p.To = true
   ·rw [if_pos h1, if_pos h2]
    by_cases h0 : 0 < i
    ·obtain ⟨q, hq⟩ := getq (xs := x.Codes) (i := i - 1) (by omega)
     rw [if_pos h0, at?_pred _ h0, hq, Option.bind_some, if_pos]
     apply Nat.le_of_not_lt
     intro hlt
     apply hc
     intro p' hp'
     simp [oE, hp] at hp'
     subst hp'
     exact ⟨h1, h2, fun _ q' hq' => by simp [oE, hq] at hq'; subst hq'; exact hlt⟩
    ·exfalso
     apply hc
     intro p' hp'
     simp [oE, hp] at hp'
     subst hp'
     exact ⟨h1, h2, fun h => absurd h h0⟩
   ·rw [if_pos h1, if_neg h2]
  ·rw [if_neg h1]
 ·intro k i hi
  rw [m55_l1, if_neg hi]

/-- Codes that ascend are few. -/
def rank (c : UInt8) : Nat := if c.toNat ≤ 57 then c.toNat - 48 else c.toNat - 87
theorem rank_lt {c d : UInt8} (hc : isC c = true) (hd : isC d = true) (h : c.toNat < d.toNat) : rank c < rank d := by
 rw [isC_iff] at hc hd
 unfold rank
 split <;> split <;> omega
theorem rank_le {c : UInt8} (hc : isC c = true) : rank c ≤ 35 := by
 rw [isC_iff] at hc
 unfold rank
 split <;> omega
theorem okC_rank {l : List EP} (h : OkC l) : ∀ j p, l[j]? = some p → j ≤ rank p.From := by
 intro j
 induction j with
 | zero => intro p hp; omega
 | succ j ih =>
  intro p hp
  have hj := getq_lt hp
  obtain ⟨q, hq⟩ := getq (xs := l) (i := j) (by omega)
  have a := ih q hq
  have b := (h (j + 1) hj p hp).2.2 (by omega) q (by simpa using hq)
  have := rank_lt (h j (by omega) q hq).1 (h (j + 1) hj p hp).1 b
  omega
theorem okC_len {l : List EP} (h : OkC l) : l.length ≤ 36 := by
 by_cases hn : l.length ≤ 36
 ·exact hn
 ·obtain ⟨p, hp⟩ := getq (xs := l) (i := 36) (by omega)
  have a := okC_rank h 36 p hp
  have b := rank_le (h 36 (getq_lt hp) p hp).1
  omega

theorem m55_eq (x : R) : m55 x = some (good (oE x)) := by
 unfold m55
 have hl : (oE x).Codes.length = x.Codes.length := by simp [oE]
 simp only [m87_eq, Option.bind_some]
 by_cases h1 : tagOk x.From = true
 ·by_cases h2 : tagOk x.To = true
  ·rw [if_pos h1, if_pos h2]
   by_cases h3 : x.Codes.length < 1
   ·rw [if_pos h3, good_false (fun g => by have := g.2.2.2; omega)]
   ·rw [if_neg h3]
    by_cases h4 : 36 < x.Codes.length
    ·rw [if_pos h4, good_false (fun g => by have := okC_len g.1; omega)]
    ·rw [if_neg h4]
     by_cases h : OkC (oE x).Codes
     ·rw [(m55_l1_eq x).1 h, good_true ⟨h, h1, h2, by omega⟩]; rfl
     ·rw [(m55_l1_eq x).2 h, good_false (fun g => h g.1)]; rfl
  ·rw [if_pos h1, if_neg h2, good_false (fun g => h2 g.2.2.1)]
 ·rw [if_neg h1, good_false (fun g => h1 g.2.1)]

/-! ### maps -/
def EntAt (m : List E) (j : Nat) : Prop := ∀ x, m[j]? = some x → Good x ∧ (0 < j → ∀ y, m[j - 1]? = some y → Op.bytesLess y.From x.From = true)
def Val (m : List E) : Prop := (∀ j, j < m.length → EntAt m j) ∧ m.length ≤ 60
noncomputable def val (m : List E) : Bool := @decide (Val m) (Classical.propDecidable _)
theorem val_iff {m : List E} : val m = true ↔ Val m := by unfold val; simp
theorem val_true {m : List E} (h : Val m) : val m = true := val_iff.2 h
theorem val_false {m : List E} (h : ¬ Val m) : val m = false := by unfold val; simp [h]

theorem m27_l1_eq (m : List E) : ((∀ j, j < m.length → EntAt m j) → m27_l1 m (m.length + 1) 0 = some (.go ())) ∧ (¬ (∀ j, j < m.length → EntAt m j) → m27_l1 m (m.length + 1) 0 = some (.ret false)) := by
 have L := chk (lp := m27_l1 m) (n := m.length) (EntAt m) false ?_ ?_ ?_ (m.length + 1) 0 (by omega) (by omega)
 ·have e : (∀ j, 0 ≤ j → j < m.length → EntAt m j) ↔ (∀ j, j < m.length → EntAt m j) := ⟨fun h j hj => h j (by omega) hj, fun h j _ hj => h j hj⟩
  rw [e] at L; exact L
 ·intro k i hi hc
  obtain ⟨x, hx⟩ := getq hi
  obtain ⟨h1, h3⟩ := hc x hx
  rw [m27_l1, if_pos hi, hx]
  simp only [Option.bind_some, m57_eq, good_true h1, if_true]
  by_cases h0 : 0 < i
  ·obtain ⟨q, hq⟩ := getq (xs := m) (i := i - 1) (by omega)
   rw [if_pos h0, at?_pred _ h0, hq, Option.bind_some, if_pos (h3 h0 q hq)]
  ·rw [if_neg h0]
 ·intro k i hi hc
  obtain ⟨x, hx⟩ := getq hi
  rw [m27_l1, if_pos hi, hx]
  simp only [Option.bind_some, m57_eq]
  by_cases h1 : Good x
  ·rw [if_pos (good_true h1)]
   by_cases h0 : 0 < i
   ·obtain ⟨q, hq⟩ := getq (xs := m) (i := i - 1) (by omega)
    rw [if_pos h0, at?_pred _ h0, hq, Option.bind_some, if_neg]
    intro hlt
    apply hc
    intro x' hx'
    obtain rfl := Option.some.inj (hx.symm.trans hx')
    exact ⟨h1, fun _ q' hq' => by obtain rfl := Option.some.inj (hq.symm.trans hq'); exact hlt⟩
   ·exfalso
    apply hc
    intro x' hx'
    obtain rfl := Option.some.inj (hx.symm.trans hx')
    exact ⟨h1, fun h => absurd h h0⟩
  ·rw [if_neg (fun h => h1 (good_iff.1 h))]
 ·intro k i hi
  rw [m27_l1, if_neg hi]

theorem m27_eq (m : List E) : m27 m = some (val m) := by
 unfold m27
 by_cases h : ∀ j, j < m.length → EntAt m j
 ·rw [(m27_l1_eq m).1 h]
  simp only [Option.bind_some]
  by_cases h2 : m.length ≤ 60
  ·rw [val_true ⟨h, h2⟩]; simp; omega
  ·rw [val_false (fun v => h2 v.2)]; simp; omega
 ·rw [(m27_l1_eq m).2 h, val_false (fun v => h v.1)]
  rfl

theorem m24_l1_eq (m : List R) : ((∀ j, j < m.length → EntAt (m.map oE) j) → m24_l1 m (m.length + 1) 0 = some (.go ())) ∧ (¬ (∀ j, j < m.length → EntAt (m.map oE) j) → m24_l1 m (m.length + 1) 0 = some (.ret false)) := by
 have L := chk (lp := m24_l1 m) (n := m.length) (EntAt (m.map oE)) false ?_ ?_ ?_ (m.length + 1) 0 (by omega) (by omega)
 ·have e : (∀ j, 0 ≤ j → j < m.length → EntAt (m.map oE) j) ↔ (∀ j, j < m.length → EntAt (m.map oE) j) := ⟨fun h j hj => h j (by omega) hj, fun h j _ hj => h j hj⟩
  rw [e] at L; exact L
 ·intro k i hi hc
  obtain ⟨x, hx⟩ := getq hi
  obtain ⟨h1, h3⟩ := hc (oE x) (by simp [hx])
  rw [m24_l1, if_pos hi, hx]
  simp only [Option.bind_some, m55_eq, good_true h1, if_true]
  by_cases h0 : 0 < i
  ·obtain ⟨q, hq⟩ := getq (xs := m) (i := i - 1) (by omega)
   rw [if_pos h0, at?_pred _ h0, hq, Option.bind_some, if_pos]
   exact h3 h0 (oE q) (by simp [hq])
  ·rw [if_neg h0]
 ·intro k i hi hc
  obtain ⟨x, hx⟩ := getq hi
  rw [m24_l1, if_pos hi, hx]
  simp only [Option.bind_some, m55_eq]
  by_cases h1 : Good (oE x)
  ·rw [if_pos (good_true h1)]
   by_cases h0 : 0 < i
   ·obtain ⟨q, hq⟩ := getq (xs := m) (i := i - 1) (by omega)
    rw [if_pos h0, at?_pred _ h0, hq, Option.bind_some, if_neg]
    intro hlt
    apply hc
    intro x' hx'
    simp [hx] at hx'
    subst hx'
    exact ⟨h1, fun _ q' hq' => by simp [hq] at hq'; subst hq'; exact hlt⟩
   ·exfalso
    apply hc
    intro x' hx'
    simp [hx] at hx'
    subst hx'
    exact ⟨h1, fun h => absurd h h0⟩
  ·rw [if_neg (fun h => h1 (good_iff.1 h))]
 ·intro k i hi
  rw [m24_l1, if_neg hi]

theorem m24_eq (m : List R) : m24 m = some (val (m.map oE)) := by
 unfold m24
 have hl : (m.map oE).length = m.length := by simp
 by_cases h : ∀ j, j < m.length → EntAt (m.map oE) j
 ·rw [(m24_l1_eq m).1 h]
  simp only [Option.bind_some]
  by_cases h2 : m.length ≤ 60
  ·rw [val_true ⟨by rw [hl]; exact h, by omega⟩]; simp; omega
  ·rw [val_false (fun v => h2 (by have := v.2; omega))]; simp; omega
 ·rw [(m24_l1_eq m).2 h, val_false (fun v => h (by have := v.1; rwa [hl] at this))]
  rfl

theorem Val.pre {a b : List E} (h : Val (a ++ b)) : Val a := by
 refine ⟨fun j hj x hx => ?_, by have := h.2; simp at this; omega⟩
 have := h.1 j (by simp; omega) x (by rw [List.getElem?_append_left hj]; exact hx)
 exact ⟨this.1, fun h0 y hy => this.2 h0 y (by rw [List.getElem?_append_left (by omega)]; exact hy)⟩
theorem Val.good {m : List E} (h : Val m) : ∀ x ∈ m, Good x := by
 intro x hx
 obtain ⟨j, hj⟩ := List.getElem?_of_mem hx
 exact (h.1 j (getq_lt hj) x hj).1
/-! ### maps from one to the other -/
theorem m15_l2_eq (m : List R) (i : Nat) (x : R) (hx : m[i]? = some x) (hb : x.Codes.length ≤ 70368744177664) :
  m15_l2 m i 9223372036854775808 0 [] = some (x.Codes.map oP) := by
 have L := foldMap (xs := x.Codes) (lp := fun k acc i' => m15_l2 m i k i' acc) oP ?_ ?_ 9223372036854775808 [] 0 (by omega) (by omega) (by simp)
 ·simpa using L
 ·intro k acc i' p hp ha
  have := getq_lt hp
  simp only [m15_l2, hx, Option.bind_some]
  rw [if_pos this, hp, Option.bind_some, if_pos (by omega)]
  rfl
 ·intro k acc i' hn
  simp only [m15_l2, hx, Option.bind_some]
  rw [if_neg hn]
theorem m15_eq (m : List R) (h1 : m.length ≤ 2513169434916) (h2 : ∀ x ∈ m, x.Codes.length ≤ 70368744177664) : m15 m = some (m.map oE) := by
 have L := foldMap (xs := m) (lp := fun k acc i' => m15_l1 m k acc i') oE ?_ ?_ (m.length + 1) [] 0 (by omega) (by omega) (by simp)
 ·unfold m15
  rw [L]
  simp
 ·intro k acc i' x hx ha
  have := getq_lt hx
  simp only [m15_l1]
  rw [if_pos this, hx]
  simp only [Option.bind_some]
  rw [m15_l2_eq m i' x hx (h2 x (List.mem_of_getElem? hx)), Option.bind_some, if_pos (by omega)]
  rfl
 ·intro k acc i' hn
  simp only [m15_l1]
  rw [if_neg hn]
end Go.WK.S
