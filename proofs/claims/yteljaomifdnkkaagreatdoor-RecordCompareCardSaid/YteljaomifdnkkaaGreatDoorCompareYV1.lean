/- Plain law: characters. The searches for a character in a list of letters. No program in sight but the models. -/
import Derived.Test.YteljaomifdnkkaaGreatDoorCompareYA
set_option linter.unusedSimpArgs false
set_option linter.unusedVariables false
namespace Go.WK.S
open Go Go.Proofs Go.WK Go.RowKit
set_option maxRecDepth 100000
set_option linter.unusedVariables false
set_option linter.unusedSimpArgs false

theorem w64 {n : Int} (h : -9223372036854775808 ≤ n ∧ n ≤ 9223372036854775807) : IntKind.i64.wrap n = n := wrap_in (k := .i64) (by simpa [lo, hi] using h)
theorem w32 {n : Int} (h : -2147483648 ≤ n ∧ n ≤ 2147483647) : IntKind.i32.wrap n = n := wrap_in (k := .i32) (by simpa [lo, hi] using h)
theorem fdiv64 (c : UInt8) : Int.fdiv (c.toNat : Int) (2 ^ (min 6 8)) = ((c.toNat / 64 : Nat) : Int) := by
 have e : ((2 : Int) ^ (min 6 8)) = ((64 : Nat) : Int) := by decide
 rw [e]
 exact (Int.ofNat_fdiv c.toNat 64).symm
theorem at?_of {α : Type} {xs : List α} {i : Nat} {x : α} (h : xs[i]? = some x) : at? xs (i : Int) = some x := by rw [at?_nat]; exact h
theorem at?_eq {α : Type} {xs : List α} {n : Int} {i : Nat} {x : α} (e : n = (i : Int)) (h : xs[i]? = some x) : at? xs n = some x := by rw [e]; exact at?_of h

/-! ### lists of letters of two bytes -/
def two : Str → Bool
  | [] => true
  | [_] => false
  | x :: y :: t => decide (194 ≤ x.toNat ∧ x.toNat < 224 ∧ 128 ≤ y.toNat ∧ y.toNat < 192) && two t
def code2 (x y : UInt8) : Int := ((x.toNat : Int) - 192) * 64 + ((y.toNat : Int) - 128)
def win : Str → List Int
  | [] => []
  | [_] => []
  | x :: y :: t => code2 x y :: win t
theorem two_cons {x y : UInt8} {t : Str} (h : two (x :: y :: t) = true) : (194 ≤ x.toNat ∧ x.toNat < 224 ∧ 128 ≤ y.toNat ∧ y.toNat < 192) ∧ two t = true := by
 unfold two at h
 simpa using h
theorem two_ge : ∀ {s : Str}, two s = true → ∀ c ∈ s, 128 ≤ c.toNat ∧ c.toNat < 224
 | [], _, c, hc => by simp at hc
 | [_], h, _, _ => by simp [two] at h
 | x :: y :: t, h, c, hc => by
  obtain ⟨h1, h2⟩ := two_cons h
  rcases List.mem_cons.1 hc with rfl | hc
  ·omega
  ·rcases List.mem_cons.1 hc with rfl | hc
   ·omega
   ·exact two_ge h2 c hc
theorem win_bd : ∀ {s : Str}, two s = true → ∀ c ∈ win s, 128 ≤ c ∧ c < 2048
 | [], _, c, hc => by simp [win] at hc
 | [_], h, _, _ => by simp [two] at h
 | x :: y :: t, h, c, hc => by
  obtain ⟨h1, h2⟩ := two_cons h
  simp only [win, List.mem_cons] at hc
  rcases hc with rfl | hc
  ·unfold code2; omega
  ·exact win_bd h2 c hc

/-! ### the reference's search -/
theorem w8_sub {y : UInt8} (h : 128 ≤ y.toNat) : ((w8 ((y.toNat : Int) - 128)).toNat : Int) = (y.toNat : Int) - 128 := w8_in (by have := y.toNat_lt; omega)
theorem m151_two {s : Str} {i : Nat} {x y : UInt8} {t : Str} (hl : s.length ≤ 100000) (hd : s.drop i = x :: y :: t) (h : 194 ≤ x.toNat ∧ x.toNat < 224 ∧ 128 ≤ y.toNat ∧ y.toNat < 192) :
  m151 s (i : Int) = some (code2 x y, 2) := by
 have g : ∀ j, s[i + j]? = (s.drop i)[j]? := fun j => by rw [List.getElem?_drop]
 have g0 : s[i]? = some x := by have := g 0; rw [hd] at this; simpa using this
 have g1 : s[i + 1]? = some y := by rw [g, hd]; rfl
 have hlt := getq_lt g1
 have hw : IntKind.i64.wrap ((i : Int) + 1) = ((i + 1 : Nat) : Int) := by rw [w64 (by omega)]; omega
 unfold m151
 rw [at?_of g0]
 simp only [Option.bind_some]
 rw [if_neg (by omega), if_pos (by omega), if_pos (by omega), hw, if_pos (by omega), at?_of g1]
 simp only [Option.bind_some]
 rw [fdiv64, decide_eq_true (by omega)]
 simp only [if_true]
 rw [w8_sub h.2.2.1]
 unfold code2
 rw [w64 (n := ((x.toNat : Int) - 192) * 64) (by omega), w64 (by omega)]
theorem m197_l1_eq (s : Str) (hs : s.length ≤ 100000) (c : Int) : ∀ (n : Nat) (t : Str), t.length ≤ n → ∀ (k i : Nat), i ≤ s.length → s.length < k + i → s.drop i = t → two t = true →
  m197_l1 s c k (i : Int) = some (if c ∈ win t then .ret true else .go ()) := by
 intro n
 induction n with
 | zero =>
  intro t ht k i hi hk hd h2
  have := List.eq_nil_of_length_eq_zero (Nat.le_zero.1 ht)
  subst this
  obtain ⟨k, rfl⟩ : ∃ k', k = k' + 1 := ⟨k - 1, by omega⟩
  have : s.length ≤ i := by simpa using hd
  rw [m197_l1, if_neg (by omega)]
  simp [win]
 | succ n ih =>
  intro t ht k i hi hk hd h2
  obtain ⟨k, rfl⟩ : ∃ k', k = k' + 1 := by
   refine ⟨k - 1, ?_⟩
   rcases Nat.eq_zero_or_pos k with h | h
   ·subst h; omega
   ·omega
  match t, h2 with
  | [], _ =>
   have : s.length ≤ i := by simpa using hd
   rw [m197_l1, if_neg (by omega)]
   simp [win]
  | x :: y :: t, h2 =>
   obtain ⟨h1, h3⟩ := two_cons h2
   have hlen := congrArg List.length hd
   simp only [List.length_drop, List.length_cons] at hlen ht
   rw [m197_l1, if_pos (by omega), m151_two hs hd h1]
   simp only [Option.bind_some]
   by_cases hc : code2 x y = c
   ·rw [if_pos hc, if_pos (by rw [← hc]; simp [win])]
   ·have hw : IntKind.i64.wrap ((i : Int) + 2) = ((i + 2 : Nat) : Int) := by rw [w64 (by omega)]; omega
    have hd' : s.drop (i + 2) = t := by rw [← List.drop_drop, hd]; rfl
    rw [if_neg hc, hw, ih t (by omega) k (i + 2) (by omega) (by omega) hd' h3]
    have : c ∈ win (x :: y :: t) ↔ c ∈ win t := by
     simp only [win, List.mem_cons]
     exact ⟨fun h => h.resolve_left (fun e => hc e.symm), .inr⟩
    simp only [this]
theorem m197_eq {s : Str} (hs : s.length ≤ 100000) (h : two s = true) (c : Int) : m197 s c = some (decide (c ∈ win s)) := by
 unfold m197
 have := m197_l1_eq s hs c s.length s (Nat.le_refl _) (s.length + 1) 0 (by omega) (by omega) (by simp) h
 simp only [Int.ofNat_zero] at this
 rw [this]
 by_cases hc : c ∈ win s
 ·simp [hc]
 ·simp [hc]

/-! ### the program's search -/
/-- A byte of the list stands not too often ahead of each of its places. -/
def sparse (s : Str) : Bool := (List.range s.length).all fun j => match s[j]? with
  | some b => decide (192 ≤ b.toNat) || decide ((s.take (j + 1)).count b ≤ (j + 17) / 8) || decide (s.length ≤ j + 1)
  | none => true
theorem sparse_at {s : Str} (h : sparse s = true) {j : Nat} {b : UInt8} (hb : s[j]? = some b) (hb2 : b.toNat < 192) : (s.take (j + 1)).count b ≤ (j + 17) / 8 ∨ s.length ≤ j + 1 := by
 have := List.all_eq_true.1 h j (List.mem_range.2 (getq_lt hb))
 rw [hb] at this
 simp only [Bool.or_eq_true, decide_eq_true_eq] at this
 rcases this with (h | h) | h
 ·omega
 ·exact .inl h
 ·exact .inr h
/-- The pattern ends at place i. -/
def Ends2 (s p : Str) (i : Nat) : Prop := ∀ j, 1 ≤ j → j < p.length → s[i - j]? = p[p.length - 1 - j]?

theorem m194_l2_eq (s : Str) (c : Int) (i : Nat) (hs : s.length ≤ 100000) (hp : 1 ≤ (encR c).length ∧ (encR c).length ≤ 4) (h1 : (encR c).length - 1 ≤ i) (h2 : i < s.length) :
  (Ends2 s (encR c) i → m194_l2 s c (i : Int) ((encR c).length + 1) 1 = some (.go ())) ∧ (¬ Ends2 s (encR c) i → m194_l2 s c (i : Int) ((encR c).length + 1) 1 = some (.ret (i : Int))) := by
 have L := chk (lp := m194_l2 s c (i : Int)) (n := (encR c).length) (fun j => s[i - j]? = (encR c)[(encR c).length - 1 - j]?) (i : Int) ?_ ?_ ?_ ((encR c).length + 1) 1 (by omega) (by omega)
 ·exact L
 ·intro k j hj hc
  by_cases hj' : j ≤ (encR c).length - 1
  ·obtain ⟨u, hu⟩ := getq (xs := s) (i := i - j) (by omega)
   obtain ⟨v, hv⟩ := getq (xs := encR c) (i := (encR c).length - 1 - j) (by omega)
   rw [hu, hv] at hc
   rw [m194_l2, if_pos hj, at?_eq (i := i - j) (by rw [w64 (by omega)]; omega) hu]
   simp only [Option.bind_some]
   rw [at?_eq (i := (encR c).length - 1 - j) (by rw [w64 (by omega)]; omega) hv]
   simp only [Option.bind_some]
   rw [if_pos (by rw [Option.some.inj hc]), if_pos (by omega)]
  ·omega
 ·intro k j hj hc
  obtain ⟨u, hu⟩ := getq (xs := s) (i := i - j) (by omega)
  obtain ⟨v, hv⟩ := getq (xs := encR c) (i := (encR c).length - 1 - j) (by omega)
  rw [hu, hv] at hc
  rw [m194_l2, if_pos hj, at?_eq (i := i - j) (by rw [w64 (by omega)]; omega) hu]
  simp only [Option.bind_some]
  rw [at?_eq (i := (encR c).length - 1 - j) (by rw [w64 (by omega)]; omega) hv]
  simp only [Option.bind_some]
  rw [if_neg (fun e => hc (by rw [UInt8.toNat_inj.1 e]))]
 ·intro k j hj
  rw [m194_l2, if_neg hj]
theorem m194_l3_eq (s : Str) (c : Int) (i0 o i : Nat) (he : i = i0 + o + 1) (hs : s.length ≤ 100000) (hp : 1 ≤ (encR c).length ∧ (encR c).length ≤ 4) (h1 : (encR c).length - 1 ≤ i) (h2 : i < s.length) :
  (Ends2 s (encR c) i → m194_l3 s c (i0 : Int) (o : Int) ((encR c).length + 1) 1 = some (.go ())) ∧ (¬ Ends2 s (encR c) i → m194_l3 s c (i0 : Int) (o : Int) ((encR c).length + 1) 1 = some (.ret (i : Int))) := by
 have hw : IntKind.i64.wrap ((i0 : Int) + IntKind.i64.wrap ((o : Int) + 1)) = (i : Int) := by rw [w64 (n := (o : Int) + 1) (by omega), w64 (by omega)]; omega
 have L := chk (lp := m194_l3 s c (i0 : Int) (o : Int)) (n := (encR c).length) (fun j => s[i - j]? = (encR c)[(encR c).length - 1 - j]?) (i : Int) ?_ ?_ ?_ ((encR c).length + 1) 1 (by omega) (by omega)
 ·exact L
 ·intro k j hj hc
  by_cases hj' : j ≤ (encR c).length - 1
  ·obtain ⟨u, hu⟩ := getq (xs := s) (i := i - j) (by omega)
   obtain ⟨v, hv⟩ := getq (xs := encR c) (i := (encR c).length - 1 - j) (by omega)
   rw [hu, hv] at hc
   rw [m194_l3, if_pos hj, hw, at?_eq (i := i - j) (by rw [w64 (by omega)]; omega) hu]
   simp only [Option.bind_some]
   rw [at?_eq (i := (encR c).length - 1 - j) (by rw [w64 (by omega)]; omega) hv]
   simp only [Option.bind_some]
   rw [if_pos (by rw [Option.some.inj hc]), if_pos (by omega)]
  ·omega
 ·intro k j hj hc
  obtain ⟨u, hu⟩ := getq (xs := s) (i := i - j) (by omega)
  obtain ⟨v, hv⟩ := getq (xs := encR c) (i := (encR c).length - 1 - j) (by omega)
  rw [hu, hv] at hc
  rw [m194_l3, if_pos hj, hw, at?_eq (i := i - j) (by rw [w64 (by omega)]; omega) hu]
  simp only [Option.bind_some]
  rw [at?_eq (i := (encR c).length - 1 - j) (by rw [w64 (by omega)]; omega) hv]
  simp only [Option.bind_some]
  rw [if_neg (fun e => hc (by rw [UInt8.toNat_inj.1 e]))]
 ·intro k j hj
  rw [m194_l3, if_neg hj]

/-- A place where the pattern ends. -/
def Hit (s p : Str) (b : UInt8) (j : Nat) : Prop := s[j]? = some b ∧ Ends2 s p j
def Says (s p : Str) (b : UInt8) (i : Nat) : Fl Int Unit → Prop
  | .ret v => 0 ≤ v ↔ ∃ j, i ≤ j ∧ Hit s p b j
  | .go _ => ¬ ∃ j, i ≤ j ∧ Hit s p b j

theorem ix_none {c : UInt8} : ∀ {s : Str}, c ∉ s → Lib.indexByte s c = -1
 | [], _ => rfl
 | b :: s, h => by
  simp only [List.mem_cons, not_or] at h
  unfold Lib.indexByte
  have : (b == c) = false := by simpa using fun e : b = c => h.1 e.symm
  rw [this, ix_none h.2]
  rfl
theorem ix_some {c : UInt8} : ∀ {s : Str}, c ∈ s → ∃ o : Nat, Lib.indexByte s c = (o : Int) ∧ s[o]? = some c ∧ ∀ q, q < o → s[q]? ≠ some c
 | b :: s, h => by
  by_cases e : b = c
  ·subst e; exact ⟨0, by unfold Lib.indexByte; simp, by simp, fun q hq => by omega⟩
  ·have hm : c ∈ s := by simpa [Ne.symm e] using h
   obtain ⟨o, h1, h2, h3⟩ := ix_some hm
   refine ⟨o + 1, ?_, by simpa using h2, fun q hq => ?_⟩
   ·unfold Lib.indexByte
    have : (b == c) = false := by simpa using e
    have hn : ((o : Int) == -1) = false := by simp
    rw [this, h1]
    simp only [Bool.false_eq_true, if_false, hn]
    omega
   ·cases q with
    | zero => simpa using e
    | succ q => simpa using h3 q (by omega)
theorem m203_ix (s : Str) (c : UInt8) (h : s.length ≤ 9223372036854775807) : m203 s c = some (Lib.indexByte s c) := by
 unfold m203 m162 m185
 rw [if_pos h]
 rfl
theorem count_step {s : Str} {b : UInt8} {j : Nat} (h : s[j]? = some b) : (s.take (j + 1)).count b = (s.take j).count b + 1 := by
 rw [List.take_add_one, h]
 simp [List.count_append]
theorem count_mono {s : Str} {b : UInt8} {i j : Nat} (h : i ≤ j) : (s.take i).count b ≤ (s.take j).count b :=
 List.Sublist.count_le b (List.take_sublist_take_left h)

theorem m194_l1_eq (s : Str) (c : Int) (hs : s.length ≤ 100000) (hsp : sparse s = true) (hp : 2 ≤ (encR c).length ∧ (encR c).length ≤ 4) (b : UInt8) (hb : (encR c)[(encR c).length - 1]? = some b) (hb2 : b.toNat < 192) :
  ∀ (k i fails : Nat), s.length < k + i → i ≤ s.length → (encR c).length - 1 ≤ i → fails ≤ (s.take i).count b →
  ∃ r, m194_l1 s c k (i : Int) fails = some r ∧ Says s (encR c) b i r := by
 intro k
 induction k with
 | zero => intro i fails h1 h2; omega
 | succ k ih =>
  intro i fails hk hi hlast hf
  rw [m194_l1]
  have hw1 : IntKind.i64.wrap ((i : Int) + 1) = ((i + 1 : Nat) : Int) := by rw [w64 (by omega)]; omega
  have hbl : at? (encR c) (((encR c).length : Int) - 1) = some b := at?_eq (i := (encR c).length - 1) (by omega) hb
  by_cases hn : i < s.length
  ·rw [if_pos (by omega)]
   unfold withC
   obtain ⟨u, hu⟩ := getq hn
   rw [at?_of hu]
   simp only [Option.bind_some, hbl]
   -- what follows a candidate that is none
   have step : ∀ j, i ≤ j → j < s.length → s[j]? = some b → ¬ Ends2 s (encR c) j → (∀ q, i ≤ q → q < j → s[q]? ≠ some b) →
     ∃ r, (if fails + 1 ≤ 9223372036854775807 then
       (m164 (IntKind.i64.wrap ((j : Int) + 1))).bind fun x =>
        if x < (fails : Int) + 1 then
         if IntKind.i64.wrap ((j : Int) + 1) < (s.length : Int) then none else m194_l1 s c k (IntKind.i64.wrap ((j : Int) + 1)) (fails + 1)
        else m194_l1 s c k (IntKind.i64.wrap ((j : Int) + 1)) (fails + 1)
      else none) = some r ∧ Says s (encR c) b i r := by
    intro j hij hj hjb hne hno
    have hcnt : fails + 1 ≤ (s.take (j + 1)).count b := by
     rw [count_step hjb]
     have := count_mono (s := s) (b := b) hij
     omega
    have hcl : (s.take (j + 1)).count b ≤ (s.take (j + 1)).length := List.count_le_length
    have htl : (s.take (j + 1)).length ≤ s.length := by simp; omega
    have hw2 : IntKind.i64.wrap ((j : Int) + 1) = ((j + 1 : Nat) : Int) := by rw [w64 (by omega)]; omega
    have hcut : m164 ((j + 1 : Nat) : Int) = some (((j + 17) / 8 : Nat) : Int) := by
     unfold m164
     have e1 : IntKind.i64.wrap (((j + 1 : Nat) : Int) + 16) = ((j + 17 : Nat) : Int) := by rw [w64 (by omega)]; omega
     have e2 : Int.tdiv ((j + 17 : Nat) : Int) 8 = (((j + 17) / 8 : Nat) : Int) := (Int.ofNat_tdiv (j + 17) 8).symm
     rw [e1, e2, w64 (by omega)]
    obtain ⟨r, hr1, hr2⟩ := ih (j + 1) (fails + 1) (by omega) (by omega) (by omega) hcnt
    refine ⟨r, ?_, ?_⟩
    ·rw [if_pos (by omega), hw2, hcut]
     simp only [Option.bind_some]
     by_cases h1 : (((j + 17) / 8 : Nat) : Int) < (fails : Int) + 1
     ·rw [if_pos h1]
      rcases sparse_at hsp hjb hb2 with h | h
      ·omega
      ·rw [if_neg (by omega)]; exact hr1
     ·rw [if_neg h1]; exact hr1
    ·have e : (∃ q, j + 1 ≤ q ∧ Hit s (encR c) b q) ↔ (∃ q, i ≤ q ∧ Hit s (encR c) b q) := by
      constructor
      ·rintro ⟨q, hq, hh⟩; exact ⟨q, by omega, hh⟩
      ·rintro ⟨q, hq, hh⟩
       refine ⟨q, ?_, hh⟩
       rcases Nat.lt_or_ge q j with h | h
       ·exact absurd hh.1 (hno q hq h)
       ·rcases Nat.eq_or_lt_of_le h with h | h
        ·subst h; exact absurd hh.2 hne
        ·omega
     cases r with
     | ret v => simp only [Says] at hr2 ⊢; rw [← e]; exact hr2
     | go v => simp only [Says] at hr2 ⊢; rw [← e]; exact hr2
   by_cases hub : u.toNat = b.toNat
   ·have hub' := UInt8.toNat_inj.1 hub
    subst hub'
    rw [if_pos rfl]
    by_cases he : Ends2 s (encR c) i
    ·rw [(m194_l2_eq s c i hs (by omega) hlast hn).1 he]
     refine ⟨_, rfl, ?_⟩
     simp only [Says]
     rw [w64 (by omega)]
     exact ⟨fun _ => ⟨i, Nat.le_refl _, hu, he⟩, fun _ => by omega⟩
    ·rw [(m194_l2_eq s c i hs (by omega) hlast hn).2 he]
     exact step i (Nat.le_refl _) hn hu he (fun q h1 h2 => by omega)
   ·rw [if_neg hub, hw1, if_pos (by omega)]
    have hd : s.drop ((i + 1 : Nat) : Int).toNat = s.drop (i + 1) := by rw [Int.toNat_natCast]
    rw [hd, m203_ix _ _ (by simp; omega)]
    simp only [Option.bind_some]
    have hne : s[i]? ≠ some b := fun e => hub (by rw [hu] at e; rw [Option.some.inj e])
    by_cases hm : b ∈ s.drop (i + 1)
    ·obtain ⟨o, ho1, ho2, ho3⟩ := ix_some hm
     rw [ho1, if_neg (by omega)]
     rw [List.getElem?_drop] at ho2
     have ho2' : s[i + o + 1]? = some b := by rw [show i + o + 1 = i + 1 + o by omega]; exact ho2
     have hlt := getq_lt ho2'
     have hno : ∀ q, i ≤ q → q < i + o + 1 → s[q]? ≠ some b := by
      intro q h1 h2
      rcases Nat.eq_or_lt_of_le h1 with h | h
      ·subst h; exact hne
      ·have := ho3 (q - (i + 1)) (by omega)
       rw [List.getElem?_drop, show i + 1 + (q - (i + 1)) = q by omega] at this
       exact this
     have hw3 : IntKind.i64.wrap ((i : Int) + IntKind.i64.wrap ((o : Int) + 1)) = ((i + o + 1 : Nat) : Int) := by rw [w64 (n := (o : Int) + 1) (by omega), w64 (by omega)]; omega
     by_cases he : Ends2 s (encR c) (i + o + 1)
     ·rw [(m194_l3_eq s c i o (i + o + 1) rfl hs (by omega) (by omega) hlt).1 he]
      refine ⟨_, rfl, ?_⟩
      simp only [Says]
      rw [hw3, w64 (by omega)]
      exact ⟨fun _ => ⟨i + o + 1, by omega, ho2', he⟩, fun _ => by omega⟩
     ·rw [(m194_l3_eq s c i o (i + o + 1) rfl hs (by omega) (by omega) hlt).2 he]
      exact step (i + o + 1) (by omega) hlt ho2' he hno
    ·rw [ix_none hm, if_pos (by decide)]
     refine ⟨_, rfl, ?_⟩
     simp only [Says]
     refine ⟨fun h => absurd h (by decide), ?_⟩
     rintro ⟨q, h1, h2, h3⟩
     exfalso
     rcases Nat.eq_or_lt_of_le h1 with h | h
     ·subst h; exact hne h2
     ·apply hm
      have : (s.drop (i + 1))[q - (i + 1)]? = some b := by rw [List.getElem?_drop, show i + 1 + (q - (i + 1)) = q by omega]; exact h2
      exact List.mem_of_getElem? this
  ·rw [if_neg (by omega)]
   refine ⟨_, rfl, ?_⟩
   simp only [Says]
   rintro ⟨q, h1, h2, _⟩
   have := getq_lt h2
   omega
end Go.WK.S
