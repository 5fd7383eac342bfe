/- Plain law: the order of tags; stable sorting, the program's and the reference's. No program in sight but the models. -/
import Derived.Test.YtidmlhihfanglaaGreatDoorInversePV5
set_option linter.unusedSimpArgs false
set_option linter.unusedVariables false
namespace Go.WK.S
open Go Go.Proofs Go.WK Go.RowKit
set_option maxRecDepth 100000
set_option linter.unusedVariables false
set_option linter.unusedSimpArgs false

/-! ### the order of strings -/
abbrev lt (a b : Str) : Prop := Op.bytesLess a b = true
theorem lt_irr : ∀ a : Str, ¬ lt a a
 | [] => by simp [lt, Op.bytesLess]
 | a :: x => by
  have := lt_irr x
  simp only [lt, Op.bytesLess] at this ⊢
  simp [this]
theorem lt_asymm {a b : Str} (h : lt a b) : ¬ lt b a := by
 have := less_total a b
 simp only [lt] at h ⊢
 rw [h] at this
 simp at this
 simp [this]
theorem lt_tri (a b : Str) : lt a b ∨ a = b ∨ lt b a := by
 have := less_total a b
 simp only [lt]
 cases h1 : Op.bytesLess a b
 ·cases h2 : Op.bytesLess b a
  ·rw [h1, h2] at this
   simp at this
   exact .inr (.inl this)
  ·exact .inr (.inr rfl)
 ·exact .inl rfl
theorem lt_trans : ∀ {a b c : Str}, lt a b → lt b c → lt a c
 | _, [], _, h, _ => by simp [lt, Op.bytesLess] at h
 | _, _ :: _, [], _, h => by simp [lt, Op.bytesLess] at h
 | [], _ :: _, _ :: _, _, _ => by simp [lt, Op.bytesLess]
 | a :: x, b :: y, c :: z, h1, h2 => by
  simp only [lt, Op.bytesLess, Bool.or_eq_true, Bool.and_eq_true, decide_eq_true_eq, beq_iff_eq] at h1 h2 ⊢
  rcases h1 with h1 | ⟨rfl, h1⟩
  ·rcases h2 with h2 | ⟨rfl, h2⟩
   ·exact .inl (UInt8.lt_trans h1 h2)
   ·exact .inl h1
  ·rcases h2 with h2 | ⟨rfl, h2⟩
   ·exact .inl h2
   ·exact .inr ⟨rfl, lt_trans (a := x) (b := y) (c := z) h1 h2⟩
abbrev le (a b : Str) : Prop := ¬ lt b a
theorem le_trans' {a b c : Str} (h1 : le a b) (h2 : le b c) : le a c := by
 intro h
 rcases lt_tri b c with k | k | k
 ·rcases lt_tri a b with q | q | q
  ·exact lt_asymm (lt_trans q k) h
  ·subst q; exact lt_asymm k h
  ·exact h1 q
 ·subst k; exact h1 h
 ·exact h2 k
theorem le_of_lt {a b : Str} (h : lt a b) : le a b := lt_asymm h
theorem le_antisymm' {a b : Str} (h1 : le a b) (h2 : le b a) : a = b := by
 rcases lt_tri a b with k | k | k
 ·exact absurd k h2
 ·exact k
 ·exact absurd k h1

/-! ### sorted lists with the same groups are the same -/
abbrev FD := D_api_Field
def Srt (l : List FD) : Prop := l.Pairwise fun a b => le a.Tag b.Tag
def grp (t : Str) (l : List FD) : List FD := l.filter fun f => decide (f.Tag = t)
theorem srt_unique : ∀ {a b : List FD}, Srt a → Srt b → (∀ t, grp t a = grp t b) → a = b
 | [], [], _, _, _ => rfl
 | [], y :: b, _, _, h => by have := h y.Tag; simp [grp] at this
 | x :: a, [], _, _, h => by have := h x.Tag; simp [grp] at this
 | x :: a, y :: b, ha, hb, h => by
  have ha' := List.pairwise_cons.1 ha
  have hb' := List.pairwise_cons.1 hb
  have hx : x ∈ y :: b := by
   have : x ∈ grp x.Tag (y :: b) := by rw [← h]; simp [grp]
   exact (List.mem_filter.1 this).1
  have hy : y ∈ x :: a := by
   have : y ∈ grp y.Tag (x :: a) := by rw [h]; simp [grp]
   exact (List.mem_filter.1 this).1
  have l1 : le y.Tag x.Tag := by
   rcases List.mem_cons.1 hx with e | e
   ·rw [e]; exact lt_irr _
   ·exact hb'.1 x e
  have l2 : le x.Tag y.Tag := by
   rcases List.mem_cons.1 hy with e | e
   ·rw [e]; exact lt_irr _
   ·exact ha'.1 y e
  have et := le_antisymm' l2 l1
  have hg := h x.Tag
  simp only [grp, List.filter_cons, et, decide_true, if_true] at hg
  obtain ⟨exy, hgt⟩ := List.cons.inj hg
  subst exy
  congr 1
  refine srt_unique ha'.2 hb'.2 (fun t => ?_)
  have := h t
  simp only [grp, List.filter_cons] at this ⊢
  split at this
  ·exact (List.cons.inj this).2
  ·exact this

/-- The stable sort. -/
def ins (l : List FD) (f : FD) : List FD := l.takeWhile (fun x => !Op.bytesLess f.Tag x.Tag) ++ f :: l.dropWhile (fun x => !Op.bytesLess f.Tag x.Tag)
def ssort (l : List FD) : List FD := l.foldl ins []
theorem mem_tw {α : Type} {p : α → Bool} : ∀ {l : List α} {x : α}, x ∈ l.takeWhile p → p x = true ∧ x ∈ l
 | a :: l, x, h => by
  rw [List.takeWhile_cons] at h
  split at h
  ·rename_i hp
   rcases List.mem_cons.1 h with rfl | h
   ·exact ⟨hp, by simp⟩
   ·exact ⟨(mem_tw h).1, by simp [(mem_tw h).2]⟩
  ·simp at h
theorem ins_srt {l : List FD} (h : Srt l) (f : FD) : Srt (ins l f) := by
 unfold ins Srt
 have hd : ∀ x ∈ l.dropWhile (fun x => !Op.bytesLess f.Tag x.Tag), le f.Tag x.Tag := by
  intro x hx
  have hsub : (l.dropWhile (fun x => !Op.bytesLess f.Tag x.Tag)).Pairwise fun a b => le a.Tag b.Tag := h.sublist (List.dropWhile_sublist _)
  cases hl : l.dropWhile (fun x => !Op.bytesLess f.Tag x.Tag) with
  | nil => rw [hl] at hx; simp at hx
  | cons y r =>
   have hy : Op.bytesLess f.Tag y.Tag = true := by
    have := List.head_dropWhile_not (fun x : FD => !Op.bytesLess f.Tag x.Tag) (l := l) (by rw [hl]; simp)
    simp only [hl, List.head_cons, Bool.not_eq_false'] at this
    simpa using this
   rw [hl] at hx hsub
   rcases List.mem_cons.1 hx with rfl | hx
   ·exact le_of_lt hy
   ·exact le_trans' (le_of_lt hy) ((List.pairwise_cons.1 hsub).1 x hx)
 rw [List.pairwise_append]
 refine ⟨h.sublist (List.takeWhile_sublist _), List.pairwise_cons.2 ⟨hd, h.sublist (List.dropWhile_sublist _)⟩, ?_⟩
 intro a ha b hb
 have hp := (mem_tw ha).1
 have hle : le a.Tag f.Tag := by intro hh; simp only [lt] at hh; rw [hh] at hp; cases hp
 rcases List.mem_cons.1 hb with rfl | hb
 ·exact hle
 ·exact le_trans' hle (hd b hb)
theorem ins_grp {l : List FD} (f : FD) (t : Str) : grp t (ins l f) = grp t l ++ grp t [f] ∨ (∃ x ∈ l.dropWhile (fun x => !Op.bytesLess f.Tag x.Tag), x.Tag = f.Tag) := by
 by_cases h : ∃ x ∈ l.dropWhile (fun x => !Op.bytesLess f.Tag x.Tag), x.Tag = f.Tag
 ·exact .inr h
 ·refine .inl ?_
  have e : l = l.takeWhile (fun x => !Op.bytesLess f.Tag x.Tag) ++ l.dropWhile (fun x => !Op.bytesLess f.Tag x.Tag) := (List.takeWhile_append_dropWhile).symm
  unfold ins grp
  conv => rhs; rw [e]
  simp only [List.filter_append, List.filter_cons, List.filter_nil]
  by_cases ht : f.Tag = t
  ·subst ht
   have : (l.dropWhile (fun x => !Op.bytesLess f.Tag x.Tag)).filter (fun x => decide (x.Tag = f.Tag)) = [] := by
    rw [List.filter_eq_nil_iff]
    intro x hx
    simp only [decide_eq_true_eq]
    intro hh
    exact h ⟨x, hx, hh⟩
   simp [this]
  ·simp [ht]
theorem drop_ne {l : List FD} (h : Srt l) (f : FD) : ¬ ∃ x ∈ l.dropWhile (fun x => !Op.bytesLess f.Tag x.Tag), x.Tag = f.Tag := by
 rintro ⟨x, hx, e⟩
 have hsub : (l.dropWhile (fun x => !Op.bytesLess f.Tag x.Tag)).Pairwise fun a b => le a.Tag b.Tag := h.sublist (List.dropWhile_sublist _)
 cases hl : l.dropWhile (fun x => !Op.bytesLess f.Tag x.Tag) with
 | nil => rw [hl] at hx; simp at hx
 | cons y r =>
  have hy : Op.bytesLess f.Tag y.Tag = true := by
   have := List.head_dropWhile_not (fun x : FD => !Op.bytesLess f.Tag x.Tag) (l := l) (by rw [hl]; simp)
   simp only [hl, List.head_cons, Bool.not_eq_false'] at this
   simpa using this
  rw [hl] at hx hsub
  rcases List.mem_cons.1 hx with rfl | hx
  ·rw [e] at hy; exact lt_irr _ hy
  ·have := (List.pairwise_cons.1 hsub).1 x hx
   rw [e] at this
   exact this hy
theorem ssort_go : ∀ (l a : List FD), Srt a → Srt (l.foldl ins a) ∧ ∀ t, grp t (l.foldl ins a) = grp t a ++ grp t l
 | [], a, h => ⟨h, fun t => by simp [grp]⟩
 | x :: l, a, h => by
  obtain ⟨h1, h2⟩ := ssort_go l (ins a x) (ins_srt h x)
  refine ⟨h1, fun t => ?_⟩
  rw [List.foldl_cons, h2, (ins_grp x t).resolve_right (drop_ne h x)]
  simp only [grp, List.append_assoc, ← List.filter_append]
  rfl
theorem ssort_srt (l : List FD) : Srt (ssort l) := (ssort_go l [] (List.Pairwise.nil)).1
theorem ssort_grp (l : List FD) (t : Str) : grp t (ssort l) = grp t l := by
 have := (ssort_go l [] (List.Pairwise.nil)).2 t
 simpa [grp, ssort] using this
theorem ssort_of {a l : List FD} (h1 : Srt a) (h2 : ∀ t, grp t a = grp t l) : a = ssort l :=
 srt_unique h1 (ssort_srt l) (fun t => by rw [h2, ssort_grp])
/-! ### the program's insertion sort -/
/-- What the comparison says. -/
def Cmp (p : FD → FD → Option Int) : Prop := ∀ a b, ∃ v, p a b = some v ∧ (v < 0 ↔ lt a.Tag b.Tag)
theorem grp_swap {A C : List FD} {a x : FD} (h : lt x.Tag a.Tag) (t : Str) : grp t (A ++ x :: a :: C) = grp t (A ++ a :: x :: C) := by
 have hne : x.Tag ≠ a.Tag := fun e => lt_irr _ (by rw [e] at h; exact h)
 unfold grp
 simp only [List.filter_append, List.filter_cons]
 by_cases h1 : x.Tag = t
 ·by_cases h2 : a.Tag = t
  ·exact absurd (h1.trans h2.symm) hne
  ·simp [h1, h2]
 ·simp [h1]
theorem swap_list {A C : List FD} {a x : FD} {n : Nat} (hA : A.length = n) : ((A ++ a :: x :: C).set (n + 1) a).set n x = A ++ x :: a :: C := by
 subst hA
 rw [List.set_append_right _ _ (by omega), show A.length + 1 - A.length = 1 by omega, List.set_append_right _ _ (by omega)]
 simp
theorem m143_l2_eq {p : FD → FD → Option Int} (hp : Cmp p) : ∀ (k : Nat) (A B C : List FD) (x : FD), A.length < k → (A ++ x :: (B ++ C)).length ≤ 100000 → Srt (A ++ B) → (∀ b ∈ B, lt x.Tag b.Tag) →
  ∃ ys D, m143_l2 0 p k (A ++ x :: (B ++ C)) (A.length : Int) = some ys ∧ ys = D ++ C ∧ Srt D ∧ D.length = A.length + 1 + B.length ∧ ∀ t, grp t ys = grp t (A ++ x :: (B ++ C)) := by
 intro k
 induction k with
 | zero => intro A B C x h; omega
 | succ k ih =>
  intro A B C x hk hl hs hb
  rw [m143_l2]
  have fin : (∀ a ∈ A, le a.Tag x.Tag) → Srt (A ++ x :: B) := by
   intro ha
   unfold Srt at hs ⊢
   rw [List.pairwise_append] at hs ⊢
   refine ⟨hs.1, List.pairwise_cons.2 ⟨fun b h => le_of_lt (hb b h), hs.2.1⟩, fun a h b h' => ?_⟩
   rcases List.mem_cons.1 h' with rfl | h'
   ·exact ha a h
   ·exact hs.2.2 a h b h'
  rcases List.eq_nil_or_concat A with h0 | ⟨A', a, hA⟩
  ·subst h0
   rw [if_neg (by simp)]
   exact ⟨_, x :: B, rfl, by simp, by simpa using fin (by simp), by simp; omega, fun t => rfl⟩
  ·have hA' : A = A' ++ [a] := by rw [hA, List.concat_eq_append]
   subst hA'
   have hlen : (A' ++ [a]).length = A'.length + 1 := by simp
   have e1 : A' ++ [a] ++ x :: (B ++ C) = A' ++ a :: x :: (B ++ C) := by simp
   have hl2 : A'.length + 2 ≤ 100000 := by rw [e1] at hl; simp at hl; omega
   have gj : (A' ++ a :: x :: (B ++ C))[A'.length + 1]? = some x := by rw [List.getElem?_append_right (by omega)]; simp
   have gi : (A' ++ a :: x :: (B ++ C))[A'.length]? = some a := by rw [List.getElem?_append_right (by omega)]; simp
   have hw : IntKind.i64.wrap (((A'.length + 1 : Nat) : Int) - 1) = (A'.length : Int) := by rw [w64 (by omega)]; omega
   rw [e1, hlen, if_pos (by omega), at?_of gj, hw]
   simp only [Option.bind_some]
   rw [at?_of gi]
   simp only [Option.bind_some]
   obtain ⟨v, hv, hlt⟩ := hp x a
   rw [hv]
   simp only [Option.bind_some]
   by_cases h : v < 0
   ·have hxa := hlt.1 h
    have gset : ((A' ++ a :: x :: (B ++ C)).set ((A'.length + 1 : Nat) : Int).toNat a)[A'.length]? = some a := by
     rw [Int.toNat_natCast, List.getElem?_set_ne (by omega)]; exact gi
    rw [if_pos h, at?_of gset]
    simp only [Option.bind_some]
    rw [Int.toNat_natCast, Int.toNat_natCast, swap_list rfl]
    have hs' : Srt (A' ++ a :: B) := by rw [show A' ++ a :: B = A' ++ [a] ++ B by simp]; exact hs
    obtain ⟨ys, D, q1, q2, q3, q4, q5⟩ := ih A' (a :: B) C x (by rw [hlen] at hk; omega) (by rw [e1] at hl; simp at hl ⊢; omega) hs' (fun b hb' => by
     rcases List.mem_cons.1 hb' with rfl | hb'
     ·exact hxa
     ·exact hb b hb')
    refine ⟨ys, D, by simpa using q1, q2, q3, by rw [q4]; simp; omega, fun t => ?_⟩
    rw [q5 t, ← grp_swap hxa]
    rfl
   ·rw [if_neg h]
    have hle : le a.Tag x.Tag := fun hh => h (hlt.2 hh)
    refine ⟨_, A' ++ [a] ++ x :: B, rfl, by simp, fin (fun b hb' => ?_), by simp; omega, fun t => rfl⟩
    rcases List.mem_append.1 hb' with h1 | h1
    ·have hp2 := (List.pairwise_append.1 (show (A' ++ [a] ++ B).Pairwise _ from hs)).1
     exact le_trans' ((List.pairwise_append.1 hp2).2.2 b h1 a (by simp)) hle
    ·simp at h1; subst h1; exact hle
theorem m143_l1_eq {p : FD → FD → Option Int} (hp : Cmp p) : ∀ (k : Nat) (A C : List FD), C.length < k → (A ++ C).length ≤ 100000 → Srt A → 1 ≤ A.length →
  ∃ ys, m143_l1 0 ((A ++ C).length : Int) p k (A ++ C) (A.length : Int) = some ys ∧ Srt ys ∧ ∀ t, grp t ys = grp t (A ++ C) := by
 intro k
 induction k with
 | zero => intro A C h; omega
 | succ k ih =>
  intro A C hk hl hs h1
  rw [m143_l1]
  cases C with
  | nil =>
   rw [if_neg (by simp)]
   exact ⟨_, rfl, by simpa using hs, fun t => rfl⟩
  | cons x C =>
   rw [if_pos (by simp; omega)]
   obtain ⟨ys, D, q1, q2, q3, q4, q5⟩ := m143_l2_eq hp 9223372036854775808 A [] C x (by simp at hl; omega) (by simpa using hl) (by simpa using hs) (by simp)
   simp only [List.nil_append] at q1 q5
   rw [q1]
   simp only [Option.bind_some]
   simp only [List.length_nil, Nat.add_zero] at q4
   have hw : IntKind.i64.wrap ((A.length : Int) + 1) = (D.length : Int) := by simp at hl; rw [w64 (by omega)]; omega
   have hlen : (A ++ x :: C).length = (D ++ C).length := by simp [q4]; omega
   rw [hw, q2, hlen]
   obtain ⟨zs, r1, r2, r3⟩ := ih D C (by simp at hk; omega) (by rw [← hlen]; exact hl) q3 (by omega)
   exact ⟨zs, r1, r2, fun t => by rw [r3, ← q2, q5]⟩
theorem m143_eq {p : FD → FD → Option Int} (hp : Cmp p) {l : List FD} (hl : l.length ≤ 100000) : m143 l 0 (l.length : Int) p = some (ssort l) := by
 unfold m143
 cases l with
 | nil =>
  have hw : IntKind.i64.wrap ((0 : Int) + 1) = 1 := by rw [w64 (by omega)]; rfl
  rw [hw]
  show (m143_l1 0 0 p (9223372036854775807 + 1) [] 1).bind _ = _
  rw [m143_l1, if_neg (by decide)]
  rfl
 | cons x l =>
  have hw : IntKind.i64.wrap ((0 : Int) + 1) = (([x] : List FD).length : Int) := by rw [w64 (by omega)]; rfl
  obtain ⟨ys, q1, q2, q3⟩ := m143_l1_eq hp 9223372036854775808 [x] l (by simp at hl; omega) (by simpa using hl) (List.pairwise_singleton _ _) (by simp)
  rw [hw]
  rw [show [x] ++ l = x :: l from rfl] at q1 q3
  rw [q1]
  simp only [Option.bind_some]
  rw [ssort_of q2 q3]
theorem m76_eq {p : FD → FD → Option Int} (hp : Cmp p) {l : List FD} (hl : l.length < 20) : m76 l p = some (ssort l) := by
 unfold m76 m110
 show ((m110_l1 (l.length : Int) p (9223372036854775807 + 1) l 0 20).bind _).bind _ = _
 rw [m110_l1, if_neg (by omega)]
 simp only [Option.bind_some]
 rw [m143_eq hp (by omega)]
 simp only [Option.bind_some]
 show ((m110_l2 (l.length : Int) (9223372036854775807 + 1) 20).bind _).bind _ = _
 rw [m110_l2, if_neg (by omega)]
 rfl
theorem m77_cmp : Cmp m77 := by
 intro a b
 unfold m77 m71 m108
 simp only [Option.bind_some, decide_true, Bool.not_true, Bool.false_eq_true, if_false]
 by_cases h1 : Op.bytesLess a.Tag b.Tag = true
 ·rw [if_pos h1]; exact ⟨-1, rfl, fun _ => h1, fun _ => by decide⟩
 ·rw [if_neg h1]
  by_cases h2 : Op.bytesLess b.Tag a.Tag = true
  ·rw [if_pos h2]; exact ⟨1, rfl, fun h => absurd h (by decide), fun h => absurd h h1⟩
  ·rw [if_neg h2]; exact ⟨0, rfl, fun h => absurd h (by decide), fun h => absurd h h1⟩

end Go.WK.S
