/- Plain law: the encoding of a record. No program in sight but the models. -/
import Derived.Test.YteljaomifdnkkaaGreatDoorCompareAwk
set_option linter.unusedSimpArgs false
set_option linter.unusedVariables false
namespace Go.WK.S
open Go Go.Proofs Go.WK Go.RowKit
set_option maxRecDepth 100000
set_option linter.unusedVariables false
set_option linter.unusedSimpArgs false

/-! ### numbers -/
theorem hiE_big : ∀ (k u : Nat), u ≤ k → ∀ c ∈ hiE u, 128 ≤ c.toNat
 | 0, u, h => by
  have : u = 0 := by omega
  subst this
  intro c hc
  simp [hiE] at hc
 | k + 1, u, h => by
  intro c hc
  by_cases h0 : 0 < u
  ·rw [hiE_pos h0] at hc
   rcases List.mem_append.1 hc with hc | hc
   ·exact hiE_big k (u / 128) (by omega) c hc
   ·simp only [List.mem_singleton] at hc
    rw [hc, UInt8.toNat_ofNat']
    omega
  ·have : u = 0 := by omega
   subst this
   simp [hiE] at hc
theorem ofNat_inj {a b : Nat} (ha : a < 256) (hb : b < 256) (h : UInt8.ofNat a = UInt8.ofNat b) : a = b := by
 have := congrArg UInt8.toNat h
 rw [UInt8.toNat_ofNat', UInt8.toNat_ofNat'] at this
 omega
theorem hiE_inj : ∀ (k u v : Nat), u ≤ k → hiE u = hiE v → u = v
 | 0, u, v, h, e => by
  have : u = 0 := by omega
  subst this
  by_cases h0 : 0 < v
  ·rw [hiE_pos h0] at e; simp [hiE] at e
  ·omega
 | k + 1, u, v, h, e => by
  by_cases hu : 0 < u
  ·by_cases hv : 0 < v
   ·rw [hiE_pos hu, hiE_pos hv] at e
    obtain ⟨e1, e2⟩ := List.append_inj' e rfl
    have h1 := hiE_inj k (u / 128) (v / 128) (by omega) e1
    injection e2 with e2
    have h2 := ofNat_inj (by omega) (by omega) e2
    omega
   ·have : v = 0 := by omega
    subst this
    rw [hiE_pos hu] at e; simp [hiE] at e
  ·have : u = 0 := by omega
   subst this
   by_cases h0 : 0 < v
   ·rw [hiE_pos h0] at e; simp [hiE] at e
   ·omega
theorem pre_inj : ∀ (p q : Str) (x y : UInt8) (a b : Str), (∀ c ∈ p, 128 ≤ c.toNat) → (∀ c ∈ q, 128 ≤ c.toNat) → x.toNat < 128 → y.toNat < 128 → p ++ x :: a = q ++ y :: b → p = q ∧ x = y ∧ a = b
 | [], [], x, y, a, b, _, _, _, _, h => by
  injection h with h1 h2
  exact ⟨rfl, h1, h2⟩
 | [], c :: q, x, y, a, b, _, hq, hx, _, h => by
  injection h with h1 h2
  have := hq c List.mem_cons_self
  rw [h1] at hx
  omega
 | c :: p, [], x, y, a, b, hp, _, _, hy, h => by
  injection h with h1 h2
  have := hp c List.mem_cons_self
  rw [← h1] at hy
  omega
 | c :: p, d :: q, x, y, a, b, hp, hq, hx, hy, h => by
  injection h with h1 h2
  obtain ⟨e1, e2, e3⟩ := pre_inj p q x y a b (fun c hc => hp c (List.mem_cons_of_mem _ hc)) (fun c hc => hq c (List.mem_cons_of_mem _ hc)) hx hy h2
  exact ⟨by rw [h1, e1], e2, e3⟩
theorem encN_inj {u v : Nat} {a b : Str} (h : encN u ++ a = encN v ++ b) : u = v ∧ a = b := by
 unfold encN at h
 rw [List.append_assoc, List.append_assoc] at h
 obtain ⟨e1, e2, e3⟩ := pre_inj _ _ _ _ _ _ (hiE_big _ _ (Nat.le_refl _)) (hiE_big _ _ (Nat.le_refl _)) (by rw [UInt8.toNat_ofNat']; omega) (by rw [UInt8.toNat_ofNat']; omega) h
 have h1 := hiE_inj _ _ _ (Nat.le_refl _) e1
 have h2 := ofNat_inj (by omega) (by omega) e2
 exact ⟨by omega, e3⟩
theorem encI_inj {u v : Int} {a b : Str} (hu : 0 ≤ u) (hv : 0 ≤ v) (h : encI u ++ a = encI v ++ b) : u = v ∧ a = b := by
 unfold encI at h
 obtain ⟨h1, h2⟩ := encN_inj h
 exact ⟨by omega, h2⟩
theorem encT_inj {s t : Str} {a b : Str} (h : encT s ++ a = encT t ++ b) : s = t ∧ a = b := by
 unfold encT at h
 rw [List.append_assoc, List.append_assoc] at h
 obtain ⟨h1, h2⟩ := encN_inj h
 exact List.append_inj h2 (by omega)
theorem encU_inj {u v : UInt8} {a b : Str} (h : encI (u.toNat : Int) ++ a = encI (v.toNat : Int) ++ b) : u = v ∧ a = b := by
 obtain ⟨h1, h2⟩ := encI_inj (by omega) (by omega) h
 exact ⟨UInt8.toNat_inj.1 (by omega), h2⟩

/-! ### records -/
def encSub (s : D_api_Sub) : Str := encI (s.Code.toNat : Int) ++ encT s.Value
def encSubs (l : List D_api_Sub) : Str := l.flatMap encSub
def encField (f : FD) : Str := encT f.Tag ++ encI (f.Ind_0.toNat : Int) ++ encI (f.Ind_1.toNat : Int) ++ encI (f.Subs.length : Int) ++ encSubs f.Subs
def encFields (l : List FD) : Str := l.flatMap encField
def encR (r : RD) : Str := encI r.ID ++ encI (r.Fields.length : Int) ++ encFields r.Fields
theorem encSub_inj {s t : D_api_Sub} {a b : Str} (h : encSub s ++ a = encSub t ++ b) : s = t ∧ a = b := by
 unfold encSub at h
 rw [List.append_assoc, List.append_assoc] at h
 obtain ⟨h1, h2⟩ := encU_inj h
 obtain ⟨h3, h4⟩ := encT_inj h2
 obtain ⟨c, v⟩ := s
 obtain ⟨c', v'⟩ := t
 simp only at h1 h3
 subst h1 h3
 exact ⟨rfl, h4⟩
theorem flatMap_inj {α : Type} {f : α → Str} (hf : ∀ {x y : α} {a b : Str}, f x ++ a = f y ++ b → x = y ∧ a = b) : ∀ (l m : List α) (a b : Str), l.length = m.length → l.flatMap f ++ a = m.flatMap f ++ b → l = m ∧ a = b
 | [], [], a, b, _, h => ⟨rfl, h⟩
 | [], _ :: _, a, b, hl, h => by simp at hl
 | _ :: _, [], a, b, hl, h => by simp at hl
 | x :: l, y :: m, a, b, hl, h => by
  rw [List.flatMap_cons, List.flatMap_cons, List.append_assoc, List.append_assoc] at h
  obtain ⟨e1, e2⟩ := hf h
  obtain ⟨e3, e4⟩ := flatMap_inj hf l m a b (by simpa using hl) e2
  exact ⟨by rw [e1, e3], e4⟩
theorem encField_inj {f g : FD} {a b : Str} (h : encField f ++ a = encField g ++ b) : f = g ∧ a = b := by
 unfold encField at h
 simp only [List.append_assoc] at h
 obtain ⟨h1, h⟩ := encT_inj h
 obtain ⟨h2, h⟩ := encU_inj h
 obtain ⟨h3, h⟩ := encU_inj h
 obtain ⟨h4, h⟩ := encI_inj (by omega) (by omega) h
 obtain ⟨h5, h6⟩ := flatMap_inj encSub_inj _ _ _ _ (by omega) h
 obtain ⟨t, i, j, s⟩ := f
 obtain ⟨t', i', j', s'⟩ := g
 simp only at h1 h2 h3 h5
 subst h1 h2 h3 h5
 exact ⟨rfl, h6⟩
theorem encR_inj {r s : RD} (hr : 0 ≤ r.ID) (hs : 0 ≤ s.ID) (h : encR r = encR s) : r = s := by
 have h' : encR r ++ [] = encR s ++ [] := by rw [h]
 unfold encR at h'
 simp only [List.append_assoc] at h'
 obtain ⟨h1, h'⟩ := encI_inj hr hs h'
 obtain ⟨h2, h'⟩ := encI_inj (by omega) (by omega) h'
 obtain ⟨h3, _⟩ := flatMap_inj encField_inj _ _ _ _ (by omega) h'
 obtain ⟨i, f⟩ := r
 obtain ⟨i', f'⟩ := s
 simp only at h1 h3
 subst h1 h3
 rfl

/-! ### how long -/
theorem encT_len (s : Str) (h : s.length ≤ 1000000) : (encT s).length ≤ 10 + s.length := by
 have := encN_len (n := 2 * s.length) (by omega)
 unfold encT
 simp only [List.length_append]
 omega
theorem encSubs_len : ∀ (l : List D_api_Sub), (∀ s ∈ l, s.Value.length ≤ 1000) → (encSubs l).length ≤ l.length * 1020
 | [], _ => by simp [encSubs]
 | s :: l, h => by
  have h1 := encSubs_len l (fun x hx => h x (List.mem_cons_of_mem _ hx))
  have h2 := h s List.mem_cons_self
  have h3 := encT_len s.Value (by omega)
  have h4 := encI_len (a := (s.Code.toNat : Int)) (by have := s.Code.toNat_lt; omega)
  unfold encSubs at h1 ⊢
  rw [List.flatMap_cons]
  unfold encSub at h1 ⊢
  simp only [List.length_append, List.length_cons, Nat.succ_mul] at h1 ⊢
  omega
def Sm (f : FD) : Prop := f.Tag.length ≤ 100 ∧ f.Subs.length ≤ 100 ∧ ∀ s ∈ f.Subs, s.Value.length ≤ 1000
theorem u8_le (c : UInt8) : (c.toNat : Int) ≤ 4611686018427387903 := by have := c.toNat_lt; omega
theorem m64_l2_eq (f : FD) (hf : Sm f) : ∀ (k i : Nat) (b : Str), f.Subs.length < k + i → i ≤ f.Subs.length → b.length ≤ 1000000000 + i * 2000 →
  m64_l2 f k b i = some (b ++ encSubs (f.Subs.drop i)) := by
 intro k
 induction k with
 | zero => intro i b h1 h2; omega
 | succ k ih =>
  intro i b h1 h2 h3
  rw [m64_l2]
  by_cases hi : i < f.Subs.length
  ·obtain ⟨s, hs⟩ := getq hi
   have hv := hf.2.2 s (List.mem_of_getElem? hs)
   have hu := u8_le s.Code
   have hl1 := encI_len hu
   have hl2 := encT_len s.Value (by omega)
   have h100 := hf.2.1
   rw [if_pos hi, hs]
   simp only [Option.bind_some]
   rw [if_pos ⟨by omega, hu, by omega⟩, if_pos (by simp only [List.length_append]; omega), ih (i + 1) _ (by omega) (by omega) (by simp only [List.length_append]; omega), drop_at hs]
   unfold encSubs encSub
   simp
  ·rw [if_neg hi, List.drop_eq_nil_of_le (by omega)]
   simp [encSubs]
theorem encField_len {f : FD} (hf : Sm f) : (encField f).length ≤ 200000 := by
 have h1 := encT_len f.Tag (by have := hf.1; omega)
 have h2 := encI_len (u8_le f.Ind_0)
 have h3 := encI_len (u8_le f.Ind_1)
 have h4 := encI_len (a := (f.Subs.length : Int)) (by have := hf.2.1; omega)
 have h5 := encSubs_len f.Subs hf.2.2
 have := hf.1
 have := hf.2.1
 unfold encField
 simp only [List.length_append]
 omega
theorem m64_l1_eq (r : RD) (hf : ∀ f ∈ r.Fields, Sm f) (hn : r.Fields.length ≤ 100) : ∀ (k i : Nat) (b : Str), r.Fields.length < k + i → i ≤ r.Fields.length → b.length ≤ 1000 + i * 200000 →
  m64_l1 r k b i = some (b ++ encFields (r.Fields.drop i)) := by
 intro k
 induction k with
 | zero => intro i b h1 h2; omega
 | succ k ih =>
  intro i b h1 h2 h3
  rw [m64_l1]
  by_cases hi : i < r.Fields.length
  ·obtain ⟨f, hf'⟩ := getq hi
   have hs := hf f (List.mem_of_getElem? hf')
   have hel := encField_len hs
   have ht := encT_len f.Tag (by have := hs.1; omega)
   have h2' := encI_len (u8_le f.Ind_0)
   have h3' := encI_len (u8_le f.Ind_1)
   have h4' := encI_len (a := (f.Subs.length : Int)) (by have := hs.2.1; omega)
   have ht2 := hs.1
   have hs2 := hs.2.1
   rw [if_pos hi, hf']
   simp only [Option.bind_some]
   rw [if_pos (by omega), if_pos ⟨by omega, u8_le _, by simp only [List.length_append]; omega⟩, if_pos ⟨by omega, u8_le _, by simp only [List.length_append]; omega⟩, if_pos ⟨by omega, by omega, by simp only [List.length_append]; omega⟩,
    m64_l2_eq f hs _ 0 _ (by omega) (by omega) (by simp only [List.length_append]; omega)]
   simp only [Option.bind_some]
   have e : b ++ encT f.Tag ++ encI (f.Ind_0.toNat : Int) ++ encI (f.Ind_1.toNat : Int) ++ encI (f.Subs.length : Int) ++ encSubs (f.Subs.drop 0) = b ++ encField f := by
    unfold encField
    simp
   rw [e, ih (i + 1) _ (by omega) (by omega) (by simp only [List.length_append]; omega), drop_at hf']
   unfold encFields
   simp
  ·rw [if_neg hi, List.drop_eq_nil_of_le (by omega)]
   simp [encFields]
theorem m64_eq {r : RD} (hf : ∀ f ∈ r.Fields, Sm f) (hn : r.Fields.length ≤ 100) (hid : 0 ≤ r.ID ∧ r.ID ≤ 1000000000) : m64 r = some (encR r) := by
 have h1 := encI_len (a := r.ID) (by omega)
 have h2 := encI_len (a := (r.Fields.length : Int)) (by omega)
 unfold m64
 rw [if_pos ⟨by omega, by omega, by omega⟩, if_pos ⟨by omega, by omega, by simp only [List.length_append, List.length_nil]; omega⟩, m64_l1_eq r hf hn _ 0 _ (by omega) (by omega) (by simp only [List.length_append, List.length_nil]; omega)]
 unfold encR
 simp
end Go.WK.S
