/- Plain law: texts: decoding, trimming, validity. No program in sight but the models. -/
import Derived.Test.YteljaomifdnkkaaGreatDoorCompareYV3
import Derived.Lib.DecodeN
set_option linter.unusedSimpArgs false
set_option linter.unusedVariables false
namespace Go.WK.S
open Go Go.Proofs Go.WK Go.RowKit
set_option maxRecDepth 100000
set_option linter.unusedVariables false
set_option linter.unusedSimpArgs false

def by_ (t : Str) (k : Nat) : Nat := (t.getD k 0).toNat
def dec (t : Str) : Nat × Nat := Lib.decodeN t.length (by_ t 0) (by_ t 1) (by_ t 2) (by_ t 3)
theorem get_by (t : Str) (k : Nat) : ((⟨t.toArray⟩ : ByteArray).get! k).toNat = by_ t k := by
 unfold by_
 congr 1
 show t.toArray[k]! = _
 simp only [List.getD, getElem!_def, List.getElem?_toArray]
 cases t[k]? <;> rfl
theorem decodeGo_eq {t : Str} (h : t ≠ []) : Lib.decodeGo ⟨t.toArray⟩ = dec t := by
 unfold Lib.decodeGo
 have hs : (⟨t.toArray⟩ : ByteArray).size = t.length := size_str t
 rw [if_neg (by rw [hs]; intro e; exact h (List.eq_nil_of_length_eq_zero e)), Lib.decode_at, hs]
 simp only [Nat.zero_add, Nat.sub_zero, get_by]
 rfl
theorem m142_eq {t : Str} (h : t ≠ []) (hl : t.length ≤ 9223372036854775807) : m142 t = some (((dec t).1 : Int), ((dec t).2 : Int)) := by
 unfold m142
 rw [if_neg h]
 obtain ⟨c, hc⟩ := getq (xs := t) (i := 0) (by cases t with | nil => exact absurd rfl h | cons a t => simp)
 have hb : by_ t 0 = c.toNat := by unfold by_; simp [List.getD, hc]
 rw [hc]
 simp only [Option.bind_some]
 by_cases h1 : c.toNat < 128
 ·rw [if_pos h1]
  have : dec t = (c.toNat, 1) := by unfold dec Lib.decodeN; rw [hb, if_pos h1]
  rw [this]
  rfl
 ·rw [if_neg h1]
  unfold m172
  rw [if_pos hl, decodeGo_eq h]
  rfl
theorem dec_len {t : Str} (h : t ≠ []) : 1 ≤ (dec t).2 ∧ (dec t).2 ≤ t.length ∧ (dec t).1 ≤ 1114111 := by
 have hl : 1 ≤ t.length := by cases t with | nil => exact absurd rfl h | cons a t => simp
 have h0 : by_ t 0 < 256 := (t.getD 0 0).toNat_lt
 unfold dec Lib.decodeN
 repeat' split
 all_goals (simp only []; omega)

/-- A character that both know. -/
def good1 (t : Str) : Bool := !decide ((dec t).1 = 65533) && hasC ((dec t).1 : Int)
theorem ref_at {s t : Str} {i : Nat} (hl : s.length ≤ 17592186044416) (hd : s.drop i = t) (h : t ≠ []) : ∃ d m : Nat, m151 s (i : Int) = some ((d : Int), (m : Int)) ∧ d ≤ 1114111 ∧
  ((m ≠ 0 ∧ hasC (d : Int) = true) ↔ good1 t = true) ∧ (good1 t = true → d = (dec t).1 ∧ m = (dec t).2) := by
 have hlen : t.length = s.length - i := by rw [← hd]; simp
 have hl1 : 1 ≤ t.length := by cases t with | nil => exact absurd rfl h | cons a t => simp
 have g : ∀ j, s[i + j]? = t[j]? := fun j => by rw [← hd, List.getElem?_drop]
 have gb : ∀ j, j < t.length → ∃ c : UInt8, s[i + j]? = some c ∧ by_ t j = c.toNat := fun j hj => by
  obtain ⟨c, hc⟩ := getq hj
  exact ⟨c, by rw [g, hc], by unfold by_; simp [List.getD, hc]⟩
 obtain ⟨c0, e0, b0⟩ := gb 0 (by omega)
 have hc0 := c0.toNat_lt
 have w1 : IntKind.i64.wrap ((i : Int) + 1) = ((i + 1 : Nat) : Int) := by rw [w64 (by omega)]; omega
 have w2 : IntKind.i64.wrap ((i : Int) + 2) = ((i + 2 : Nat) : Int) := by rw [w64 (by omega)]; omega
 have hd1 : hasC 65533 = false := by
  cases hh : hasC 65533 with
  | false => rfl
  | true => have := hasC_bd hh; omega
 unfold m151
 rw [at?_of (by simpa using e0)]
 simp only [Option.bind_some]
 by_cases h1 : c0.toNat < 128
 ·rw [if_pos h1]
  have hdec : dec t = (c0.toNat, 1) := by unfold dec Lib.decodeN; rw [b0, if_pos h1]
  refine ⟨c0.toNat, 1, rfl, by omega, ?_, fun _ => by rw [hdec]; exact ⟨rfl, rfl⟩⟩
  unfold good1
  rw [hdec]
  simp
  omega
 ·rw [if_neg h1]
  -- two bytes
  by_cases h2 : (194 ≤ c0.toNat ∧ c0.toNat < 224) ∧ 1 < t.length ∧ by_ t 1 / 64 = 2
  ·obtain ⟨c1, e1, b1⟩ := gb 1 h2.2.1
   have hc1 := c1.toNat_lt
   rw [if_pos h2.1.1, if_pos h2.1.2, w1, if_pos (by omega), at?_of e1]
   simp only [Option.bind_some]
   rw [fdiv64, decide_eq_true (by rw [← b1, h2.2.2]; rfl)]
   simp only [if_true]
   have hb1 : by_ t 1 / 64 = 2 := h2.2.2
   rw [w8_sub (by omega)]
   have hv : IntKind.i64.wrap (IntKind.i64.wrap (((c0.toNat : Int) - 192) * 64) + ((c1.toNat : Int) - 128)) = (((c0.toNat - 192) * 64 + (c1.toNat - 128) : Nat) : Int) := by
    rw [w64 (n := ((c0.toNat : Int) - 192) * 64) (by omega), w64 (by omega)]; omega
   have hdec : dec t = ((c0.toNat - 192) * 64 + (c1.toNat - 128), 2) := by
    unfold dec Lib.decodeN
    rw [b0, if_neg h1, if_pos ⟨by omega, h2.2.1, h2.2.2⟩, b1, if_pos (by omega)]
    congr 1
    omega
   rw [hv]
   refine ⟨_, 2, rfl, by omega, ?_, fun _ => by rw [hdec]; exact ⟨rfl, rfl⟩⟩
   unfold good1
   rw [hdec]
   simp
   omega
  ·-- the first test fails
   have hb1' : ∀ {X : Option (Int × Int)} {Y : Option (Int × Int)}, (Option.bind (α := Bool) (if 194 ≤ c0.toNat then if c0.toNat < 224 then if IntKind.i64.wrap ((i : Int) + 1) < (s.length : Int) then (at? s (IntKind.i64.wrap ((i : Int) + 1))).bind fun c => some (decide (Int.fdiv (c.toNat : Int) (2 ^ (min 6 8)) = 2)) else some false else some false else some false) fun x => if x = true then X else Y) = Y := by
    intro X Y
    by_cases a1 : 194 ≤ c0.toNat
    ·rw [if_pos a1]
     by_cases a2 : c0.toNat < 224
     ·rw [if_pos a2, w1]
      by_cases a3 : 1 < t.length
      ·obtain ⟨c1, e1, b1⟩ := gb 1 a3
       rw [if_pos (by omega), at?_of e1]
       simp only [Option.bind_some]
       rw [fdiv64, decide_eq_false (fun h => h2 ⟨⟨a1, a2⟩, a3, by rw [b1]; omega⟩)]
       rfl
      ·rw [if_neg (by omega)]; rfl
     ·rw [if_neg a2]; rfl
    ·rw [if_neg a1]; rfl
   rw [hb1']
   clear hb1'
   by_cases h3 : (224 ≤ c0.toNat ∧ c0.toNat < 240) ∧ 2 < t.length ∧ by_ t 1 / 64 = 2 ∧ by_ t 2 / 64 = 2
   ·obtain ⟨⟨a1, a2⟩, a3, a4, a5⟩ := h3
    obtain ⟨c1, e1, b1⟩ := gb 1 (by omega)
    obtain ⟨c2, e2, b2⟩ := gb 2 (by omega)
    have hc1 := c1.toNat_lt
    have hc2 := c2.toNat_lt
    rw [b1] at a4
    rw [b2] at a5
    rw [if_pos a1, if_pos a2, w2, if_pos (by omega), w1, at?_of e1]
    simp only [Option.bind_some]
    rw [fdiv64, if_pos (by rw [a4]; rfl), at?_of e2]
    simp only [Option.bind_some]
    rw [fdiv64, decide_eq_true (by rw [a5]; rfl)]
    simp only [if_true]
    have k1 : (w8 ((c1.toNat : Int) - 128)).toNat = c1.toNat - 128 := by have := w8_sub (y := c1) (by omega); omega
    have k2 : (w8 ((c2.toNat : Int) - 128)).toNat = c2.toNat - 128 := by have := w8_sub (y := c2) (by omega); omega
    rw [k1, k2, if_pos (by omega)]
    have hv : IntKind.i64.wrap (IntKind.i64.wrap (IntKind.i64.wrap (((c0.toNat : Int) - 224) * 4096) + ((c1.toNat - 128 : Nat) : Int) * 64) + ((c2.toNat - 128 : Nat) : Int)) = (((c0.toNat - 224) * 4096 + (c1.toNat - 128) * 64 + (c2.toNat - 128) : Nat) : Int) := by
     rw [w64 (n := ((c0.toNat : Int) - 224) * 4096) (by omega), w64 (n := ((c0.toNat : Int) - 224) * 4096 + ((c1.toNat - 128 : Nat) : Int) * 64) (by omega), w64 (by omega)]; omega
    rw [hv]
    have hdec : dec t = if (c0.toNat - 224) * 4096 + (c1.toNat - 128) * 64 + (c2.toNat - 128) ≥ 2048 ∧ ((c0.toNat - 224) * 4096 + (c1.toNat - 128) * 64 + (c2.toNat - 128) < 55296 ∨ 57344 ≤ (c0.toNat - 224) * 4096 + (c1.toNat - 128) * 64 + (c2.toNat - 128)) then ((c0.toNat - 224) * 4096 + (c1.toNat - 128) * 64 + (c2.toNat - 128), 3) else (65533, 1) := by
     unfold dec Lib.decodeN
     rw [b0, if_neg h1, if_neg (by omega), b1, b2, if_pos ⟨by omega, ⟨by omega, a4⟩, a3, a5⟩]
     have ec : c0.toNat % 16 * 4096 + c1.toNat % 64 * 64 + c2.toNat % 64 = (c0.toNat - 224) * 4096 + (c1.toNat - 128) * 64 + (c2.toNat - 128) := by omega
     rw [ec]
     exact ite_iff (by omega) rfl
    generalize hN : (c0.toNat - 224) * 4096 + (c1.toNat - 128) * 64 + (c2.toNat - 128) = N at hdec
    have hN2 : N ≤ 65535 := by omega
    by_cases hge : 2048 ≤ N
    ·rw [if_pos (by omega)]
     refine ⟨N, 3, rfl, by omega, ?_, ?_⟩
     ·unfold good1
      rw [hdec]
      by_cases hsur : N < 55296 ∨ 57344 ≤ N
      ·rw [if_pos ⟨hge, hsur⟩]
       simp
       intro hh he
       rw [he] at hh
       rw [show ((65533 : Nat) : Int) = 65533 from rfl, hd1] at hh
       cases hh
      ·rw [if_neg (fun h => hsur h.2)]
       simp
       cases hh : hasC (N : Int) with
       | false => rfl
       | true => have := hasC_bd hh; omega
     ·intro hg
      unfold good1 at hg
      rw [hdec] at hg ⊢
      by_cases hsur : N < 55296 ∨ 57344 ≤ N
      ·rw [if_pos ⟨hge, hsur⟩]; exact ⟨rfl, rfl⟩
      ·rw [if_neg (fun h => hsur h.2)] at hg
       simp at hg
    ·rw [if_neg (by omega)]
     have hg : good1 t = false := by
      unfold good1
      rw [hdec, if_neg (fun h => hge h.1)]
      simp
     exact ⟨0, 0, rfl, by omega, by rw [hg]; simp, fun h => by rw [hg] at h; cases h⟩
   ·have hb2' : ∀ {X : Option (Int × Int)} {Y : Option (Int × Int)}, (Option.bind (α := Bool) (if 224 ≤ c0.toNat then if c0.toNat < 240 then if IntKind.i64.wrap ((i : Int) + 2) < (s.length : Int) then (at? s (IntKind.i64.wrap ((i : Int) + 1))).bind fun c => if Int.fdiv (c.toNat : Int) (2 ^ (min 6 8)) = 2 then (at? s (IntKind.i64.wrap ((i : Int) + 2))).bind fun c => some (decide (Int.fdiv (c.toNat : Int) (2 ^ (min 6 8)) = 2)) else some false else some false else some false else some false) fun x => if x = true then X else Y) = Y := by
     intro X Y
     by_cases a1 : 224 ≤ c0.toNat
     ·rw [if_pos a1]
      by_cases a2 : c0.toNat < 240
      ·rw [if_pos a2, w2]
       by_cases a3 : 2 < t.length
       ·obtain ⟨c1, e1, b1⟩ := gb 1 (by omega)
        obtain ⟨c2, e2, b2⟩ := gb 2 (by omega)
        rw [if_pos (by omega), w1, at?_of e1]
        simp only [Option.bind_some]
        rw [fdiv64]
        by_cases a4 : ((c1.toNat / 64 : Nat) : Int) = 2
        ·rw [if_pos a4, at?_of e2]
         simp only [Option.bind_some]
         rw [fdiv64, decide_eq_false (fun h => h3 ⟨⟨a1, a2⟩, a3, by rw [b1]; omega, by rw [b2]; omega⟩)]
         rfl
        ·rw [if_neg a4]; rfl
       ·rw [if_neg (by omega)]; rfl
      ·rw [if_neg a2]; rfl
     ·rw [if_neg a1]; rfl
    rw [hb2']
    clear hb2'
    have hg : good1 t = false := by
     have key : (dec t).1 = 65533 ∨ 65374 < (dec t).1 := by
      unfold dec Lib.decodeN
      rw [b0, if_neg h1]
      by_cases q1 : c0.toNat / 32 = 6 ∧ 1 < t.length ∧ by_ t 1 / 64 = 2
      ·rw [if_pos q1, if_neg (by
        intro hh
        apply h2
        refine ⟨⟨?_, ?_⟩, q1.2.1, q1.2.2⟩ <;> omega)]
       exact .inl rfl
      ·rw [if_neg q1, if_neg (fun q => h3 ⟨by omega, q.2.2.1, q.2.1.2, q.2.2.2⟩)]
       by_cases q2 : c0.toNat / 8 = 30 ∧ (1 < t.length ∧ by_ t 1 / 64 = 2) ∧ (2 < t.length ∧ by_ t 2 / 64 = 2) ∧ 3 < t.length ∧ by_ t 3 / 64 = 2
       ·rw [if_pos q2]
        split
        ·rename_i hq; exact .inr (by simp only []; omega)
        ·exact .inl rfl
       ·rw [if_neg q2]; exact .inl rfl
     unfold good1
     rcases key with h | h
     ·rw [h]; simp
     ·cases hh : hasC ((dec t).1 : Int) with
      | false => simp
      | true => have := hasC_bd hh; omega
    exact ⟨0, 0, rfl, by omega, by rw [hg]; simp, fun h => by rw [hg] at h; cases h⟩
end Go.WK.S
