/- Plain law: texts: decoding, trimming, validity. No program in sight but the models. -/
import Derived.Test.YteljaomifdnkkaaGreatDoorLinesYV3
import Derived.Lib.DecodeN
set_option linter.unusedSimpArgs false
set_option linter.unusedVariables false
namespace Go.WK.S
open Go Go.Proofs Go.WK Go.RowKit
set_option maxRecDepth 100000
set_option linter.unusedVariables false
set_option linter.unusedSimpArgs false

def by_ (t : Str) (k : Nat) : Nat := (t.getD k 0).toNat
def dec (t : Str) : Nat × Nat := Lib.decodeN t.length (by_ t 0) (by_ t 1) (by_ t 2) (by_ t 3)
theorem get_by (t : Str) (k : Nat) : ((⟨t.toArray⟩ : ByteArray).get! k).toNat = by_ t k := by
 unfold by_
 congr 1
 show t.toArray[k]! = _
 simp only [List.getD, getElem!_def, List.getElem?_toArray]
 cases t[k]? <;> rfl
theorem decodeGo_eq {t : Str} (h : t ≠ []) : Lib.decodeGo ⟨t.toArray⟩ = dec t := by
 unfold Lib.decodeGo
 have hs : (⟨t.toArray⟩ : ByteArray).size = t.length := size_str t
 rw [if_neg (by rw [hs]; intro e; exact h (List.eq_nil_of_length_eq_zero e)), Lib.decode_at, hs]
 simp only [Nat.zero_add, Nat.sub_zero, get_by]
 rfl
theorem m142_eq {t : Str} (h : t ≠ []) (hl : t.length ≤ 9223372036854775807) : m142 t = some (((dec t).1 : Int), ((dec t).2 : Int)) := by
 unfold m142
 rw [if_neg h]
 obtain ⟨c, hc⟩ := getq (xs := t) (i := 0) (by cases t with | nil => exact absurd rfl h | cons a t => simp)
 have hb : by_ t 0 = c.toNat := by unfold by_; simp [List.getD, hc]
 rw [hc]
 simp only [Option.bind_some]
 by_cases h1 : c.toNat < 128
 ·rw [if_pos h1]
  have : dec t = (c.toNat, 1) := by unfold dec Lib.decodeN; rw [hb, if_pos h1]
  rw [this]
  rfl
 ·rw [if_neg h1]
  unfold m172
  rw [if_pos hl, decodeGo_eq h]
  rfl
theorem dec_len {t : Str} (h : t ≠ []) : 1 ≤ (dec t).2 ∧ (dec t).2 ≤ t.length ∧ (dec t).1 ≤ 1114111 := by
 have hl : 1 ≤ t.length := by cases t with | nil => exact absurd rfl h | cons a t => simp
 have h0 : by_ t 0 < 256 := (t.getD 0 0).toNat_lt
 unfold dec Lib.decodeN
 repeat' split
 all_goals (simp only []; omega)

/-- A character that both know. -/
def good1 (t : Str) : Bool := !decide ((dec t).1 = 65533) && hasC ((dec t).1 : Int)

end Go.WK.S
