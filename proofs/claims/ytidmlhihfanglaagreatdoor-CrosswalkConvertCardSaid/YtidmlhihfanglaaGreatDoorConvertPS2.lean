
/- Plain law: the reference's canonical form. No program in sight but the models. -/
import Derived.Test.YtidmlhihfanglaaGreatDoorConvertPS
set_option linter.unusedSimpArgs false
set_option linter.unusedVariables false
namespace Go.WK.S
open Go Go.Proofs Go.WK Go.RowKit
set_option maxRecDepth 100000
set_option linter.unusedVariables false
set_option linter.unusedSimpArgs false
/-! ### the reference's canonical form -/
theorem m75_l1_eq (f : FD) (l : List FD) : ∀ (k i : Nat), i ≤ l.length → l.length < k + i → m75_l1 l f k i = some (i + ((l.drop i).takeWhile (fun x => !Op.bytesLess f.Tag x.Tag)).length) := by
 intro k
 induction k with
 | zero => intro i h1 h2; omega
 | succ k ih =>
  intro i h1 h2
  rw [m75_l1]
  by_cases hi : i < l.length
  ·have e : l.drop i = l[i] :: l.drop (i + 1) := List.drop_eq_getElem_cons hi
   rw [if_pos hi, List.getElem?_eq_getElem hi, e, List.takeWhile_cons]
   simp only [Option.bind_some]
   by_cases h : Op.bytesLess f.Tag l[i].Tag = true
   ·rw [if_pos h, h]; simp
   ·rw [if_neg h, ih (i + 1) (by omega) (by omega)]
    have : Op.bytesLess f.Tag l[i].Tag = false := by simpa using h
    rw [this]
    simp; omega
  ·rw [if_neg hi, List.drop_eq_nil_of_le (by omega)]; simp
theorem m75_eq (l : List FD) (f : FD) (h : l.length ≤ 100000) : m75 l f = some (ins l f) := by
 unfold m75
 rw [m75_l1_eq f l _ 0 (by omega) (by omega), List.drop_zero]
 simp only [Option.bind_some, Nat.zero_add]
 have e := List.takeWhile_append_dropWhile (p := fun x : FD => !Op.bytesLess f.Tag x.Tag) (l := l)
 have hlen := congrArg List.length e
 simp only [List.length_append] at hlen
 generalize hW : l.takeWhile (fun x : FD => !Op.bytesLess f.Tag x.Tag) = W at e hlen
 generalize hD : l.dropWhile (fun x : FD => !Op.bytesLess f.Tag x.Tag) = D at e hlen
 have ht : l.take W.length = W := by rw [← e]; simp
 have hd : l.drop W.length = D := by rw [← e]; simp
 rw [if_pos (by omega), ht, hd, if_pos (by omega), if_pos (by simp; omega), if_pos (by simp; omega)]
 unfold ins
 rw [hW, hD]
 simp
theorem m74_eq (r : D_api_Record) (h1 : r.Fields.length ≤ 100000) (h2 : ∀ f ∈ r.Fields, f.Subs.length ≤ 100000) : m74 r = some r := by
 have L := foldMap (xs := r.Fields) (lp := fun k acc i => m74_l1 r k i acc) id ?_ ?_ (r.Fields.length + 1) [] 0 (by omega) (by omega) (by simp)
 ·unfold m74
  rw [L]
  simp
 ·intro k acc i x hx ha
  have hi := getq_lt hx
  simp only [m74_l1]
  rw [if_pos hi, hx]
  simp only [Option.bind_some, m109]
  rw [if_pos (by have := h2 x (List.mem_of_getElem? hx); omega)]
  simp only [Option.bind_some]
  rw [if_pos (by omega)]
  simp
 ·intro k acc i hn
  simp only [m74_l1]
  rw [if_neg hn]
theorem m38_l1_eq (r : D_api_Record) (hl : r.Fields.length ≤ 10000) : ∀ (k i : Nat) (acc : List FD), i ≤ r.Fields.length → r.Fields.length < k + i → acc.length ≤ i → m38_l1 r k i acc = some ((r.Fields.drop i).foldl ins acc) := by
 intro k
 induction k with
 | zero => intro i acc h1 h2; omega
 | succ k ih =>
  intro i acc h1 h2 h3
  rw [m38_l1]
  by_cases hi : i < r.Fields.length
  ·rw [if_pos hi, List.getElem?_eq_getElem hi]
   simp only [Option.bind_some]
   rw [m75_eq _ _ (by omega)]
   simp only [Option.bind_some]
   rw [ih (i + 1) _ (by omega) (by omega) (by rw [ins_len]; omega), List.drop_eq_getElem_cons hi, List.foldl_cons]
  ·rw [if_neg hi, List.drop_eq_nil_of_le (by omega)]; rfl
theorem m38_eq (r : D_api_Record) (h1 : r.Fields.length ≤ 10000) (h2 : ∀ f ∈ r.Fields, f.Subs.length ≤ 100000) : m38 r = some ⟨r.ID, ssort r.Fields⟩ := by
 unfold m38
 rw [m74_eq _ (by simpa using (by omega : r.Fields.length ≤ 100000)) (by simpa using h2)]
 simp only [Option.bind_some]
 rw [m38_l1_eq _ (by simpa using h1) _ 0 [] (by omega) (by simp) (by simp), List.drop_zero]
 rfl
end Go.WK.S
