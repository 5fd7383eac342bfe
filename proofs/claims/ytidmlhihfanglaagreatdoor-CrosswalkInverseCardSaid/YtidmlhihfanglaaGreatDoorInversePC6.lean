/- Plain law: a field's conversion, as both convert it. No program in sight but the models. -/
import Derived.Test.YtidmlhihfanglaaGreatDoorInversePQ
set_option linter.unusedSimpArgs false
set_option linter.unusedVariables false
namespace Go.WK.S
open Go Go.Proofs Go.WK Go.RowKit
set_option maxRecDepth 100000
set_option linter.unusedVariables false
set_option linter.unusedSimpArgs false

/-! ### fields, as both convert them -/
def sub1 (l : List EP) (s : SD) : Option SD := (fC l s.Code).map fun p => ⟨p.To, s.Value⟩
def sub2 (l : List EP) (s : SD) : Option SD := (tC l s.Code).map fun p => ⟨p.From, s.Value⟩
def fldT (t : Str) (f : FD) (l : List SD) : Option FD := if 0 < l.length then some ⟨t, f.Ind_0, f.Ind_1, l⟩ else none
theorem cv6_to (m : List E) (f : FD) : cvF (toQ2 m) toQ3 f = (fE m f.Tag).bind (fun e => fldT e.To f (f.Subs.filterMap (sub1 e.Codes))) := by
 unfold cvF
 cases h : fE m f.Tag with
 | none =>
  have q : toQ2 m f.Tag = (noE, [], false) := by unfold toQ2; rw [h]; rfl
  have : f.Subs.filterMap (cvS toQ3 (toQ2 m f.Tag)) = [] := by
   rw [List.filterMap_eq_nil_iff]; intro s _; unfold cvS; rw [if_neg (fun hh => by rw [q] at hh; cases hh.1)]
  rw [this, if_neg (by simp)]; rfl
 | some e =>
  have q : toQ2 m f.Tag = (e, e.To, true) := by unfold toQ2; rw [h]; rfl
  have : cvS toQ3 (toQ2 m f.Tag) = sub1 e.Codes := by
   funext s
   unfold cvS sub1
   rw [q]
   simp only [toQ3]
   cases fC e.Codes s.Code with
   | none => simp [fo]
   | some p => simp [fo]
  rw [this, q]; rfl
theorem cv6_bk (m : List E) (f : FD) : cvF (bkQ2 m) bkQ3 f = (tE' m f.Tag).bind (fun e => fldT e.From f (f.Subs.filterMap (sub2 e.Codes))) := by
 unfold cvF
 cases h : tE' m f.Tag with
 | none =>
  have q : bkQ2 m f.Tag = (noE, [], false) := by unfold bkQ2; rw [h]; rfl
  have : f.Subs.filterMap (cvS bkQ3 (bkQ2 m f.Tag)) = [] := by
   rw [List.filterMap_eq_nil_iff]; intro s _; unfold cvS; rw [if_neg (fun hh => by rw [q] at hh; cases hh.1)]
  rw [this, if_neg (by simp)]; rfl
 | some e =>
  have q : bkQ2 m f.Tag = (e, e.From, true) := by unfold bkQ2; rw [h]; rfl
  have : cvS bkQ3 (bkQ2 m f.Tag) = sub2 e.Codes := by
   funext s
   unfold cvS sub2
   rw [q]
   simp only [bkQ3]
   cases tC e.Codes s.Code with
   | none => simp [fo]
   | some p => simp [fo]
  rw [this, q]; rfl
theorem tE_mem {m : List E} {t : Str} {e : E} (h : tE' m t = some e) : e ∈ m ∧ e.To = t := ⟨List.mem_of_find?_eq_some h, of_decide_eq_true (List.find?_some (p := fun e : E => decide (e.To = t)) h)⟩
end Go.WK.S
