
/- Plain law 6: the reference's conversions and what it says that a map covers, as the program's. No program in sight but the models. -/
import Derived.Test.YtidmlhihfanglaaGreatDoorConvertPR2
import Derived.Test.YtidmlhihfanglaaGreatDoorConvertPG
set_option linter.unusedSimpArgs false
set_option linter.unusedVariables false
namespace Go.WK.S
open Go Go.Proofs Go.WK Go.RowKit
set_option maxRecDepth 100000
set_option linter.unusedVariables false
set_option linter.unusedSimpArgs false

/-! ### fields, as both convert them -/
def sub1 (l : List EP) (s : SD) : Option SD := (fC l s.Code).map fun p => ⟨p.To, s.Value⟩
def sub2 (l : List EP) (s : SD) : Option SD := (tC l s.Code).map fun p => ⟨p.From, s.Value⟩
def fldT (t : Str) (f : FD) (l : List SD) : Option FD := if 0 < l.length then some ⟨t, f.Ind_0, f.Ind_1, l⟩ else none
theorem cv6_to (m : List E) (f : FD) : cvF (toQ2 m) toQ3 f = (fE m f.Tag).bind (fun e => fldT e.To f (f.Subs.filterMap (sub1 e.Codes))) := by
 unfold cvF
 cases h : fE m f.Tag with
 | none =>
  have q : toQ2 m f.Tag = (noE, [], false) := by unfold toQ2; rw [h]; rfl
  have : f.Subs.filterMap (cvS toQ3 (toQ2 m f.Tag)) = [] := by
   rw [List.filterMap_eq_nil_iff]; intro s _; unfold cvS; rw [if_neg (fun hh => by rw [q] at hh; cases hh.1)]
  rw [this, if_neg (by simp)]; rfl
 | some e =>
  have q : toQ2 m f.Tag = (e, e.To, true) := by unfold toQ2; rw [h]; rfl
  have : cvS toQ3 (toQ2 m f.Tag) = sub1 e.Codes := by
   funext s
   unfold cvS sub1
   rw [q]
   simp only [toQ3]
   cases fC e.Codes s.Code with
   | none => simp [fo]
   | some p => simp [fo]
  rw [this, q]; rfl
theorem cv6_bk (m : List E) (f : FD) : cvF (bkQ2 m) bkQ3 f = (tE' m f.Tag).bind (fun e => fldT e.From f (f.Subs.filterMap (sub2 e.Codes))) := by
 unfold cvF
 cases h : tE' m f.Tag with
 | none =>
  have q : bkQ2 m f.Tag = (noE, [], false) := by unfold bkQ2; rw [h]; rfl
  have : f.Subs.filterMap (cvS bkQ3 (bkQ2 m f.Tag)) = [] := by
   rw [List.filterMap_eq_nil_iff]; intro s _; unfold cvS; rw [if_neg (fun hh => by rw [q] at hh; cases hh.1)]
  rw [this, if_neg (by simp)]; rfl
 | some e =>
  have q : bkQ2 m f.Tag = (e, e.From, true) := by unfold bkQ2; rw [h]; rfl
  have : cvS bkQ3 (bkQ2 m f.Tag) = sub2 e.Codes := by
   funext s
   unfold cvS sub2
   rw [q]
   simp only [bkQ3]
   cases tC e.Codes s.Code with
   | none => simp [fo]
   | some p => simp [fo]
  rw [this, q]; rfl
theorem tE_mem {m : List E} {t : Str} {e : E} (h : tE' m t = some e) : e ∈ m ∧ e.To = t := ⟨List.mem_of_find?_eq_some h, of_decide_eq_true (List.find?_some (p := fun e : E => decide (e.To = t)) h)⟩
theorem tC_mem {l : List EP} {c : UInt8} {p : EP} (h : tC l c = some p) : p ∈ l ∧ p.To = c := ⟨List.mem_of_find?_eq_some h, of_decide_eq_true (List.find?_some (p := fun p : EP => decide (p.To = c)) h)⟩
theorem m58_l2_to (m : List R) (f : FD) (n : Nat) (x : R) (hx : m[n]? = some x) (hg : Good (oE x)) (hl : f.Subs.length ≤ 1000000) :
  m58_l2 m false f (n : Int) (f.Subs.length + 1) 0 [] = some (f.Subs.filterMap (sub1 (oE x).Codes)) := by
 have L := foldOpt (xs := f.Subs) (lp := m58_l2 m false f (n : Int)) (sub1 (oE x).Codes) ?_ ?_ (f.Subs.length + 1) [] 0 (by omega) (by omega) (by simp)
 ·rw [L]; rfl
 ·intro k acc i s hs ha
  have hi := getq_lt hs
  rw [m58_l2, if_pos hi, at?_of hx]
  simp only [Option.bind_some]
  rw [hs]
  simp only [Option.bind_some]
  rw [m40_eq, show x.Codes.map oP = (oE x).Codes from rfl]
  simp only [Option.bind_some, sub1]
  cases hp : fC (oE x).Codes s.Code with
  | none => simp [fo, noP]
  | some p =>
   have := isC_iff.1 (hg.code (fC_mem hp).1).2
   rw [show (fo noP (some p)).1 = p from rfl, if_neg (by omega), if_pos (by omega)]; rfl
 ·intro k acc i hi
  rw [m58_l2, if_neg hi]
theorem m58_l2_bk (m : List R) (f : FD) (n : Nat) (x : R) (hx : m[n]? = some x) (hg : Good (oE x)) (hl : f.Subs.length ≤ 1000000) :
  m58_l2 m true f (n : Int) (f.Subs.length + 1) 0 [] = some (f.Subs.filterMap (sub2 (oE x).Codes)) := by
 have L := foldOpt (xs := f.Subs) (lp := m58_l2 m true f (n : Int)) (sub2 (oE x).Codes) ?_ ?_ (f.Subs.length + 1) [] 0 (by omega) (by omega) (by simp)
 ·rw [L]; rfl
 ·intro k acc i s hs ha
  have hi := getq_lt hs
  rw [m58_l2, if_pos hi, at?_of hx]
  simp only [Option.bind_some]
  rw [hs]
  simp only [Option.bind_some]
  rw [m40_eqT, show x.Codes.map oP = (oE x).Codes from rfl]
  simp only [Option.bind_some, sub2]
  cases hp : tC (oE x).Codes s.Code with
  | none => simp [fo, noP]
  | some p =>
   have := isC_iff.1 (hg.code (tC_mem hp).1).1
   rw [show (fo noP (some p)).1 = p from rfl, if_neg (by omega), if_pos (by omega)]; rfl
 ·intro k acc i hi
  rw [m58_l2, if_neg hi]
theorem m58_l1_to (m : List R) (r : RD) (hv : Val (m.map oE)) (h1 : r.Fields.length ≤ 1000000) (h2 : ∀ f ∈ r.Fields, f.Subs.length ≤ 1000000) :
  m58_l1 m r false (r.Fields.length + 1) 0 [] = some (r.Fields.filterMap (cvF (toQ2 (m.map oE)) toQ3)) := by
 have L := foldOpt (xs := r.Fields) (lp := m58_l1 m r false) (cvF (toQ2 (m.map oE)) toQ3) ?_ ?_ (r.Fields.length + 1) [] 0 (by omega) (by omega) (by simp)
 ·rw [L]; rfl
 ·intro k acc i f hx ha
  have hi := getq_lt hx
  rw [m58_l1, if_pos hi, hx, cv6_to]
  simp only [Option.bind_some]
  obtain ⟨j, hj, ⟨n, x, rfl, hn, h⟩ | ⟨rfl, h⟩⟩ := m39_eq m f.Tag
  ·rw [hj, h]
   simp only [Option.bind_some]
   rw [if_neg (by omega), at?_of hn]
   simp only [Option.bind_some, Bool.false_eq_true, if_false]
   rw [m58_l2_to m f n x hn (hv.good _ (fE_mem h).1) (h2 f (List.mem_of_getElem? hx))]
   simp only [Option.bind_some, fldT]
   by_cases h0 : 0 < (f.Subs.filterMap (sub1 (oE x).Codes)).length
   ·rw [if_pos h0, if_pos h0, if_pos (by omega)]; rfl
   ·rw [if_neg h0, if_neg h0]; simp
  ·rw [hj, h]
   simp only [Option.bind_some]
   rw [if_pos (by decide)]
   simp
 ·intro k acc i hi
  rw [m58_l1, if_neg hi]
theorem m58_l1_bk (m : List R) (r : RD) (hv : Val (m.map oE)) (h1 : r.Fields.length ≤ 1000000) (h2 : ∀ f ∈ r.Fields, f.Subs.length ≤ 1000000) :
  m58_l1 m r true (r.Fields.length + 1) 0 [] = some (r.Fields.filterMap (cvF (bkQ2 (m.map oE)) bkQ3)) := by
 have L := foldOpt (xs := r.Fields) (lp := m58_l1 m r true) (cvF (bkQ2 (m.map oE)) bkQ3) ?_ ?_ (r.Fields.length + 1) [] 0 (by omega) (by omega) (by simp)
 ·rw [L]; rfl
 ·intro k acc i f hx ha
  have hi := getq_lt hx
  rw [m58_l1, if_pos hi, hx, cv6_bk]
  simp only [Option.bind_some]
  obtain ⟨j, hj, ⟨n, x, rfl, hn, h⟩ | ⟨rfl, h⟩⟩ := m39_eqT m f.Tag
  ·rw [hj, h]
   simp only [Option.bind_some]
   rw [if_neg (by omega), at?_of hn]
   simp only [Option.bind_some, if_true]
   rw [m58_l2_bk m f n x hn (hv.good _ (tE_mem h).1) (h2 f (List.mem_of_getElem? hx))]
   simp only [Option.bind_some, fldT]
   by_cases h0 : 0 < (f.Subs.filterMap (sub2 (oE x).Codes)).length
   ·rw [if_pos h0, if_pos h0, if_pos (by omega)]; rfl
   ·rw [if_neg h0, if_neg h0]; simp
  ·rw [hj, h]
   simp only [Option.bind_some]
   rw [if_pos (by decide)]
   simp
 ·intro k acc i hi
  rw [m58_l1, if_neg hi]
theorem cv_small {q2 : Q2} {q3 : Q3} {f x : FD} (h : cvF q2 q3 f = some x) : x.Subs.length ≤ f.Subs.length := by
 unfold cvF at h
 split at h
 ·obtain rfl := Option.some.inj h
  exact List.length_filterMap_le _ _
 ·cases h
theorem m58_fin {m : List E} {r : RD} {q2 : Q2} {q3 : Q3} (hv : Val m) (hr : recOk r = true) (h1 : r.Fields.length ≤ 10000) (h2 : ∀ f ∈ r.Fields, f.Subs.length ≤ 100000) :
  (if (r.Fields.filterMap (cvF q2 q3)).length = 0 then some ((⟨0, []⟩ : RD), (9 : Int)) else (m38 ⟨r.ID, r.Fields.filterMap (cvF q2 q3)⟩).bind fun x => some ((⟨x.ID, x.Fields⟩ : RD), (0 : Int))) = some (conv m r q2 q3) := by
 have hvr : (val m && recOk r) = true := by rw [val_true hv, hr]; rfl
 unfold conv
 rw [if_pos hvr]
 by_cases h : r.Fields.filterMap (cvF q2 q3) = []
 ·rw [if_pos (show (r.Fields.filterMap (cvF q2 q3)).length = 0 by rw [h]; rfl), if_pos h]
 ·have hl := List.length_filterMap_le (cvF q2 q3) r.Fields
  rw [if_neg (show ¬ (r.Fields.filterMap (cvF q2 q3)).length = 0 from fun hh => h (List.length_eq_zero_iff.1 hh)), if_neg h, m38_eq _ (by simp only; omega) (fun x hx => by
   obtain ⟨f, hf, hfx⟩ := List.mem_filterMap.1 hx
   have := cv_small hfx
   have := h2 f hf
   omega)]
  rfl
theorem conv_bad {m : List E} {r : RD} {q2 : Q2} {q3 : Q3} (h : ¬ (Val m ∧ recOk r = true)) : conv m r q2 q3 = (⟨0, []⟩, 1) := by
 unfold conv
 rw [if_neg]
 intro hh
 rw [Bool.and_eq_true] at hh
 exact h ⟨val_iff.1 hh.1, hh.2⟩
theorem m58_to (m : List R) (r : RD) (h1 : r.Fields.length ≤ 10000) (h2 : ∀ f ∈ r.Fields, f.Subs.length ≤ 100000) (h3 : ∀ f ∈ r.Fields, Sml f) : m58 m r false = some (toP (m.map oE) r) := by
 unfold m58 toP
 rw [m24_eq]
 simp only [Option.bind_some]
 by_cases hv : Val (m.map oE)
 ·rw [if_pos (val_true hv), m25_eq (r := r) h3]
  simp only [Option.bind_some]
  by_cases hr : recOk r = true
  ·rw [if_pos hr, m58_l1_to m r hv (by omega) (fun f hf => by have := h2 f hf; omega)]
   simp only [Option.bind_some]
   exact m58_fin hv hr h1 h2
  ·rw [if_neg hr, conv_bad (fun h => hr h.2)]
 ·rw [if_neg (fun h => hv (val_iff.1 h)), conv_bad (fun h => hv h.1)]
theorem m58_bk (m : List R) (r : RD) (h1 : r.Fields.length ≤ 10000) (h2 : ∀ f ∈ r.Fields, f.Subs.length ≤ 100000) (h3 : ∀ f ∈ r.Fields, Sml f) : m58 m r true = some (bkP (m.map oE) r) := by
 unfold m58 bkP
 rw [m24_eq]
 simp only [Option.bind_some]
 by_cases hv : Val (m.map oE)
 ·rw [if_pos (val_true hv), m25_eq (r := r) h3]
  simp only [Option.bind_some]
  by_cases hr : recOk r = true
  ·rw [if_pos hr, m58_l1_bk m r hv (by omega) (fun f hf => by have := h2 f hf; omega)]
   simp only [Option.bind_some]
   exact m58_fin hv hr h1 h2
  ·rw [if_neg hr, conv_bad (fun h => hr h.2)]
 ·rw [if_neg (fun h => hv (val_iff.1 h)), conv_bad (fun h => hv h.1)]

theorem law6 (m : List R) (r : RD) (h1 : m.length ≤ 2513169434916) (h2 : ∀ x ∈ m, x.Codes.length ≤ 70368744177664) : m6 m r = some true := by
 unfold m6
 rw [awake_true]
 simp only [Option.bind_some, if_true]
 obtain ⟨b, hb⟩ := m11_ok m
 rw [hb]
 simp only [Option.bind_some]
 cases b with
 | false => exact if_neg Bool.false_ne_true
 | true =>
 obtain ⟨c, hc, few⟩ := m12_eq r 12
 rw [if_pos rfl, hc]
 simp only [Option.bind_some]
 cases c with
 | false => exact if_neg Bool.false_ne_true
 | true =>
 obtain ⟨f1, f2⟩ := few rfl
 have s1 : r.Fields.length < 20 := by omega
 have s2 : ∀ f ∈ r.Fields, f.Subs.length ≤ 100000 := fun f hf => by have := (f2 f hf).1; omega
 have s2' : ∀ f ∈ r.Fields, f.Subs.length ≤ 1000000 := fun f hf => by have := (f2 f hf).1; omega
 have s3 : ∀ f ∈ r.Fields, Sml f := fun f hf => (f2 f hf).sml
 rw [if_pos rfl, m15_eq m h1 h2]
 simp only [Option.bind_some]
 rw [m14_eq _ r s1 s2' s3, m16_eq _ r s1 s2' s3]
 have e28 : m28 m r = some (toP (m.map oE) r) := by unfold m28; rw [m58_to m r (by omega) s2 s3]; rfl
 have e29 : m29 m r = some (bkP (m.map oE) r) := by unfold m29; rw [m58_bk m r (by omega) s2 s3]; rfl
 simp only [Option.bind_some]
 rw [e28, e29]
 simp only [Option.bind_some, m18_eq, decide_true, if_true]
 obtain ⟨b1, hb1, c1⟩ := m13_eq m r (by omega) f2
 obtain ⟨b2, hb2, c2⟩ := m30_eq (m.map oE) r s1 s2' s3
 rw [hb1, hb2]
 simp only [Option.bind_some]
 have : b2 = b1 := by rw [Bool.eq_iff_iff, c1, c2]
 rw [this]
 simp
end Go.WK.S
