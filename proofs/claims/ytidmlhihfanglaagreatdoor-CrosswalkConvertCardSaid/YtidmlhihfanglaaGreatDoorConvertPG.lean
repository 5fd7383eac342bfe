
/- Plain law: the program's canonical form, its equality, what it says that a map covers. No program in sight but the models. -/
import Derived.Test.YtidmlhihfanglaaGreatDoorConvertPD
set_option linter.unusedSimpArgs false
set_option linter.unusedVariables false
namespace Go.WK.S
open Go Go.Proofs Go.WK Go.RowKit
set_option maxRecDepth 100000
set_option linter.unusedVariables false
set_option linter.unusedSimpArgs false

theorem cmpB : ∀ a b : Str, (Lib.compareBytes a b < 0 ↔ lt a b)
 | [], [] => by simp [Lib.compareBytes, lt, Op.bytesLess]
 | [], _ :: _ => by simp [Lib.compareBytes, lt, Op.bytesLess]
 | _ :: _, [] => by simp [Lib.compareBytes, lt, Op.bytesLess]
 | a :: x, b :: y => by
  have ih := cmpB x y
  simp only [lt] at ih
  simp only [Lib.compareBytes, lt, Op.bytesLess, Bool.or_eq_true, Bool.and_eq_true, decide_eq_true_eq, beq_iff_eq]
  by_cases h1 : a < b
  ·rw [if_pos h1]; simp [h1]
  ·rw [if_neg h1]
   by_cases h2 : b < a
   ·rw [if_pos h2]
    have : a ≠ b := fun e => by subst e; exact UInt8.lt_irrefl _ h2
    simp [h1, this]
   ·rw [if_neg h2, ih]
    have : a = b := UInt8.le_antisymm (UInt8.not_lt.1 h2) (UInt8.not_lt.1 h1)
    simp [this]
theorem m100_cmp : Cmp m100 := fun a b => ⟨_, rfl, cmpB a.Tag b.Tag⟩
theorem m99_eq {r : RD} (h1 : r.Fields.length ≤ 1000000) (h2 : ∀ f ∈ r.Fields, f.Subs.length ≤ 1000000) : m99 r = some r := by
 have L := foldMap (xs := r.Fields) (lp := fun k acc i => m99_l1 r k i acc) id ?_ ?_ (r.Fields.length + 1) [] 0 (by omega) (by omega) (by simp)
 ·unfold m99
  rw [L]
  simp
 ·intro k acc i x hx ha
  have hi := getq_lt hx
  simp only [m99_l1]
  rw [if_pos hi, hx]
  simp only [Option.bind_some, m123, m157]
  rw [if_pos (by have := h2 x (List.mem_of_getElem? hx); omega)]
  simp only [Option.bind_some]
  rw [if_pos (by omega)]
  rfl
 ·intro k acc i hn
  simp only [m99_l1]
  rw [if_neg hn]
theorem m61_eq {r : RD} (h1 : r.Fields.length < 20) (h2 : ∀ f ∈ r.Fields, f.Subs.length ≤ 1000000) : m61 r = some ⟨r.ID, ssort r.Fields⟩ := by
 unfold m61
 rw [m99_eq (by simpa using (by omega : r.Fields.length ≤ 1000000)) (by simpa using h2)]
 simp only [Option.bind_some]
 rw [m76_eq m100_cmp (by simpa using h1)]
 rfl
theorem m97_eq (a b : List SD) : m97 a b = some (decide (a = b)) := by
 unfold m97
 by_cases h3 : a.length = b.length
 ·rw [if_pos h3]
  have L := chk (lp := m97_l1 a b) (n := a.length) (fun j => a[j]? = b[j]?) false ?_ ?_ ?_ (a.length + 1) 0 (by omega) (by omega)
  ·rw [ext_get h3] at L
   by_cases h4 : a = b
   ·rw [L.1 h4, decide_eq_true h4]; rfl
   ·rw [L.2 h4, decide_eq_false h4]; rfl
  ·intro k i hi hc
   obtain ⟨x, hx⟩ := getq hi
   rw [m97_l1, if_pos hi, ← hc, hx]
   simp
  ·intro k i hi hc
   obtain ⟨x, hx⟩ := getq hi
   obtain ⟨y, hy⟩ := getq (xs := b) (i := i) (by omega)
   rw [m97_l1, if_pos hi, hx, hy]
   simp only [Option.bind_some]
   rw [if_neg]
   intro hh
   rw [Bool.and_eq_true, decide_eq_true_eq, decide_eq_true_eq] at hh
   apply hc
   rw [hx, hy]
   obtain ⟨c, v⟩ := x
   obtain ⟨d, w⟩ := y
   simp only at hh
   have : c = d := UInt8.toNat_inj.1 (by omega)
   simp_all
  ·intro k i hi
   rw [m97_l1, if_neg hi]
 ·rw [if_neg h3, decide_eq_false (fun e => h3 (by rw [e]))]
theorem m96_eq (a b : FD) : m96 a b = some (decide (a = b)) := by
 unfold m96
 have ne : a.Tag ≠ b.Tag ∨ a.Ind_0 ≠ b.Ind_0 ∨ a.Ind_1 ≠ b.Ind_1 ∨ a.Subs ≠ b.Subs → decide (a = b) = false := by
  intro h
  apply decide_eq_false
  rintro rfl
  simp at h
 by_cases h1 : a.Tag = b.Tag
 ·rw [if_pos h1]
  by_cases h2 : a.Ind_0 = b.Ind_0 ∧ a.Ind_1 = b.Ind_1
  ·rw [if_pos (by rw [h2.1, h2.2]; simp), m97_eq]
   simp only [Option.bind_some]
   by_cases h4 : a.Subs = b.Subs
   ·rw [decide_eq_true h4, decide_eq_true (by cases a; cases b; simp_all)]
   ·rw [decide_eq_false h4, ne (.inr (.inr (.inr h4)))]
  ·rw [if_neg, ne]
   ·by_cases h3 : a.Ind_0 = b.Ind_0
    ·exact .inr (.inr (.inl (fun e => h2 ⟨h3, e⟩)))
    ·exact .inr (.inl h3)
   ·intro hh
    rw [Bool.and_eq_true, decide_eq_true_eq, decide_eq_true_eq] at hh
    exact h2 ⟨UInt8.toNat_inj.1 (by omega), UInt8.toNat_inj.1 (by omega)⟩
 ·rw [if_neg h1, ne (.inl h1)]
theorem m98_eq (a b : List FD) : m98 a b m96 = some (decide (a = b)) := by
 unfold m98
 by_cases h3 : a.length = b.length
 ·rw [if_pos h3]
  have L := chk (lp := m98_l1 a b m96) (n := a.length) (fun j => a[j]? = b[j]?) false ?_ ?_ ?_ (a.length + 1) 0 (by omega) (by omega)
  ·rw [ext_get h3] at L
   by_cases h4 : a = b
   ·rw [L.1 h4, decide_eq_true h4]; rfl
   ·rw [L.2 h4, decide_eq_false h4]; rfl
  ·intro k i hi hc
   obtain ⟨x, hx⟩ := getq hi
   rw [m98_l1, if_pos hi, ← hc, hx]
   simp only [Option.bind_some, m96_eq, decide_true, if_true]
  ·intro k i hi hc
   obtain ⟨x, hx⟩ := getq hi
   obtain ⟨y, hy⟩ := getq (xs := b) (i := i) (by omega)
   rw [m98_l1, if_pos hi, hx, hy]
   simp only [Option.bind_some, m96_eq]
   rw [if_neg]
   intro hh
   exact hc (by rw [hx, hy]; exact congrArg some (of_decide_eq_true hh))
  ·intro k i hi
   rw [m98_l1, if_neg hi]
 ·rw [if_neg h3, decide_eq_false (fun e => h3 (by rw [e]))]
theorem m60_eq (a b : RD) : m60 a b = some (decide (a = b)) := by
 unfold m60
 by_cases h : a.ID = b.ID
 ·rw [if_pos h, m98_eq]
  simp only [Option.bind_some]
  congr 1
  cases a; cases b; simp_all
 ·rw [if_neg h, decide_eq_false (fun e => h (by rw [e]))]

/-! ### covers, the program's -/
theorem covF_iff {m : List E} (hv : Val m) (f : FD) : CovF m f ↔ ∃ e, fE m f.Tag = some e ∧ ∀ s ∈ f.Subs, fC e.Codes s.Code ≠ none := by
 constructor
 ·rintro ⟨e, he, h⟩
  refine ⟨e, he, fun s hs hn => h s hs ?_⟩
  rw [hn]; rfl
 ·rintro ⟨e, he, h⟩
  refine ⟨e, he, fun s hs => ?_⟩
  cases hp : fC e.Codes s.Code with
  | none => exact absurd hp (h s hs)
  | some p =>
   have := isC_iff.1 ((hv.good e (fE_mem he).1).code (fC_mem hp).1).2
   show p.To.toNat ≠ 0
   omega
theorem m30_l1_eq {m : List E} (hv : Val m) (r : RD) : ((∀ f ∈ r.Fields, CovF m f) → m30_l1 m r (r.Fields.length + 1) 0 = some (.go ())) ∧ (¬ (∀ f ∈ r.Fields, CovF m f) → m30_l1 m r (r.Fields.length + 1) 0 = some (.ret false)) := by
 have anyf : ∀ (e : E) (l : List SD), (l.any fun s => !(fo noP (fC e.Codes s.Code)).2) = true ↔ ¬ ∀ s ∈ l, fC e.Codes s.Code ≠ none := by
  intro e l
  rw [any_not, Bool.not_eq_true', Bool.eq_false_iff, Ne, List.all_eq_true]
  constructor
  ·intro h hh; exact h (fun s hs => fo_some.2 (hh s hs))
  ·intro h hh; exact h (fun s hs => fo_some.1 (hh s hs))
 have L := chk (lp := m30_l1 m r) (n := r.Fields.length) (fun j => ∀ f, r.Fields[j]? = some f → CovF m f) false ?_ ?_ ?_ (r.Fields.length + 1) 0 (by omega) (by omega)
 ·rw [all_get] at L; exact L
 ·intro k i hi hc
  obtain ⟨f, hf⟩ := getq hi
  obtain ⟨e, he, hs⟩ := (covF_iff hv f).1 (hc f hf)
  rw [m30_l1, if_pos hi, hf]
  simp only [Option.bind_some]
  rw [m43_eq, he]
  simp only [Option.bind_some, fo, if_true]
  rw [m62_eq (fun s => !(fo noP (fC e.Codes s.Code)).2) (fun s _ => by show (m44 e s.Code).bind _ = _; rw [m44_eq]; rfl)]
  simp only [Option.bind_some]
  rw [if_neg (fun h => (anyf e f.Subs).1 h hs)]
 ·intro k i hi hc
  obtain ⟨f, hf⟩ := getq hi
  have hn : ¬ CovF m f := fun h => hc (fun f' hf' => by obtain rfl := Option.some.inj (hf.symm.trans hf'); exact h)
  rw [covF_iff hv] at hn
  rw [m30_l1, if_pos hi, hf]
  simp only [Option.bind_some]
  rw [m43_eq]
  cases he : fE m f.Tag with
  | none => rfl
  | some e =>
   simp only [Option.bind_some, fo, if_true]
   rw [m62_eq (fun s => !(fo noP (fC e.Codes s.Code)).2) (fun s _ => by show (m44 e s.Code).bind _ = _; rw [m44_eq]; rfl)]
   simp only [Option.bind_some]
   rw [if_pos ((anyf e f.Subs).2 (fun h => hn ⟨e, he, h⟩))]
 ·intro k i hi
  rw [m30_l1, if_neg hi]
theorem m30_eq (m : List E) (r : RD) (h1 : r.Fields.length < 20) (h2 : ∀ f ∈ r.Fields, f.Subs.length ≤ 1000000) (h3 : ∀ f ∈ r.Fields, Sml f) : ∃ b, m30 m r = some b ∧ (b = true ↔ Cov m r) := by
 unfold m30
 rw [m27_eq]
 simp only [Option.bind_some]
 by_cases hv : Val m
 ·rw [if_pos (val_true hv), m59_eq (r := r) h3]
  simp only [Option.bind_some]
  by_cases hr : recOk r = true
  ·rw [if_pos hr, m61_eq (r := r) h1 h2]
   simp only [Option.bind_some]
   rw [m60_eq]
   simp only [Option.bind_some]
   by_cases hs : ssort r.Fields = r.Fields
   ·rw [if_pos (by rw [hs]; exact decide_eq_true rfl)]
    by_cases hc : ∀ f ∈ r.Fields, CovF m f
    ·rw [(m30_l1_eq hv r).1 hc]
     exact ⟨_, rfl, fun _ => ⟨hv, hr, hs, hc⟩, fun _ => rfl⟩
    ·rw [(m30_l1_eq hv r).2 hc]
     exact ⟨_, rfl, fun h => (by cases h), fun h => absurd h.2.2.2 hc⟩
   ·rw [if_neg]
    ·exact ⟨_, rfl, fun h => (by cases h), fun h => absurd h.2.2.1 hs⟩
    ·intro hh
     exact hs (congrArg D_api_Record.Fields (of_decide_eq_true hh))
  ·rw [if_neg hr]
   exact ⟨_, rfl, fun h => (by cases h), fun h => absurd h.2.1 hr⟩
 ·rw [if_neg (fun h => hv (val_iff.1 h))]
  exact ⟨_, rfl, fun h => (by cases h), fun h => absurd h.1 hv⟩
end Go.WK.S
