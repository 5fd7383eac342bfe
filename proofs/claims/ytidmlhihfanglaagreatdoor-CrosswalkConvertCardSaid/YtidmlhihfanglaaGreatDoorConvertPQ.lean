
/- Plain law: places in maps, conversion, lossless maps, what a map covers. No program in sight but the models. -/
import Derived.Test.YtidmlhihfanglaaGreatDoorConvertPR
set_option linter.unusedSimpArgs false
set_option linter.unusedVariables false
namespace Go.WK.S
open Go Go.Proofs Go.WK Go.RowKit
set_option maxRecDepth 100000
set_option linter.unusedVariables false
set_option linter.unusedSimpArgs false

/-! ### places -/
def noE : E := ⟨[], [], []⟩
def noP : EP := ⟨0, 0⟩
def fo {α : Type} (d : α) : Option α → α × Bool
  | some x => (x, true)
  | none => (d, false)
theorem m78_eq (m : List E) (p : E → Bool) : m78 m (fun y => some (p y)) = some (fo noE (m.find? p)) := by
 unfold m78 m111
 have L := findLoop (xs := m) (lp := m111_l1 m (fun y => some (p y))) p (fun i _ => (i : Int)) ?_ ?_ ?_ (m.length + 1) 0 (by omega) (by omega)
 ·rw [List.drop_zero] at L
  rcases L with ⟨j, x, hj, hf, e⟩ | ⟨hf, e⟩
  ·rw [e, hf]
   simp only [Option.bind_some]
   rw [if_pos (by omega), at?_of hj]; rfl
  ·rw [e, hf]; rfl
 ·intro k i x hx h
  rw [m111_l1, if_pos (getq_lt hx), hx]
  simp only [Option.bind_some, h, if_true]
 ·intro k i x hx h
  rw [m111_l1, if_pos (getq_lt hx), hx]
  simp only [Option.bind_some, h]; rfl
 ·intro k i hi
  rw [m111_l1, if_neg hi]
theorem m80_eq (m : List EP) (p : EP → Bool) : m80 m (fun y => some (p y)) = some (fo noP (m.find? p)) := by
 unfold m80 m112
 have L := findLoop (xs := m) (lp := m112_l1 m (fun y => some (p y))) p (fun i _ => (i : Int)) ?_ ?_ ?_ (m.length + 1) 0 (by omega) (by omega)
 ·rw [List.drop_zero] at L
  rcases L with ⟨j, x, hj, hf, e⟩ | ⟨hf, e⟩
  ·rw [e, hf]
   simp only [Option.bind_some]
   rw [if_pos (by omega), at?_of hj]; rfl
  ·rw [e, hf]; rfl
 ·intro k i x hx h
  rw [m112_l1, if_pos (getq_lt hx), hx]
  simp only [Option.bind_some, h, if_true]
 ·intro k i x hx h
  rw [m112_l1, if_pos (getq_lt hx), hx]
  simp only [Option.bind_some, h]; rfl
 ·intro k i hi
  rw [m112_l1, if_neg hi]
def fE (m : List E) (t : Str) : Option E := m.find? fun e => decide (e.From = t)
def tE' (m : List E) (t : Str) : Option E := m.find? fun e => decide (e.To = t)
def fC (l : List EP) (c : UInt8) : Option EP := l.find? fun p => decide (p.From = c)
def tC (l : List EP) (c : UInt8) : Option EP := l.find? fun p => decide (p.To = c)
theorem dec_u8 (a b : UInt8) : decide ((a.toNat : Int) = (b.toNat : Int)) = decide (a = b) := by
 by_cases h : a = b
 ·subst h; simp
 ·rw [decide_eq_false h, decide_eq_false]
  intro hh
  exact h (UInt8.toNat_inj.1 (by omega))
theorem m43_eq (m : List E) (t : Str) : m43 m t = some (fo noE (fE m t)) := by
 unfold m43
 show (m78 m (fun y => some (decide (y.From = t)))).bind _ = _
 rw [m78_eq]; rfl
theorem m46_eq (m : List E) (t : Str) : m46 m t = some (fo noE (tE' m t)) := by
 unfold m46
 show (m78 m (fun y => some (decide (y.To = t)))).bind _ = _
 rw [m78_eq]; rfl
theorem m44_eq (e : E) (c : UInt8) : m44 e c = some ((fo noP (fC e.Codes c)).1.To, (fo noP (fC e.Codes c)).2) := by
 unfold m44
 have : (fun y0 => m81 y0 c) = fun y : EP => some (decide (y.From = c)) := by funext y; simp only [m81, dec_u8]
 rw [this, m80_eq]; rfl
theorem m47_eq (e : E) (c : UInt8) : m47 e c = some ((fo noP (tC e.Codes c)).1.From, (fo noP (tC e.Codes c)).2) := by
 unfold m47
 have : (fun y0 => m83 y0 c) = fun y : EP => some (decide (y.To = c)) := by funext y; simp only [m83, dec_u8]
 rw [this, m80_eq]; rfl
theorem m42_eq (m : List E) (t : Str) : m42 t m = some ((fo noE (fE m t)).1, (fo noE (fE m t)).1.To, (fo noE (fE m t)).2) := by
 unfold m42; rw [m43_eq]; rfl

/-! ### conversion -/
abbrev Q2 := Str → E × Str × Bool
abbrev Q3 := E → UInt8 → UInt8 × Bool
def cvS (q3 : Q3) (x : E × Str × Bool) (s : SD) : Option SD := if x.2.2 = true ∧ (q3 x.1 s.Code).2 = true then some ⟨(q3 x.1 s.Code).1, s.Value⟩ else none
def cvF (q2 : Q2) (q3 : Q3) (f : FD) : Option FD := if 0 < (f.Subs.filterMap (cvS q3 (q2 f.Tag))).length then some ⟨(q2 f.Tag).2.1, f.Ind_0, f.Ind_1, f.Subs.filterMap (cvS q3 (q2 f.Tag))⟩ else none
theorem foldOpt {α β : Type} {xs : List α} {lp : Nat → Nat → List β → Option (List β)} (f : α → Option β)
  (h1 : ∀ k acc i x, xs[i]? = some x → acc.length ≤ i → lp (k + 1) i acc = lp k (i + 1) (acc ++ (f x).toList))
  (h3 : ∀ k acc i, ¬ i < xs.length → lp (k + 1) i acc = some acc) :
  ∀ k acc i, i ≤ xs.length → xs.length < k + i → acc.length ≤ i → lp k i acc = some (acc ++ (xs.drop i).filterMap f) := by
 intro k
 induction k with
 | zero => intro acc i hi hk ha; omega
 | succ k ih =>
  intro acc i hi hk ha
  by_cases hn : i < xs.length
  ·have hl : (f xs[i]).toList.length ≤ 1 := by cases f xs[i] <;> simp
   rw [h1 k acc i xs[i] (List.getElem?_eq_getElem hn) ha, ih _ _ (by omega) (by omega) (by simp only [List.length_append]; omega), List.drop_eq_getElem_cons hn, List.filterMap_cons]
   cases f xs[i] <;> simp
  ·rw [h3 k acc i hn, List.drop_eq_nil_of_le (by omega)]; simp
theorem m41_l2_eq (q3 : Q3) (f : FD) (x : E × Str × Bool) (hs : f.Subs.length ≤ 1000000) : m41_l2 (fun e c => some (q3 e c)) f x (f.Subs.length + 1) 0 [] = some (f.Subs.filterMap (cvS q3 x)) := by
 have L := foldOpt (xs := f.Subs) (lp := m41_l2 (fun e c => some (q3 e c)) f x) (cvS q3 x) ?_ ?_ (f.Subs.length + 1) [] 0 (by omega) (by omega) (by simp)
 ·rw [L]; rfl
 ·intro k acc i s hx ha
  have hi := getq_lt hx
  rw [m41_l2, if_pos hi, hx]
  simp only [Option.bind_some, cvS]
  by_cases h1 : x.2.2 = true
  ·rw [if_pos h1]
   have e0 : (⟨x.1.From, x.1.To, x.1.Codes⟩ : E) = x.1 := rfl
   rw [e0]
   by_cases h2 : (q3 x.1 s.Code).2 = true
   ·rw [if_pos h2, if_pos (by omega), if_pos ⟨h1, h2⟩]; rfl
   ·rw [if_neg h2, if_neg (fun hh => h2 hh.2)]; simp
  ·rw [if_neg h1, if_neg (fun hh => h1 hh.1)]; simp
 ·intro k acc i hi
  rw [m41_l2, if_neg hi]
theorem m41_l1_eq (q2 : Q2) (q3 : Q3) (r : RD) (h1 : r.Fields.length ≤ 1000000) (h2 : ∀ f ∈ r.Fields, f.Subs.length ≤ 1000000) :
  m41_l1 r (fun t => some (q2 t)) (fun e c => some (q3 e c)) (r.Fields.length + 1) 0 [] = some (r.Fields.filterMap (cvF q2 q3)) := by
 have L := foldOpt (xs := r.Fields) (lp := m41_l1 r (fun t => some (q2 t)) (fun e c => some (q3 e c))) (cvF q2 q3) ?_ ?_ (r.Fields.length + 1) [] 0 (by omega) (by omega) (by simp)
 ·rw [L]; rfl
 ·intro k acc i f hx ha
  have hi := getq_lt hx
  rw [m41_l1, if_pos hi, hx]
  simp only [Option.bind_some]
  rw [m41_l2_eq q3 f _ (h2 f (List.mem_of_getElem? hx))]
  simp only [Option.bind_some, cvF]
  by_cases h : 0 < (f.Subs.filterMap (cvS q3 (q2 f.Tag))).length
  ·rw [if_pos h, if_pos h, if_pos (by omega)]; rfl
  ·rw [if_neg h, if_neg h]; simp
 ·intro k acc i hi
  rw [m41_l1, if_neg hi]
/-- The converted record and the code. -/
noncomputable def conv (m : List E) (r : RD) (q2 : Q2) (q3 : Q3) : RD × Int :=
  if val m && recOk r then
    if r.Fields.filterMap (cvF q2 q3) = [] then (⟨0, []⟩, 9) else (⟨r.ID, ssort (r.Fields.filterMap (cvF q2 q3))⟩, 0)
  else (⟨0, []⟩, 1)
theorem m41_eq (m : List E) (r : RD) (q2 : Q2) (q3 : Q3) (h1 : r.Fields.length < 20) (h2 : ∀ f ∈ r.Fields, f.Subs.length ≤ 1000000) (h3 : ∀ f ∈ r.Fields, Sml f) :
  m41 m r (fun t => some (q2 t)) (fun e c => some (q3 e c)) = some (conv m r q2 q3) := by
 unfold m41 conv
 rw [m27_eq]
 simp only [Option.bind_some]
 by_cases hv : val m = true
 ·rw [if_pos hv, m59_eq (by simpa using h3)]
  simp only [Option.bind_some]
  by_cases hr : recOk r = true
  ·rw [if_pos hr, if_pos (by rw [hv, hr]; rfl), m41_l1_eq q2 q3 r (by omega) h2]
   simp only [Option.bind_some]
   by_cases he : r.Fields.filterMap (cvF q2 q3) = []
   ·rw [if_pos he, he]; rfl
   ·have hl : (r.Fields.filterMap (cvF q2 q3)).length ≤ r.Fields.length := List.length_filterMap_le _ _
    rw [if_neg (fun h => he (List.length_eq_zero_iff.1 h)), if_neg he, m76_eq m77_cmp (by omega)]
    rfl
  ·rw [if_neg hr, if_neg (by simp [hr])]
 ·rw [if_neg hv, if_neg (by simp [hv])]
def toQ2 (m : List E) : Q2 := fun t => ((fo noE (fE m t)).1, (fo noE (fE m t)).1.To, (fo noE (fE m t)).2)
def toQ3 : Q3 := fun e c => ((fo noP (fC e.Codes c)).1.To, (fo noP (fC e.Codes c)).2)
def bkQ2 (m : List E) : Q2 := fun t => ((fo noE (tE' m t)).1, (fo noE (tE' m t)).1.From, (fo noE (tE' m t)).2)
def bkQ3 : Q3 := fun e c => ((fo noP (tC e.Codes c)).1.From, (fo noP (tC e.Codes c)).2)
noncomputable def toP (m : List E) (r : RD) : RD × Int := conv m r (toQ2 m) toQ3
noncomputable def bkP (m : List E) (r : RD) : RD × Int := conv m r (bkQ2 m) bkQ3
theorem m14_eq (m : List E) (r : RD) (h1 : r.Fields.length < 20) (h2 : ∀ f ∈ r.Fields, f.Subs.length ≤ 1000000) (h3 : ∀ f ∈ r.Fields, Sml f) : m14 m r = some (toP m r) := by
 unfold m14
 have e1 : (fun y0 => m42 y0 m) = fun t => some (toQ2 m t) := by funext t; exact m42_eq m t
 have e2 : m44 = fun e c => some (toQ3 e c) := by funext e c; exact m44_eq e c
 rw [e1, e2, m41_eq m _ _ _ h1 h2 h3]; rfl

/-! ### lossless maps -/
theorem fo_some {α : Type} {d : α} {o : Option α} : (fo d o).2 = true ↔ o ≠ none := by cases o <;> simp [fo]
/-! ### more of maps and records -/
theorem Good.code {e : E} (h : Good e) {p : EP} (hp : p ∈ e.Codes) : isC p.From = true ∧ isC p.To = true := by
 obtain ⟨i, hi⟩ := List.mem_iff_getElem?.1 hp
 have := h.1 i (getq_lt hi) p hi
 exact ⟨this.1, this.2.1⟩
theorem fE_mem {m : List E} {t : Str} {e : E} (h : fE m t = some e) : e ∈ m ∧ e.From = t := ⟨List.mem_of_find?_eq_some h, of_decide_eq_true (List.find?_some (p := fun e : E => decide (e.From = t)) h)⟩
theorem fC_mem {l : List EP} {c : UInt8} {p : EP} (h : fC l c = some p) : p ∈ l ∧ p.From = c := ⟨List.mem_of_find?_eq_some h, of_decide_eq_true (List.find?_some (p := fun p : EP => decide (p.From = c)) h)⟩
theorem m11_ok (m : List R) : ∃ b, m11 m = some b := by
 unfold m11
 have L : ∀ k i, i ≤ m.length → m.length < k + i → ∃ fl, m11_l1 m k i = some fl := by
  intro k
  induction k with
  | zero => intro i h1 h2; omega
  | succ k ih =>
   intro i h1 h2
   rw [m11_l1]
   by_cases hi : i < m.length
   ·obtain ⟨x, hx⟩ := getq hi
    have := ih (i + 1) (by omega) (by omega)
    rw [if_pos hi, hx]
    simp only [Option.bind_some]
    repeat' split
    all_goals first | exact this | exact ⟨_, rfl⟩
   ·rw [if_neg hi]; exact ⟨_, rfl⟩
 obtain ⟨fl, h⟩ := L (m.length + 1) 0 (by omega) (by omega)
 rw [h]
 cases fl with
 | ret x => exact ⟨x, rfl⟩
 | go x =>
  simp only [Option.bind_some]
  repeat' split
  all_goals exact ⟨_, rfl⟩

/-! ### maps, by pairs -/
end Go.WK.S
