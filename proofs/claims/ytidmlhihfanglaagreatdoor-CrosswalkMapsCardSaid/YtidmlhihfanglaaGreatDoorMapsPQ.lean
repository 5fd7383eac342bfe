/- Plain law: places in maps, conversion, lossless maps, what a map covers. No program in sight but the models. -/
import Derived.Test.YtidmlhihfanglaaGreatDoorMapsPR
set_option linter.unusedSimpArgs false
set_option linter.unusedVariables false
namespace Go.WK.S
open Go Go.Proofs Go.WK Go.RowKit
set_option maxRecDepth 100000
set_option linter.unusedVariables false
set_option linter.unusedSimpArgs false

/-! ### places -/
def noE : E := ⟨[], [], []⟩
def noP : EP := ⟨0, 0⟩
def fo {α : Type} (d : α) : Option α → α × Bool
  | some x => (x, true)
  | none => (d, false)
theorem m78_eq (m : List E) (p : E → Bool) : m78 m (fun y => some (p y)) = some (fo noE (m.find? p)) := by
 unfold m78 m111
 have L := findLoop (xs := m) (lp := m111_l1 m (fun y => some (p y))) p (fun i _ => (i : Int)) ?_ ?_ ?_ (m.length + 1) 0 (by omega) (by omega)
 ·rw [List.drop_zero] at L
  rcases L with ⟨j, x, hj, hf, e⟩ | ⟨hf, e⟩
  ·rw [e, hf]
   simp only [Option.bind_some]
   rw [if_pos (by omega), at?_of hj]; rfl
  ·rw [e, hf]; rfl
 ·intro k i x hx h
  rw [m111_l1, if_pos (getq_lt hx), hx]
  simp only [Option.bind_some, h, if_true]
 ·intro k i x hx h
  rw [m111_l1, if_pos (getq_lt hx), hx]
  simp only [Option.bind_some, h]; rfl
 ·intro k i hi
  rw [m111_l1, if_neg hi]
theorem m80_eq (m : List EP) (p : EP → Bool) : m80 m (fun y => some (p y)) = some (fo noP (m.find? p)) := by
 unfold m80 m112
 have L := findLoop (xs := m) (lp := m112_l1 m (fun y => some (p y))) p (fun i _ => (i : Int)) ?_ ?_ ?_ (m.length + 1) 0 (by omega) (by omega)
 ·rw [List.drop_zero] at L
  rcases L with ⟨j, x, hj, hf, e⟩ | ⟨hf, e⟩
  ·rw [e, hf]
   simp only [Option.bind_some]
   rw [if_pos (by omega), at?_of hj]; rfl
  ·rw [e, hf]; rfl
 ·intro k i x hx h
  rw [m112_l1, if_pos (getq_lt hx), hx]
  simp only [Option.bind_some, h, if_true]
 ·intro k i x hx h
  rw [m112_l1, if_pos (getq_lt hx), hx]
  simp only [Option.bind_some, h]; rfl
 ·intro k i hi
  rw [m112_l1, if_neg hi]
def fE (m : List E) (t : Str) : Option E := m.find? fun e => decide (e.From = t)
def tE' (m : List E) (t : Str) : Option E := m.find? fun e => decide (e.To = t)
def fC (l : List EP) (c : UInt8) : Option EP := l.find? fun p => decide (p.From = c)
def tC (l : List EP) (c : UInt8) : Option EP := l.find? fun p => decide (p.To = c)
theorem dec_u8 (a b : UInt8) : decide ((a.toNat : Int) = (b.toNat : Int)) = decide (a = b) := by
 by_cases h : a = b
 ·subst h; simp
 ·rw [decide_eq_false h, decide_eq_false]
  intro hh
  exact h (UInt8.toNat_inj.1 (by omega))
theorem m43_eq (m : List E) (t : Str) : m43 m t = some (fo noE (fE m t)) := by
 unfold m43
 show (m78 m (fun y => some (decide (y.From = t)))).bind _ = _
 rw [m78_eq]; rfl
theorem m46_eq (m : List E) (t : Str) : m46 m t = some (fo noE (tE' m t)) := by
 unfold m46
 show (m78 m (fun y => some (decide (y.To = t)))).bind _ = _
 rw [m78_eq]; rfl
theorem m44_eq (e : E) (c : UInt8) : m44 e c = some ((fo noP (fC e.Codes c)).1.To, (fo noP (fC e.Codes c)).2) := by
 unfold m44
 have : (fun y0 => m81 y0 c) = fun y : EP => some (decide (y.From = c)) := by funext y; simp only [m81, dec_u8]
 rw [this, m80_eq]; rfl
theorem m47_eq (e : E) (c : UInt8) : m47 e c = some ((fo noP (tC e.Codes c)).1.From, (fo noP (tC e.Codes c)).2) := by
 unfold m47
 have : (fun y0 => m83 y0 c) = fun y : EP => some (decide (y.To = c)) := by funext y; simp only [m83, dec_u8]
 rw [this, m80_eq]; rfl
/-! ### conversion -/
abbrev Q2 := Str → E × Str × Bool
abbrev Q3 := E → UInt8 → UInt8 × Bool
def cvS (q3 : Q3) (x : E × Str × Bool) (s : SD) : Option SD := if x.2.2 = true ∧ (q3 x.1 s.Code).2 = true then some ⟨(q3 x.1 s.Code).1, s.Value⟩ else none
def cvF (q2 : Q2) (q3 : Q3) (f : FD) : Option FD := if 0 < (f.Subs.filterMap (cvS q3 (q2 f.Tag))).length then some ⟨(q2 f.Tag).2.1, f.Ind_0, f.Ind_1, f.Subs.filterMap (cvS q3 (q2 f.Tag))⟩ else none
theorem foldOpt {α β : Type} {xs : List α} {lp : Nat → Nat → List β → Option (List β)} (f : α → Option β)
  (h1 : ∀ k acc i x, xs[i]? = some x → acc.length ≤ i → lp (k + 1) i acc = lp k (i + 1) (acc ++ (f x).toList))
  (h3 : ∀ k acc i, ¬ i < xs.length → lp (k + 1) i acc = some acc) :
  ∀ k acc i, i ≤ xs.length → xs.length < k + i → acc.length ≤ i → lp k i acc = some (acc ++ (xs.drop i).filterMap f) := by
 intro k
 induction k with
 | zero => intro acc i hi hk ha; omega
 | succ k ih =>
  intro acc i hi hk ha
  by_cases hn : i < xs.length
  ·have hl : (f xs[i]).toList.length ≤ 1 := by cases f xs[i] <;> simp
   rw [h1 k acc i xs[i] (List.getElem?_eq_getElem hn) ha, ih _ _ (by omega) (by omega) (by simp only [List.length_append]; omega), List.drop_eq_getElem_cons hn, List.filterMap_cons]
   cases f xs[i] <;> simp
  ·rw [h3 k acc i hn, List.drop_eq_nil_of_le (by omega)]; simp
/-- The converted record and the code. -/
noncomputable def conv (m : List E) (r : RD) (q2 : Q2) (q3 : Q3) : RD × Int :=
  if val m && recOk r then
    if r.Fields.filterMap (cvF q2 q3) = [] then (⟨0, []⟩, 9) else (⟨r.ID, ssort (r.Fields.filterMap (cvF q2 q3))⟩, 0)
  else (⟨0, []⟩, 1)
/-! ### lossless maps -/
def InjE (m : List E) : Prop := ∀ j, 0 ≤ j → j < m.length → ∀ x, m[j]? = some x → tE' (m.take j) x.To = none
def InjC (l : List EP) : Prop := ∀ j, 0 ≤ j → j < l.length → ∀ p, l[j]? = some p → tC (l.take j) p.To = none
def Inj (m : List E) : Prop := InjE m ∧ ∀ x ∈ m, InjC x.Codes
theorem fo_some {α : Type} {d : α} {o : Option α} : (fo d o).2 = true ↔ o ≠ none := by cases o <;> simp [fo]
theorem m31_l3_eq (x : E) : (InjC x.Codes → m31_l3 x (x.Codes.length + 1) 0 0 [] = some (.go (0, []))) ∧ (¬ InjC x.Codes → ∃ b : Fl (RD × Bool) (Int × List FD), (∃ w : RD × Bool, w.2 = true ∧ b = .ret w) ∧ m31_l3 x (x.Codes.length + 1) 0 0 [] = some (.ret b)) := by
 refine chkR (lp := fun k i => m31_l3 x k i 0 []) (n := x.Codes.length) _ _ _ ?_ ?_ ?_ (x.Codes.length + 1) 0 (by omega) (by omega)
 ·intro k i hi hc
  obtain ⟨p, hp⟩ := getq hi
  have := hc p hp
  show m31_l3 x (k + 1) i 0 [] = _
  rw [m31_l3, if_pos hi, hp]
  simp only [Option.bind_some]
  rw [if_pos (by omega), m47_eq, this]; rfl
 ·intro k i hi hc
  obtain ⟨p, hp⟩ := getq hi
  have : tC (x.Codes.take i) p.To ≠ none := fun h => hc (fun p' hp' => by obtain rfl := Option.some.inj (hp.symm.trans hp'); exact h)
  show ∃ b, _ ∧ m31_l3 x (k + 1) i 0 [] = _
  rw [m31_l3, if_pos hi, hp]
  simp only [Option.bind_some]
  rw [if_pos (by omega), m47_eq]
  simp only [Option.bind_some]
  rw [if_pos (fo_some.2 this)]
  exact ⟨_, ⟨_, rfl, rfl⟩, rfl⟩
 ·intro k i hi
  show m31_l3 x (k + 1) i 0 [] = _
  rw [m31_l3, if_neg hi]
theorem m31_l2_eq (m : List E) : ((∀ x ∈ m, InjC x.Codes) → m31_l2 m (m.length + 1) 0 0 [] = some (.go (0, []))) ∧ (¬ (∀ x ∈ m, InjC x.Codes) → ∃ w : RD × Bool, w.2 = true ∧ m31_l2 m (m.length + 1) 0 0 [] = some (.ret w)) := by
 have L := chkR (lp := fun k i => m31_l2 m k i 0 []) (n := m.length) (fun j => ∀ x, m[j]? = some x → InjC x.Codes) (fun w : RD × Bool => w.2 = true) (0, []) ?_ ?_ ?_ (m.length + 1) 0 (by omega) (by omega)
 ·rw [all_get] at L; exact L
 ·intro k i hi hc
  obtain ⟨x, hx⟩ := getq hi
  show m31_l2 m (k + 1) i 0 [] = _
  rw [m31_l2, if_pos hi, hx]
  simp only [Option.bind_some]
  rw [(m31_l3_eq x).1 (hc x hx)]; rfl
 ·intro k i hi hc
  obtain ⟨x, hx⟩ := getq hi
  obtain ⟨b, ⟨w, hw, rfl⟩, e⟩ := (m31_l3_eq x).2 (fun h => hc (fun x' hx' => by obtain rfl := Option.some.inj (hx.symm.trans hx'); exact h))
  show ∃ b, _ ∧ m31_l2 m (k + 1) i 0 [] = _
  rw [m31_l2, if_pos hi, hx]
  simp only [Option.bind_some]
  rw [e]
  exact ⟨w, hw, rfl⟩
 ·intro k i hi
  show m31_l2 m (k + 1) i 0 [] = _
  rw [m31_l2, if_neg hi]
theorem m31_l1_eq {m : List E} (hv : Val m) : (InjE m → m31_l1 m (m.length + 1) 0 0 [] = some (.go (0, []))) ∧ (¬ InjE m → ∃ w : RD × Bool, w.2 = true ∧ m31_l1 m (m.length + 1) 0 0 [] = some (.ret w)) := by
 refine chkR (lp := fun k i => m31_l1 m k i 0 []) (n := m.length) _ _ _ ?_ ?_ ?_ (m.length + 1) 0 (by omega) (by omega)
 ·intro k i hi hc
  obtain ⟨p, hp⟩ := getq hi
  have := hc p hp
  show m31_l1 m (k + 1) i 0 [] = _
  rw [m31_l1, if_pos hi, hp]
  simp only [Option.bind_some]
  rw [if_pos (by omega), m46_eq, this]; rfl
 ·intro k i hi hc
  obtain ⟨p, hp⟩ := getq hi
  have : tE' (m.take i) p.To ≠ none := fun h => hc (fun p' hp' => by obtain rfl := Option.some.inj (hp.symm.trans hp'); exact h)
  obtain ⟨q, hq⟩ := getq (xs := p.Codes) (i := 0) ((hv.1 i hi p hp).1.2.2.2)
  show ∃ b, _ ∧ m31_l1 m (k + 1) i 0 [] = _
  rw [m31_l1, if_pos hi, hp]
  simp only [Option.bind_some]
  rw [if_pos (by omega), m46_eq]
  simp only [Option.bind_some]
  rw [if_pos (fo_some.2 this), hq]
  exact ⟨_, rfl, rfl⟩
 ·intro k i hi
  show m31_l1 m (k + 1) i 0 [] = _
  rw [m31_l1, if_neg hi]
theorem m31_eq (m : List E) : ∃ w : RD × Bool, m31 m = some w ∧ (w.2 = true ↔ Val m ∧ ¬ Inj m) := by
 unfold m31
 rw [m27_eq]
 simp only [Option.bind_some]
 by_cases hv : Val m
 ·rw [if_pos (val_true hv)]
  by_cases h1 : InjE m
  ·rw [(m31_l1_eq hv).1 h1]
   simp only [Option.bind_some]
   by_cases h2 : ∀ x ∈ m, InjC x.Codes
   ·rw [(m31_l2_eq m).1 h2]
    exact ⟨_, rfl, fun h => (by cases h), fun h => absurd ⟨h1, h2⟩ h.2⟩
   ·obtain ⟨w, hw, e⟩ := (m31_l2_eq m).2 h2
    rw [e]
    exact ⟨_, rfl, fun _ => ⟨hv, fun h => h2 h.2⟩, fun _ => hw⟩
  ·obtain ⟨w, hw, e⟩ := (m31_l1_eq hv).2 h1
   rw [e]
   exact ⟨_, rfl, fun _ => ⟨hv, fun h => h1 h.1⟩, fun _ => hw⟩
 ·rw [if_neg (fun h => hv (val_iff.1 h))]
  exact ⟨_, rfl, fun h => (by cases h), fun h => absurd h.1 hv⟩
theorem m17_eq (m : List E) : ∃ b, m17 m = some b ∧ (b = true ↔ Val m ∧ Inj m) := by
 obtain ⟨w, e, h⟩ := m31_eq m
 unfold m17
 rw [e, m27_eq]
 simp only [Option.bind_some]
 by_cases hv : Val m
 ·rw [if_pos (val_true hv)]
  refine ⟨_, rfl, ?_⟩
  simp only [Bool.not_eq_true']
  constructor
  ·intro hh
   refine ⟨hv, Classical.byContradiction fun hi => ?_⟩
   rw [h.2 ⟨hv, hi⟩] at hh; cases hh
  ·intro hh
   rw [Bool.eq_false_iff]
   exact fun hw => (h.1 hw).2 hh.2
 ·rw [if_neg (fun h => hv (val_iff.1 h))]
  exact ⟨_, rfl, fun h => (by cases h), fun h => absurd h.1 hv⟩

/-! ### more of maps and records -/
theorem Good.code {e : E} (h : Good e) {p : EP} (hp : p ∈ e.Codes) : isC p.From = true ∧ isC p.To = true := by
 obtain ⟨i, hi⟩ := List.mem_iff_getElem?.1 hp
 have := h.1 i (getq_lt hi) p hi
 exact ⟨this.1, this.2.1⟩
theorem fE_mem {m : List E} {t : Str} {e : E} (h : fE m t = some e) : e ∈ m ∧ e.From = t := ⟨List.mem_of_find?_eq_some h, of_decide_eq_true (List.find?_some (p := fun e : E => decide (e.From = t)) h)⟩
theorem fC_mem {l : List EP} {c : UInt8} {p : EP} (h : fC l c = some p) : p ∈ l ∧ p.From = c := ⟨List.mem_of_find?_eq_some h, of_decide_eq_true (List.find?_some (p := fun p : EP => decide (p.From = c)) h)⟩
theorem m11_ok (m : List R) : ∃ b, m11 m = some b := by
 unfold m11
 have L : ∀ k i, i ≤ m.length → m.length < k + i → ∃ fl, m11_l1 m k i = some fl := by
  intro k
  induction k with
  | zero => intro i h1 h2; omega
  | succ k ih =>
   intro i h1 h2
   rw [m11_l1]
   by_cases hi : i < m.length
   ·obtain ⟨x, hx⟩ := getq hi
    have := ih (i + 1) (by omega) (by omega)
    rw [if_pos hi, hx]
    simp only [Option.bind_some]
    repeat' split
    all_goals first | exact this | exact ⟨_, rfl⟩
   ·rw [if_neg hi]; exact ⟨_, rfl⟩
 obtain ⟨fl, h⟩ := L (m.length + 1) 0 (by omega) (by omega)
 rw [h]
 cases fl with
 | ret x => exact ⟨x, rfl⟩
 | go x =>
  simp only [Option.bind_some]
  repeat' split
  all_goals exact ⟨_, rfl⟩

/-! ### maps, by pairs -/
theorem adj_pw {α : Type} {R : α → α → Prop} (tr : ∀ a b c, R a b → R b c → R a c) {l : List α} (h : ∀ j, j + 1 < l.length → ∀ x y, l[j]? = some x → l[j + 1]? = some y → R x y) : l.Pairwise R := by
 rw [List.pairwise_iff_getElem]
 intro i j
 induction j with
 | zero => intro _ _ h; omega
 | succ j ih =>
  intro hi hj hij
  have a := h j hj l[j] l[j + 1] (List.getElem?_eq_getElem (by omega)) (List.getElem?_eq_getElem hj)
  by_cases e : i = j
  ·subst e; exact a
  ·exact tr _ _ _ (ih hi (by omega) (by omega)) a
theorem pw_adj {α : Type} {R : α → α → Prop} {l : List α} (h : l.Pairwise R) {j : Nat} (hj : 0 < j) {x y : α} (hx : l[j - 1]? = some x) (hy : l[j]? = some y) : R x y := by
 obtain ⟨h1, rfl⟩ := List.getElem?_eq_some_iff.1 hx
 obtain ⟨h2, rfl⟩ := List.getElem?_eq_some_iff.1 hy
 exact List.pairwise_iff_getElem.1 h _ _ h1 h2 (by omega)
theorem okC_iff {l : List EP} : OkC l ↔ (∀ p ∈ l, isC p.From = true ∧ isC p.To = true) ∧ l.Pairwise fun a b => a.From.toNat < b.From.toNat := by
 constructor
 ·intro h
  refine ⟨fun p hp => ?_, adj_pw (R := fun a b : EP => a.From.toNat < b.From.toNat) (fun a b c => Nat.lt_trans) (fun j hj x y hx hy => ?_)⟩
  ·obtain ⟨i, hi⟩ := List.mem_iff_getElem?.1 hp
   have := h i (getq_lt hi) p hi
   exact ⟨this.1, this.2.1⟩
  ·exact (h (j + 1) hj y hy).2.2 (by omega) x (by simpa using hx)
 ·intro h j _ p hp
  have := h.1 p (List.mem_of_getElem? hp)
  exact ⟨this.1, this.2, fun h0 q hq => pw_adj h.2 h0 hq hp⟩
theorem val_iff2 {m : List E} : Val m ↔ (∀ x ∈ m, Good x) ∧ (m.Pairwise fun a b => lt a.From b.From) ∧ m.length ≤ 60 := by
 constructor
 ·intro h
  refine ⟨fun x hx => Val.good h x hx, adj_pw (R := fun a b : E => lt a.From b.From) (fun a b c => lt_trans) (fun j hj x y hx hy => ?_), h.2⟩
  exact (h.1 (j + 1) hj y hy).2 (by omega) x (by simpa using hx)
 ·intro h
  refine ⟨fun j _ x hx => ⟨h.1 x (List.mem_of_getElem? hx), fun h0 y hy => pw_adj h.2.1 h0 hy hx⟩, h.2.2⟩

theorem adj_from {m : List E} (h : Val m) : m.Pairwise fun a b => lt a.From b.From := (val_iff2.1 h).2.1
theorem adj_code {l : List EP} (h : OkC l) : l.Pairwise fun a b => a.From.toNat < b.From.toNat := (okC_iff.1 h).2

/-! ### finding again -/
theorem find_again {α κ : Type} [DecidableEq κ] (k : α → κ) : ∀ (xs : List α), (∀ j, 0 ≤ j → j < xs.length → ∀ x, xs[j]? = some x → (xs.take j).find? (fun y => decide (k y = k x)) = none) → ∀ x ∈ xs, xs.find? (fun y => decide (k y = k x)) = some x := by
 intro xs h x hx
 obtain ⟨i, hi⟩ := List.mem_iff_getElem?.1 hx
 have hn := h i (by omega) (getq_lt hi) x hi
 have e : xs = xs.take i ++ x :: xs.drop (i + 1) := by
  rw [← List.getElem_of_getElem? hi |>.choose_spec, ← List.drop_eq_getElem_cons, List.take_append_drop]
 rw [e, List.find?_append, hn]
 simp
theorem tE_again {m : List E} (h : InjE m) {e : E} (he : e ∈ m) : tE' m e.To = some e := find_again (fun e : E => e.To) m h e he
theorem tC_again {l : List EP} (h : InjC l) {p : EP} (hp : p ∈ l) : tC l p.To = some p := find_again (fun p : EP => p.To) l h p hp

end Go.WK.S
