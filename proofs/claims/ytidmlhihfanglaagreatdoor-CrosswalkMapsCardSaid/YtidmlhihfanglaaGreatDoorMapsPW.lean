/- Plain law 9: the witness, and all together. No program in sight but the models. -/
import Derived.Test.YtidmlhihfanglaaGreatDoorMapsPI
import Derived.Test.YtidmlhihfanglaaGreatDoorMapsPL7
set_option linter.unusedSimpArgs false
set_option linter.unusedVariables false
namespace Go.WK.S
open Go Go.Proofs Go.WK Go.RowKit Go.Sort
set_option maxRecDepth 100000
set_option linter.unusedVariables false
set_option linter.unusedSimpArgs false

/-! ### loops that stop at the first place that fails -/
noncomputable def badAt (c : Nat → Prop) (j : Nat) : Bool := @decide (¬ c j) (Classical.propDecidable _)
theorem badAt_true {c : Nat → Prop} {j : Nat} : badAt c j = true ↔ ¬ c j := by unfold badAt; simp
noncomputable def fst (n : Nat) (c : Nat → Prop) : Option Nat := (List.range' 0 n).find? (badAt c)
theorem chkF {β γ : Type} {lp : Nat → Nat → Option (Fl β γ)} {n : Nat} (c : Nat → Prop) (ρ : Nat → β) (g : γ)
  (h1 : ∀ k i, i < n → c i → lp (k + 1) i = lp k (i + 1))
  (h2 : ∀ k i, i < n → ¬ c i → lp (k + 1) i = some (.ret (ρ i)))
  (h3 : ∀ k i, ¬ i < n → lp (k + 1) i = some (.go g)) :
  ∀ k i, i ≤ n → n < k + i → lp k i = (match (List.range' i (n - i)).find? (badAt c) with | none => some (.go g) | some j => some (.ret (ρ j))) := by
 intro k
 induction k with
 | zero => intro i hi hk; omega
 | succ k ih =>
  intro i hi hk
  by_cases hn : i < n
  ·have e : n - i = (n - (i + 1)) + 1 := by omega
   rw [e, List.range'_succ]
   by_cases hc : c i
   ·rw [h1 k i hn hc, ih (i + 1) (by omega) (by omega), List.find?_cons_of_neg (by rw [badAt_true]; simpa using hc)]
   ·rw [h2 k i hn hc, List.find?_cons_of_pos (badAt_true.2 hc)]
  ·rw [h3 k i hn, show n - i = 0 by omega]; rfl
theorem fst_some {n : Nat} {c : Nat → Prop} {j : Nat} (h : fst n c = some j) : j < n ∧ ¬ c j := by
 have a := List.mem_of_find?_eq_some h
 exact ⟨by simpa using (List.mem_range'_1.1 a).2, badAt_true.1 (List.find?_some h)⟩

/-! ### the witness, by its place -/
def wv (m : List E) (i j : Nat) : RD × Bool := match m[i]? with
  | some x => match x.Codes[j]? with
    | some p => (wit x.From p.From, true)
    | none => (⟨0, []⟩, false)
  | none => (⟨0, []⟩, false)
def cE (m : List E) (i : Nat) : Prop := ∀ x, m[i]? = some x → tE' (m.take i) x.To = none
def cC (l : List EP) (j : Nat) : Prop := ∀ p, l[j]? = some p → tC (l.take j) p.To = none
noncomputable def fb (l : List EP) : Option Nat := fst l.length (cC l)
def cEC (m : List E) (i : Nat) : Prop := ∀ x, m[i]? = some x → fb x.Codes = none
noncomputable def jb (m : List E) (i : Nat) : Nat := match m[i]? with
  | some x => (fb x.Codes).getD 0
  | none => 0
noncomputable def wP (m : List E) : RD × Bool := match fst m.length (cE m) with
  | some i => wv m i 0
  | none => match fst m.length (cEC m) with
    | some i => wv m i (jb m i)
    | none => (⟨0, []⟩, false)
theorem p31_l3 (x : E) : m31_l3 x (x.Codes.length + 1) 0 0 [] = (match fb x.Codes with | none => some (.go (0, [])) | some j => some (.ret (.ret (wv [x] 0 j)))) := by
 refine chkF (lp := fun k i => m31_l3 x k i 0 []) (n := x.Codes.length) (cC x.Codes) (fun j => .ret (wv [x] 0 j)) (0, []) ?_ ?_ ?_ (x.Codes.length + 1) 0 (by omega) (by omega)
 ·intro k i hi hc
  obtain ⟨p, hp⟩ := getq hi
  have := hc p hp
  show m31_l3 x (k + 1) i 0 [] = _
  rw [m31_l3, if_pos hi, hp]
  simp only [Option.bind_some]
  rw [if_pos (by omega), m47_eq, this]; rfl
 ·intro k i hi hc
  obtain ⟨p, hp⟩ := getq hi
  have hn : tC (x.Codes.take i) p.To ≠ none := fun h => hc (fun p' hp' => by obtain rfl := Option.some.inj (hp.symm.trans hp'); exact h)
  show m31_l3 x (k + 1) i 0 [] = _
  rw [m31_l3, if_pos hi, hp]
  simp only [Option.bind_some]
  rw [if_pos (by omega), m47_eq]
  simp only [Option.bind_some]
  rw [if_pos (fo_some.2 hn)]
  simp only [m64, wv, List.getElem?_cons_zero, hp]
  rfl
 ·intro k i hi
  show m31_l3 x (k + 1) i 0 [] = _
  rw [m31_l3, if_neg hi]
theorem p31_l2 (m : List E) : m31_l2 m (m.length + 1) 0 0 [] = (match fst m.length (cEC m) with | none => some (.go (0, [])) | some i => some (.ret (wv m i (jb m i)))) := by
 refine chkF (lp := fun k i => m31_l2 m k i 0 []) (n := m.length) (cEC m) (fun i => wv m i (jb m i)) (0, []) ?_ ?_ ?_ (m.length + 1) 0 (by omega) (by omega)
 ·intro k i hi hc
  obtain ⟨x, hx⟩ := getq hi
  show m31_l2 m (k + 1) i 0 [] = _
  rw [m31_l2, if_pos hi, hx]
  simp only [Option.bind_some]
  rw [p31_l3, hc x hx]; rfl
 ·intro k i hi hc
  obtain ⟨x, hx⟩ := getq hi
  have hn : fb x.Codes ≠ none := fun h => hc (fun x' hx' => by obtain rfl := Option.some.inj (hx.symm.trans hx'); exact h)
  obtain ⟨j, hj⟩ := Option.ne_none_iff_exists'.1 hn
  show m31_l2 m (k + 1) i 0 [] = _
  rw [m31_l2, if_pos hi, hx]
  simp only [Option.bind_some]
  rw [p31_l3, hj]
  simp only [Option.bind_some, wv, jb, hx, hj, Option.getD_some, List.getElem?_cons_zero]
 ·intro k i hi
  show m31_l2 m (k + 1) i 0 [] = _
  rw [m31_l2, if_neg hi]
theorem p31_l1 {m : List E} (hv : Val m) : m31_l1 m (m.length + 1) 0 0 [] = (match fst m.length (cE m) with | none => some (.go (0, [])) | some i => some (.ret (wv m i 0))) := by
 refine chkF (lp := fun k i => m31_l1 m k i 0 []) (n := m.length) (cE m) (fun i => wv m i 0) (0, []) ?_ ?_ ?_ (m.length + 1) 0 (by omega) (by omega)
 ·intro k i hi hc
  obtain ⟨p, hp⟩ := getq hi
  have := hc p hp
  show m31_l1 m (k + 1) i 0 [] = _
  rw [m31_l1, if_pos hi, hp]
  simp only [Option.bind_some]
  rw [if_pos (by omega), m46_eq, this]; rfl
 ·intro k i hi hc
  obtain ⟨x, hx⟩ := getq hi
  have hn : tE' (m.take i) x.To ≠ none := fun h => hc (fun p' hp' => by obtain rfl := Option.some.inj (hx.symm.trans hp'); exact h)
  obtain ⟨q, hq⟩ := getq (xs := x.Codes) (i := 0) ((hv.1 i hi x hx).1.2.2.2)
  show m31_l1 m (k + 1) i 0 [] = _
  rw [m31_l1, if_pos hi, hx]
  simp only [Option.bind_some]
  rw [if_pos (by omega), m46_eq]
  simp only [Option.bind_some]
  rw [if_pos (fo_some.2 hn), hq]
  simp only [Option.bind_some, m64, wv, hx, hq]
  rfl
 ·intro k i hi
  show m31_l1 m (k + 1) i 0 [] = _
  rw [m31_l1, if_neg hi]
theorem p31 {m : List E} (hv : Val m) : m31 m = some (wP m) := by
 unfold m31 wP
 rw [m27_eq, val_true hv]
 simp only [Option.bind_some, if_true]
 rw [p31_l1 hv]
 cases h : fst m.length (cE m) with
 | some i => rfl
 | none =>
  simp only [Option.bind_some]
  rw [p31_l2]
  cases h2 : fst m.length (cEC m) with
  | some i => rfl
  | none => rfl

/-! ### the reference's -/
theorem prefC {l : List EP} (ho : OkC l) {j : Nat} {p : EP} (hp : l[j]? = some p) : tC (l.take j) p.To = none ↔ (fo noP (tC l p.To)).1.From = p.From := by
 constructor
 ·intro h
  have e : l = l.take j ++ p :: l.drop (j + 1) := by
   obtain ⟨h1, rfl⟩ := List.getElem?_eq_some_iff.1 hp
   rw [← List.drop_eq_getElem_cons, List.take_append_drop]
  have : tC l p.To = some p := by
   unfold tC at h ⊢
   rw [e, List.find?_append, h]
   simp
  rw [this]; rfl
 ·intro h
  cases hq : tC (l.take j) p.To with
  | none => rfl
  | some q =>
   obtain ⟨a, b⟩ := tC_pre ho hp hq
   rw [a] at h
   exact absurd h b
theorem r103 {l : List RP} (ho : OkC (l.map oP)) : m103 l = some (match fb (l.map oP) with | none => -1 | some j => (j : Int)) := by
 have L := chkF (lp := m103_l1 l) (n := l.length) (cC (l.map oP)) (fun j => (j : Int)) () ?_ ?_ ?_ (l.length + 1) 0 (by omega) (by omega)
 ·unfold m103 fb fst
  rw [L, List.length_map]
  cases (List.range' 0 (l.length - 0)).find? (badAt (cC (l.map oP))) with
  | none => rfl
  | some j => rfl
 ·intro k i hi hc
  obtain ⟨p, hp⟩ := getq hi
  have := (prefC ho (p := oP p) (by simp [hp])).1 (hc (oP p) (by simp [hp]))
  rw [m103_l1, if_pos hi, hp]
  simp only [Option.bind_some]
  rw [m40_eqT]
  simp only [Option.bind_some]
  rw [if_pos (by rw [show p.To = (oP p).To from rfl, this]; rfl)]
 ·intro k i hi hc
  obtain ⟨p, hp⟩ := getq hi
  rw [m103_l1, if_pos hi, hp]
  simp only [Option.bind_some]
  rw [m40_eqT]
  simp only [Option.bind_some]
  rw [if_neg]
  intro hh
  refine hc (fun p' hp' => ?_)
  have e : p' = oP p := by simpa [hp] using hp'.symm
  subst e
  exact (prefC ho (by simp [hp])).2 (UInt8.toNat_inj.1 hh)
 ·intro k i hi
  rw [m103_l1, if_neg hi]
theorem prefE {m : List R} (hv : Val (m.map oE)) {i : Nat} {x : R} (hx : m[i]? = some x) : m39 m x.To true = some (i : Int) ↔ tE' ((m.map oE).take i) x.To = none := by
 have hx' : (m.map oE)[i]? = some (oE x) := by simp [hx]
 have pw := (val_iff2.1 hv).2.1
 obtain ⟨j, hj, hcase⟩ := m39_eqT m x.To
 rw [hj]
 constructor
 ·intro h
  cases hq : tE' ((m.map oE).take i) x.To with
  | none => rfl
  | some y =>
   obtain ⟨a, b⟩ := tE_pre hv hx' hq
   rcases hcase with ⟨n, z, rfl, hz, hf⟩ | ⟨_, hf⟩
   ·have hn : n = i := by have := Option.some.inj h; omega
    subst hn
    obtain rfl := Option.some.inj (hz.symm.trans hx)
    rw [show (oE z).To = z.To from rfl, hf] at a
    obtain rfl := Option.some.inj a
    exact absurd rfl b
   ·rw [show (oE x).To = x.To from rfl, hf] at a; cases a
 ·intro h
  have e : m.map oE = (m.map oE).take i ++ oE x :: (m.map oE).drop (i + 1) := by
   obtain ⟨h1, h2⟩ := List.getElem?_eq_some_iff.1 hx'
   rw [← h2, ← List.drop_eq_getElem_cons, List.take_append_drop]
  have hf' : tE' (m.map oE) x.To = some (oE x) := by
   unfold tE' at h ⊢
   rw [e, List.find?_append, h]
   simp [oE_To]
  rcases hcase with ⟨n, z, rfl, hz, hf⟩ | ⟨_, hf⟩
  ·rw [hf'] at hf
   have ez := congrArg D_crosswalk_Entry.From (Option.some.inj hf)
   obtain ⟨h1, rfl⟩ := List.getElem?_eq_some_iff.1 hx
   obtain ⟨h2, rfl⟩ := List.getElem?_eq_some_iff.1 hz
   rcases Nat.lt_trichotomy i n with c | c | c
   ·have := List.pairwise_iff_getElem.1 pw i n (by simpa using h1) (by simpa using h2) c
    simp only [List.getElem_map, ez] at this
    exact absurd this (lt_irr _)
   ·subst c; rfl
   ·have := List.pairwise_iff_getElem.1 pw n i (by simpa using h2) (by simpa using h1) c
    simp only [List.getElem_map, ez] at this
    exact absurd this (lt_irr _)
  ·rw [hf'] at hf; cases hf
theorem r65 {m : List R} (hv : Val (m.map oE)) : m65 m = some (match fst m.length (cE (m.map oE)) with
  | some i => ((i : Int), 0, true)
  | none => match fst m.length (cEC (m.map oE)) with
   | some i => ((i : Int), (jb (m.map oE) i : Int), true)
   | none => (0, 0, false)) := by
 have L1 := chkF (lp := m65_l1 m) (n := m.length) (cE (m.map oE)) (fun i => ((i : Int), (0 : Int), true)) () ?_ ?_ ?_ (m.length + 1) 0 (by omega) (by omega)
 ·have L2 := chkF (lp := m65_l2 m) (n := m.length) (cEC (m.map oE)) (fun i => ((i : Int), (jb (m.map oE) i : Int), true)) () ?_ ?_ ?_ (m.length + 1) 0 (by omega) (by omega)
  ·unfold m65 fst
   rw [L1]
   cases (List.range' 0 (m.length - 0)).find? (badAt (cE (m.map oE))) with
   | some i => rfl
   | none =>
    simp only [Option.bind_some]
    rw [L2]
    cases (List.range' 0 (m.length - 0)).find? (badAt (cEC (m.map oE))) with
    | some i => rfl
    | none => rfl
  ·intro k i hi hc
   obtain ⟨x, hx⟩ := getq hi
   have h := hc (oE x) (by simp [hx])
   rw [m65_l2, if_pos hi, hx]
   simp only [Option.bind_some]
   rw [r103 (l := x.Codes) (hv.good (oE x) (List.mem_map_of_mem (List.mem_of_getElem? hx))).1, show x.Codes.map oP = (oE x).Codes from rfl, h]
   simp only [Option.bind_some]
   rw [if_neg (by decide)]
  ·intro k i hi hc
   obtain ⟨x, hx⟩ := getq hi
   have hn : fb (oE x).Codes ≠ none := fun h => hc (fun x' hx' => by
    have e : x' = oE x := by simpa [hx] using hx'.symm
    subst e; exact h)
   obtain ⟨j, hj⟩ := Option.ne_none_iff_exists'.1 hn
   rw [m65_l2, if_pos hi, hx]
   simp only [Option.bind_some]
   rw [r103 (l := x.Codes) (hv.good (oE x) (List.mem_map_of_mem (List.mem_of_getElem? hx))).1, show x.Codes.map oP = (oE x).Codes from rfl, hj]
   simp only [Option.bind_some]
   have ej : jb (m.map oE) i = j := by unfold jb; simp [hx, hj]
   rw [if_pos (by omega), ej]
  ·intro k i hi
   rw [m65_l2, if_neg hi]
 ·intro k i hi hc
  obtain ⟨x, hx⟩ := getq hi
  have := (prefE hv hx).2 (hc (oE x) (by simp [hx]))
  rw [m65_l1, if_pos hi, hx]
  simp only [Option.bind_some]
  rw [this]
  simp only [Option.bind_some, if_true]
 ·intro k i hi hc
  obtain ⟨x, hx⟩ := getq hi
  obtain ⟨j, hj, _⟩ := m39_eqT m x.To
  rw [m65_l1, if_pos hi, hx]
  simp only [Option.bind_some]
  rw [hj]
  simp only [Option.bind_some]
  rw [if_neg]
  intro e
  refine hc (fun x' hx' => ?_)
  have ee : x' = oE x := by simpa [hx] using hx'.symm
  subst ee
  exact (prefE hv hx).1 (by rw [hj, e])
 ·intro k i hi
  rw [m65_l1, if_neg hi]
theorem r34 {m : List R} (hv : Val (m.map oE)) : m34 m = some (wP (m.map oE)) := by
 have at_ : ∀ (i j : Nat), i < m.length → j < (((m.map oE)[i]?).map fun x => x.Codes.length).getD 0 →
   ((at? m (i : Int)).bind fun x => (at? m (i : Int)).bind fun y => (at? y.Codes (j : Int)).bind fun p => some ((⟨1, [(⟨x.From, 32, 32, [(⟨p.From, ([120] : Str)⟩ : SD)]⟩ : FD)]⟩ : RD), true)) = some (wv (m.map oE) i j) := by
  intro i j hi hj
  obtain ⟨x, hx⟩ := getq hi
  simp only [List.getElem?_map, hx, Option.map_some, Option.getD_some] at hj
  have hj' : j < x.Codes.length := by simpa [oE] using hj
  obtain ⟨p, hp⟩ := getq hj'
  rw [at?_of hx]
  simp only [Option.bind_some]
  rw [at?_of hp]
  simp only [Option.bind_some, wv, List.getElem?_map, hx, Option.map_some]
  have : (oE x).Codes[j]? = some (oP p) := by simp [oE, hp]
  rw [this]
  rfl
 unfold m34
 rw [m24_eq, val_true hv, r65 hv]
 simp only [Option.bind_some, if_true]
 unfold wP
 rw [List.length_map]
 cases h : fst m.length (cE (m.map oE)) with
 | some i =>
  obtain ⟨hi, _⟩ := fst_some h
  simp only [if_true]
  refine at_ i 0 hi ?_
  obtain ⟨x, hx⟩ := getq hi
  have g := (hv.good (oE x) (List.mem_map_of_mem (List.mem_of_getElem? hx))).2.2.2
  simpa [hx] using g
 | none =>
  cases h2 : fst m.length (cEC (m.map oE)) with
  | none => rfl
  | some i =>
   obtain ⟨hi, hc⟩ := fst_some h2
   simp only [if_true]
   refine at_ i (jb (m.map oE) i) hi ?_
   obtain ⟨x, hx⟩ := getq hi
   have hn : fb (oE x).Codes ≠ none := fun h => hc (fun x' hx' => by
    have e : x' = oE x := by simpa [hx] using hx'.symm
    subst e; exact h)
   obtain ⟨j, hj⟩ := Option.ne_none_iff_exists'.1 hn
   have ej : jb (m.map oE) i = j := by unfold jb; simp [hx, hj]
   have := (fst_some hj).1
   rw [ej]
   simpa [hx] using this

/-! ### the law -/
theorem bad31 {m : List E} (hv : ¬ Val m) : m31 m = some (⟨0, []⟩, false) := by
 unfold m31; rw [m27_eq, val_false hv]; rfl
theorem bad34 {m : List R} (hv : ¬ Val (m.map oE)) : m34 m = some (⟨0, []⟩, false) := by
 unfold m34; rw [m24_eq, val_false hv]; rfl
theorem w_eq (m : List R) : ∃ w, m31 (m.map oE) = some w ∧ m34 m = some w := by
 by_cases hv : Val (m.map oE)
 ·exact ⟨_, p31 hv, r34 hv⟩
 ·exact ⟨_, bad31 hv, bad34 hv⟩
/-- The program's answer and the reference's, as maps. -/
def SameM (a : Option (List E × Int)) (b : Option (List R × Int)) : Prop := ∃ l c, a = some (l.map oE, c) ∧ b = some (l, c) ∧ l.length ≤ 100000 ∧ ∀ x ∈ l, x.Codes.length ≤ 100000
theorem sizes {l : List R} (h : Val (l.map oE)) : l.length ≤ 100000 ∧ ∀ x ∈ l, x.Codes.length ≤ 100000 := by
 have := h.2
 rw [List.length_map] at this
 refine ⟨by omega, fun x hx => ?_⟩
 have := okC_len (h.good (oE x) (List.mem_map_of_mem hx)).1
 simp only [oE, List.length_map] at this
 omega
theorem inv_same (m : List R) : SameM (m33 (m.map oE)) (m35 m) := by
 by_cases hv : Val (m.map oE)
 ·by_cases hi : Inj (m.map oE)
  ·obtain ⟨l, h1, h2⟩ := m35_val hv hi
   have hs := sizes (l := l) (by rw [h2]; exact (inv_all hv hi).1)
   exact ⟨l, 0, by rw [m33_eq hv hi, h2], h1, hs⟩
  ·refine ⟨[], 16, ?_, ?_, by simp, by simp⟩
   ·obtain ⟨b, hb, h⟩ := m17_eq (m.map oE)
    have : b = false := by cases b with | false => rfl | true => exact absurd (h.1 rfl).2 hi
    unfold m33
    rw [m27_eq, hb, val_true hv, this]; rfl
   ·obtain ⟨b, hb, h⟩ := m32_eq m
    have : b = false := by cases b with | false => rfl | true => exact absurd (h.1 rfl).2 hi
    unfold m35
    rw [m24_eq, hb, val_true hv, this]; rfl
 ·refine ⟨[], 1, ?_, ?_, by simp, by simp⟩
  ·unfold m33; rw [m27_eq, val_false hv]; rfl
  ·unfold m35; rw [m24_eq, val_false hv]; rfl
theorem comp_same (m n : List R) : SameM (m26 (m.map oE) (n.map oE)) (m36 m n) := by
 by_cases hv : Val (m.map oE)
 ·by_cases hn : Val (n.map oE)
  ·have e := cE2_map (n.map oE) m
   have hs := sizes (l := m.filterMap (cE2 (n.map oE))) (by rw [e]; exact comp_val hv hn)
   exact ⟨_, 0, by rw [m26_eq hv hn, e], m36_val hv hn, hs⟩
  ·refine ⟨[], 1, ?_, ?_, by simp, by simp⟩
   ·unfold m26; rw [m27_eq, m27_eq, val_true hv, val_false hn]; rfl
   ·unfold m36; rw [m24_eq, m24_eq, val_true hv, val_false hn]; rfl
 ·refine ⟨[], 1, ?_, ?_, by simp, by simp⟩
  ·unfold m26; rw [m27_eq, val_false hv]; rfl
  ·unfold m36; rw [m24_eq, val_false hv]; rfl
theorem law9 (m n : List R) (h1 : m.length ≤ 2513169434916) (h2 : ∀ x ∈ m, x.Codes.length ≤ 70368744177664) (h3 : n.length ≤ 2513169434916) (h4 : ∀ x ∈ n, x.Codes.length ≤ 70368744177664) : m9 m n = some true := by
 unfold m9
 rw [awake_true]
 simp only [Option.bind_some, if_true]
 obtain ⟨b, hb⟩ := m11_ok m
 rw [hb]
 simp only [Option.bind_some]
 cases b with
 | false => exact if_neg Bool.false_ne_true
 | true =>
 obtain ⟨c, hc⟩ := m11_ok n
 rw [if_pos rfl, hc]
 simp only [Option.bind_some]
 cases c with
 | false => exact if_neg Bool.false_ne_true
 | true =>
 obtain ⟨w, w1, w2⟩ := w_eq m
 obtain ⟨li, ci, i1, i2, i3, i4⟩ := inv_same m
 obtain ⟨lc, cc, k1, k2, k3, k4⟩ := comp_same m n
 obtain ⟨x, hx, lx⟩ := m17_eq (m.map oE)
 obtain ⟨y, hy, ly⟩ := m32_eq m
 have hxy : x = y := by rw [Bool.eq_iff_iff, lx, ly]
 rw [if_pos rfl, m15_eq m h1 h2, m15_eq n h3 h4]
 simp only [Option.bind_some]
 rw [w1, w2, i1, i2, k1, k2, m23_eq, m37_eq, m27_eq, m24_eq, hx, hy, hxy]
 simp only [Option.bind_some, beq_self_eq_true, if_true, m18_eq, decide_true]
 rw [m22_eq (li.map oE) (by simp only [List.length_map]; omega) (fun z hz => by
  obtain ⟨t, ht, rfl⟩ := List.mem_map.1 hz
  have := i4 t ht
  simp only [oE, List.length_map]; omega), map_tE_oE]
 simp only [Option.bind_some]
 rw [m21_self li (fun z hz => by have := i4 z hz; omega)]
 simp only [Option.bind_some, if_true]
 rw [m22_eq (lc.map oE) (by simp only [List.length_map]; omega) (fun z hz => by
  obtain ⟨t, ht, rfl⟩ := List.mem_map.1 hz
  have := k4 t ht
  simp only [oE, List.length_map]; omega), map_tE_oE]
 simp only [Option.bind_some]
 rw [m21_self lc (fun z hz => by have := k4 z hz; omega)]
 simp only [Option.bind_some, if_true]
end Go.WK.S
