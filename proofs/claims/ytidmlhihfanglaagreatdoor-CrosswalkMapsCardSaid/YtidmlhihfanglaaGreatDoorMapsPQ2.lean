/- Plain law: places in maps (the reference's), the way back. No program in sight but the models. -/
import Derived.Test.YtidmlhihfanglaaGreatDoorMapsPQ
set_option linter.unusedSimpArgs false
set_option linter.unusedVariables false
namespace Go.WK.S
open Go Go.Proofs Go.WK Go.RowKit
set_option maxRecDepth 100000
set_option linter.unusedVariables false
set_option linter.unusedSimpArgs false

/-! the reference's -/
theorem oE_From (x : R) : (oE x).From = x.From := rfl
theorem oE_To (x : R) : (oE x).To = x.To := rfl
theorem m39_eq (m : List R) (t : Str) : ∃ j, m39 m t false = some j ∧ ((∃ (n : Nat) (x : R), j = (n : Int) ∧ m[n]? = some x ∧ fE (m.map oE) t = some (oE x)) ∨ (j = -1 ∧ fE (m.map oE) t = none)) := by
 unfold m39
 have L := findLoop (xs := m) (lp := m39_l1 m t false) (fun x => decide (x.From = t)) (fun i _ => (i : Int)) ?_ ?_ ?_ (m.length + 1) 0 (by omega) (by omega)
 ·rw [List.drop_zero] at L
  have hm : fE (m.map oE) t = (m.find? (fun x => decide (x.From = t))).map oE := by unfold fE; rw [List.find?_map]; rfl
  rcases L with ⟨j, x, hj, hf, e⟩ | ⟨hf, e⟩
  ·rw [e]
   exact ⟨_, rfl, .inl ⟨j, x, rfl, hj, by rw [hm, hf]; rfl⟩⟩
  ·rw [e]
   exact ⟨_, rfl, .inr ⟨rfl, by rw [hm, hf]; rfl⟩⟩
 ·intro k i x hx h
  rw [m39_l1, if_pos (getq_lt hx), if_neg (by decide), hx]
  simp only [Option.bind_some]
  rw [if_pos (of_decide_eq_true h)]
 ·intro k i x hx h
  rw [m39_l1, if_pos (getq_lt hx), if_neg (by decide), hx]
  simp only [Option.bind_some]
  rw [if_neg (of_decide_eq_false h)]
 ·intro k i hi
  rw [m39_l1, if_neg hi]
theorem m39_eqT (m : List R) (t : Str) : ∃ j, m39 m t true = some j ∧ ((∃ (n : Nat) (x : R), j = (n : Int) ∧ m[n]? = some x ∧ tE' (m.map oE) t = some (oE x)) ∨ (j = -1 ∧ tE' (m.map oE) t = none)) := by
 unfold m39
 have L := findLoop (xs := m) (lp := m39_l1 m t true) (fun x => decide (x.To = t)) (fun i _ => (i : Int)) ?_ ?_ ?_ (m.length + 1) 0 (by omega) (by omega)
 ·rw [List.drop_zero] at L
  have hm : tE' (m.map oE) t = (m.find? (fun x => decide (x.To = t))).map oE := by unfold tE'; rw [List.find?_map]; rfl
  rcases L with ⟨j, x, hj, hf, e⟩ | ⟨hf, e⟩
  ·rw [e]
   exact ⟨_, rfl, .inl ⟨j, x, rfl, hj, by rw [hm, hf]; rfl⟩⟩
  ·rw [e]
   exact ⟨_, rfl, .inr ⟨rfl, by rw [hm, hf]; rfl⟩⟩
 ·intro k i x hx h
  rw [m39_l1, if_pos (getq_lt hx), if_pos rfl, hx]
  simp only [Option.bind_some]
  rw [if_pos (of_decide_eq_true h)]
 ·intro k i x hx h
  rw [m39_l1, if_pos (getq_lt hx), if_pos rfl, hx]
  simp only [Option.bind_some]
  rw [if_neg (of_decide_eq_false h)]
 ·intro k i hi
  rw [m39_l1, if_neg hi]
theorem m40_eq (l : List RP) (c : UInt8) : m40 l c false = some (fo noP (fC (l.map oP) c)).1.To := by
 unfold m40
 have L := findLoop (xs := l) (lp := m40_l1 l c false) (fun x => decide (x.From = c)) (fun _ x => x.To) ?_ ?_ ?_ (l.length + 1) 0 (by omega) (by omega)
 ·rw [List.drop_zero] at L
  have hm : fC (l.map oP) c = (l.find? (fun x => decide (x.From = c))).map oP := by unfold fC; rw [List.find?_map]; rfl
  rcases L with ⟨j, x, hj, hf, e⟩ | ⟨hf, e⟩
  ·rw [e, hm, hf]; rfl
  ·rw [e, hm, hf]; rfl
 ·intro k i x hx h
  rw [m40_l1, if_pos (getq_lt hx), if_neg (by decide), hx]
  simp only [Option.bind_some, dec_u8, h, if_true]
 ·intro k i x hx h
  rw [m40_l1, if_pos (getq_lt hx), if_neg (by decide), hx]
  simp only [Option.bind_some, dec_u8, h, Bool.false_eq_true, if_false]
 ·intro k i hi
  rw [m40_l1, if_neg hi]
theorem m40_eqT (l : List RP) (c : UInt8) : m40 l c true = some (fo noP (tC (l.map oP) c)).1.From := by
 unfold m40
 have L := findLoop (xs := l) (lp := m40_l1 l c true) (fun x => decide (x.To = c)) (fun _ x => x.From) ?_ ?_ ?_ (l.length + 1) 0 (by omega) (by omega)
 ·rw [List.drop_zero] at L
  have hm : tC (l.map oP) c = (l.find? (fun x => decide (x.To = c))).map oP := by unfold tC; rw [List.find?_map]; rfl
  rcases L with ⟨j, x, hj, hf, e⟩ | ⟨hf, e⟩
  ·rw [e, hm, hf]; rfl
  ·rw [e, hm, hf]; rfl
 ·intro k i x hx h
  rw [m40_l1, if_pos (getq_lt hx), if_pos rfl, hx]
  simp only [Option.bind_some, dec_u8, h, if_true, Bool.false_eq_true, if_false]
 ·intro k i x hx h
  rw [m40_l1, if_pos (getq_lt hx), if_pos rfl, hx]
  simp only [Option.bind_some, dec_u8, h, if_true, Bool.false_eq_true, if_false]
 ·intro k i hi
  rw [m40_l1, if_neg hi]

end Go.WK.S
