/- Plain law: places in maps (the reference's), the way back. No program in sight but the models. -/
import Derived.Test.YtidmlhihfanglaaGreatDoorInversePQ
set_option linter.unusedSimpArgs false
set_option linter.unusedVariables false
namespace Go.WK.S
open Go Go.Proofs Go.WK Go.RowKit
set_option maxRecDepth 100000
set_option linter.unusedVariables false
set_option linter.unusedSimpArgs false
theorem m45_eq (m : List E) (t : Str) : m45 t m = some ((fo noE (tE' m t)).1, (fo noE (tE' m t)).1.From, (fo noE (tE' m t)).2) := by
 unfold m45; rw [m46_eq]; rfl
/-! the reference's -/
theorem oE_From (x : R) : (oE x).From = x.From := rfl
theorem oE_To (x : R) : (oE x).To = x.To := rfl
theorem m39_eqT (m : List R) (t : Str) : ∃ j, m39 m t true = some j ∧ ((∃ (n : Nat) (x : R), j = (n : Int) ∧ m[n]? = some x ∧ tE' (m.map oE) t = some (oE x)) ∨ (j = -1 ∧ tE' (m.map oE) t = none)) := by
 unfold m39
 have L := findLoop (xs := m) (lp := m39_l1 m t true) (fun x => decide (x.To = t)) (fun i _ => (i : Int)) ?_ ?_ ?_ (m.length + 1) 0 (by omega) (by omega)
 ·rw [List.drop_zero] at L
  have hm : tE' (m.map oE) t = (m.find? (fun x => decide (x.To = t))).map oE := by unfold tE'; rw [List.find?_map]; rfl
  rcases L with ⟨j, x, hj, hf, e⟩ | ⟨hf, e⟩
  ·rw [e]
   exact ⟨_, rfl, .inl ⟨j, x, rfl, hj, by rw [hm, hf]; rfl⟩⟩
  ·rw [e]
   exact ⟨_, rfl, .inr ⟨rfl, by rw [hm, hf]; rfl⟩⟩
 ·intro k i x hx h
  rw [m39_l1, if_pos (getq_lt hx), if_pos rfl, hx]
  simp only [Option.bind_some]
  rw [if_pos (of_decide_eq_true h)]
 ·intro k i x hx h
  rw [m39_l1, if_pos (getq_lt hx), if_pos rfl, hx]
  simp only [Option.bind_some]
  rw [if_neg (of_decide_eq_false h)]
 ·intro k i hi
  rw [m39_l1, if_neg hi]
theorem m40_eqT (l : List RP) (c : UInt8) : m40 l c true = some (fo noP (tC (l.map oP) c)).1.From := by
 unfold m40
 have L := findLoop (xs := l) (lp := m40_l1 l c true) (fun x => decide (x.To = c)) (fun _ x => x.From) ?_ ?_ ?_ (l.length + 1) 0 (by omega) (by omega)
 ·rw [List.drop_zero] at L
  have hm : tC (l.map oP) c = (l.find? (fun x => decide (x.To = c))).map oP := by unfold tC; rw [List.find?_map]; rfl
  rcases L with ⟨j, x, hj, hf, e⟩ | ⟨hf, e⟩
  ·rw [e, hm, hf]; rfl
  ·rw [e, hm, hf]; rfl
 ·intro k i x hx h
  rw [m40_l1, if_pos (getq_lt hx), if_pos rfl, hx]
  simp only [Option.bind_some, dec_u8, h, if_true, Bool.false_eq_true, if_false]
 ·intro k i x hx h
  rw [m40_l1, if_pos (getq_lt hx), if_pos rfl, hx]
  simp only [Option.bind_some, dec_u8, h, if_true, Bool.false_eq_true, if_false]
 ·intro k i hi
  rw [m40_l1, if_neg hi]

theorem m16_eq (m : List E) (r : RD) (h1 : r.Fields.length < 20) (h2 : ∀ f ∈ r.Fields, f.Subs.length ≤ 1000000) (h3 : ∀ f ∈ r.Fields, Sml f) : m16 m r = some (bkP m r) := by
 unfold m16
 have e1 : (fun y0 => m45 y0 m) = fun t => some (bkQ2 m t) := by funext t; exact m45_eq m t
 have e2 : m47 = fun e c => some (bkQ3 e c) := by funext e c; exact m47_eq e c
 rw [e1, e2, m41_eq m _ _ _ h1 h2 h3]; rfl
end Go.WK.S
