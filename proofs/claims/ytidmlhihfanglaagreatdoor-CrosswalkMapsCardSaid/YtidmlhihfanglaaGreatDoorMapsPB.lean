/- Plain law, part b: lines of entries, what reads them, texts of maps. No program in sight but the models. -/
import Derived.Test.YtidmlhihfanglaaGreatDoorMapsPA2
set_option linter.unusedSimpArgs false
set_option linter.unusedVariables false
namespace Go.WK.S
open Go Go.Proofs Go.WK Go.RowKit
set_option maxRecDepth 100000
set_option linter.unusedVariables false
set_option linter.unusedSimpArgs false

/-! ### the line of an entry -/
def piece (p : EP) : Str := [32, p.From, 62, p.To]
def line (x : E) : Str := x.From ++ [32, 62, 32] ++ x.To ++ x.Codes.flatMap piece
theorem piece_len (l : List EP) : (l.flatMap piece).length = 4 * l.length := by
 induction l with
 | nil => rfl
 | cons p l ih => rw [List.flatMap_cons, List.length_append, ih, List.length_cons]; simp [piece]; omega
theorem line_len {x : E} (h : Good x) : 9 ≤ (line x).length ∧ (line x).length ≤ 153 := by
 have a := tagOk_len h.2.1
 have b := tagOk_len h.2.2.1
 have c := okC_len h.1
 have d := piece_len x.Codes
 unfold line
 simp only [List.length_append, List.length_cons, List.length_nil, d]
 omega
theorem m54_eq {x : E} (h : Good x) : m54 x = some (line x) := by
 have a := tagOk_len h.2.1
 have b := tagOk_len h.2.2.1
 have c := okC_len h.1
 have d := piece_len x.Codes
 unfold m54
 rw [if_pos (by simp only [List.length_cons, List.length_nil]; omega), if_pos (by simp only [List.length_append, List.length_cons, List.length_nil]; omega)]
 have L := foldStr (xs := x.Codes) (lp := m54_l1 x) piece 9223372036854775807 ?_ ?_ (x.Codes.length + 1) (x.From ++ [32, 62, 32] ++ x.To) 0 (by omega) (by omega) (by simp only [List.drop_zero, List.length_append, List.length_cons, List.length_nil, d]; omega)
 ·rw [L]; simp [line]
 ·intro k acc i p hp ha
  have hi := getq_lt hp
  have hb : (piece p).length = 4 := rfl
  rw [m54_l1, if_pos hi, hp]
  simp only [Option.bind_some]
  rw [if_pos (by simp only [List.length_cons, List.length_nil]; omega), if_pos (by simp only [List.length_append, List.length_cons, List.length_nil]; omega)]
  rfl
 ·intro k acc i hi
  rw [m54_l1, if_neg hi]
theorem oE_piece (x : R) : (oE x).Codes.flatMap piece = x.Codes.flatMap (fun p => piece (oP p)) := by
 unfold oE
 simp only [List.flatMap_map]
theorem m73_eq {x : R} (h : Good (oE x)) : m73 x = some (line (oE x)) := by
 have a : x.From.length = 3 := tagOk_len h.2.1
 have b : x.To.length = 3 := tagOk_len h.2.2.1
 have c := okC_len h.1
 have d := piece_len (oE x).Codes
 rw [oE_piece] at d
 have hl : (oE x).Codes.length = x.Codes.length := by simp [oE]
 rw [hl] at c d
 unfold m73
 rw [if_pos (by simp only [List.length_cons, List.length_nil]; omega), if_pos (by simp only [List.length_append, List.length_cons, List.length_nil]; omega)]
 have L := foldStr (xs := x.Codes) (lp := m73_l1 x) (fun p => piece (oP p)) 9223372036854775807 ?_ ?_ (x.Codes.length + 1) (x.From ++ [32, 62, 32] ++ x.To) 0 (by omega) (by omega) (by simp only [List.drop_zero, List.length_append, List.length_cons, List.length_nil, d]; omega)
 ·rw [L, List.drop_zero]; simp only [Option.bind_some, line, oE_piece]; rfl
 ·intro k acc i p hp ha
  have hi := getq_lt hp
  have hb : (piece (oP p)).length = 4 := rfl
  rw [m73_l1, if_pos hi, hp]
  simp only [Option.bind_some]
  rw [if_pos (by simp only [List.length_cons, List.length_nil]; omega), if_pos (by simp only [List.length_append, List.length_cons, List.length_nil]; omega)]
  rfl
 ·intro k acc i hi
  rw [m73_l1, if_neg hi]

/-! ### words -/
/-! ### reading: the program's -/
/-! ### reading: the reference's -/

end Go.WK.S
