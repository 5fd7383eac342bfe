/- Plain law, part a, second: Theirs, Same. No program in sight but the models. -/
import Derived.Test.YtidmlhihfanglaaGreatDoorMapsPA
set_option linter.unusedSimpArgs false
set_option linter.unusedVariables false
namespace Go.WK.S
open Go Go.Proofs Go.WK Go.RowKit
set_option maxRecDepth 100000
set_option linter.unusedVariables false
set_option linter.unusedSimpArgs false
theorem m22_l2_eq (m : List E) (i : Nat) (x : E) (hx : m[i]? = some x) (hb : x.Codes.length ≤ 70368744177664) :
  m22_l2 m i 9223372036854775808 0 [] = some (x.Codes.map tP) := by
 have L := foldMap (xs := x.Codes) (lp := fun k acc i' => m22_l2 m i k i' acc) tP ?_ ?_ 9223372036854775808 [] 0 (by omega) (by omega) (by simp)
 ·simpa using L
 ·intro k acc i' p hp ha
  have := getq_lt hp
  simp only [m22_l2, hx, Option.bind_some]
  rw [if_pos this, hp, Option.bind_some, if_pos (by omega)]
  rfl
 ·intro k acc i' hn
  simp only [m22_l2, hx, Option.bind_some]
  rw [if_neg hn]
theorem m22_eq (m : List E) (h1 : m.length ≤ 2513169434916) (h2 : ∀ x ∈ m, x.Codes.length ≤ 70368744177664) : m22 m = some (m.map tE) := by
 have L := foldMap (xs := m) (lp := fun k acc i' => m22_l1 m k acc i') tE ?_ ?_ (m.length + 1) [] 0 (by omega) (by omega) (by simp)
 ·unfold m22
  rw [L]
  simp
 ·intro k acc i' x hx ha
  have := getq_lt hx
  simp only [m22_l1]
  rw [if_pos this, hx]
  simp only [Option.bind_some]
  rw [m22_l2_eq m i' x hx (h2 x (List.mem_of_getElem? hx)), Option.bind_some, if_pos (by omega)]
  rfl
 ·intro k acc i' hn
  simp only [m22_l1]
  rw [if_neg hn]
/-! ### equality of maps -/
theorem m21_l2_self (m : List R) (i : Nat) (x : R) (hx : m[i]? = some x) (hb : x.Codes.length < 9223372036854775808) :
  m21_l2 m m i 9223372036854775808 0 = some (.go ()) := by
 have L := chk (lp := m21_l2 m m i) (n := x.Codes.length) (fun _ => True) (.ret false) ?_ ?_ ?_ 9223372036854775808 0 (by omega) (by omega)
 ·exact L.1 (fun _ _ _ => trivial)
 ·intro k j hj _
  obtain ⟨p, hp⟩ := getq hj
  rw [m21_l2, hx]
  simp only [Option.bind_some]
  rw [if_pos hj, hp]
  simp
 ·intro k j hj hc
  exact absurd trivial hc
 ·intro k j hj
  rw [m21_l2, hx]
  simp only [Option.bind_some]
  rw [if_neg hj]
theorem m21_self (m : List R) (hb : ∀ x ∈ m, x.Codes.length < 9223372036854775808) : m21 m m = some true := by
 unfold m21
 rw [if_pos rfl]
 have L := chk (lp := m21_l1 m m) (n := m.length) (fun _ => True) false ?_ ?_ ?_ (m.length + 1) 0 (by omega) (by omega)
 ·rw [L.1 (fun _ _ _ => trivial)]; rfl
 ·intro k j hj _
  obtain ⟨x, hx⟩ := getq hj
  rw [m21_l1, if_pos hj, hx]
  simp only [Option.bind_some, if_true]
  rw [m21_l2_self m j x hx (hb x (List.mem_of_getElem? hx))]
  rfl
 ·intro k j hj hc
  exact absurd trivial hc
 ·intro k j hj
  rw [m21_l1, if_neg hj]
end Go.WK.S
