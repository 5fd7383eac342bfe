/- Plain law 7: what a map that is not lossless loses. No program in sight but the models. -/
import Derived.Test.YtidmlhihfanglaaGreatDoorMapsPG
import Derived.KernelRfl
set_option linter.unusedSimpArgs false
set_option linter.unusedVariables false
namespace Go.WK.S
open Go Go.Proofs Go.WK Go.RowKit
set_option maxRecDepth 100000
set_option linter.unusedVariables false
set_option linter.unusedSimpArgs false

/-! ### the witness -/
def wit (t : Str) (c : UInt8) : RD := ⟨1, [⟨t, 32, 32, [⟨c, [120]⟩]⟩]⟩
theorem tE_pre {m : List E} (hv : Val m) {i : Nat} {x y : E} (hx : m[i]? = some x) (hy : tE' (m.take i) x.To = some y) : tE' m x.To = some y ∧ y.From ≠ x.From := by
 constructor
 ·unfold tE' at hy ⊢
  conv => lhs; rw [← List.take_append_drop i m]
  rw [List.find?_append, hy]; rfl
 ·have hm := List.mem_of_find?_eq_some hy
  obtain ⟨j, hj⟩ := List.mem_iff_getElem?.1 hm
  obtain ⟨h1, rfl⟩ := List.getElem?_eq_some_iff.1 hj
  rw [List.length_take] at h1
  obtain ⟨h2, rfl⟩ := List.getElem?_eq_some_iff.1 hx
  have := List.pairwise_iff_getElem.1 (adj_from hv) j i (by omega) h2 (by omega)
  rw [List.getElem_take]
  intro e
  rw [e] at this
  exact lt_irr _ this
theorem tC_pre {l : List EP} (hl : OkC l) {i : Nat} {p q : EP} (hp : l[i]? = some p) (hq : tC (l.take i) p.To = some q) : tC l p.To = some q ∧ q.From ≠ p.From := by
 constructor
 ·unfold tC at hq ⊢
  conv => lhs; rw [← List.take_append_drop i l]
  rw [List.find?_append, hq]; rfl
 ·have hm := List.mem_of_find?_eq_some hq
  obtain ⟨j, hj⟩ := List.mem_iff_getElem?.1 hm
  obtain ⟨h1, rfl⟩ := List.getElem?_eq_some_iff.1 hj
  rw [List.length_take] at h1
  obtain ⟨h2, rfl⟩ := List.getElem?_eq_some_iff.1 hp
  have := List.pairwise_iff_getElem.1 (adj_code hl) j i (by omega) h2 (by omega)
  rw [List.getElem_take]
  intro e
  rw [e] at this
  omega
/-! ### the witness is covered, and comes back as another -/
end Go.WK.S
