/- Plain law 5: the composed map. No program in sight but the models. -/
import Derived.Test.YtidmlhihfanglaaGreatDoorMapsPR2
import Derived.Test.YtidmlhihfanglaaGreatDoorMapsPQ
import Derived.Test.YtidmlhihfanglaaGreatDoorMapsAwake
set_option linter.unusedSimpArgs false
set_option linter.unusedVariables false
namespace Go.WK.S
open Go Go.Proofs Go.WK Go.RowKit
set_option maxRecDepth 100000
set_option linter.unusedVariables false
set_option linter.unusedSimpArgs false

/-! ### the composed map -/
def cpF (x : E) (p : EP) : Option EP := (fC x.Codes p.To).map fun y => ⟨p.From, y.To⟩
def ceF (n : List E) (e : E) : Option E := if 0 < (e.Codes.filterMap (cpF (fo noE (fE n e.To)).1)).length then some ⟨e.From, (fo noE (fE n e.To)).1.To, e.Codes.filterMap (cpF (fo noE (fE n e.To)).1)⟩ else none
theorem m26_l2_eq (e : E) (x : E × Bool) (hl : e.Codes.length ≤ 1000000) : m26_l2 e x (e.Codes.length + 1) 0 [] = some (e.Codes.filterMap (cpF x.1)) := by
 have L := foldOpt (xs := e.Codes) (lp := m26_l2 e x) (cpF x.1) ?_ ?_ (e.Codes.length + 1) [] 0 (by omega) (by omega) (by simp)
 ·rw [L]; rfl
 ·intro k acc i p hx ha
  have hi := getq_lt hx
  rw [m26_l2, if_pos hi, hx]
  simp only [Option.bind_some]
  have e0 : (⟨x.1.From, x.1.To, x.1.Codes⟩ : E) = x.1 := rfl
  rw [e0, m44_eq]
  simp only [Option.bind_some, cpF]
  cases hf : fC x.1.Codes p.To with
  | none => simp [fo]
  | some y => simp only [fo, if_true]; rw [if_pos (by omega)]; rfl
 ·intro k acc i hi
  rw [m26_l2, if_neg hi]
theorem m26_l1_eq (m n : List E) (hl : m.length ≤ 1000000) (hc : ∀ e ∈ m, e.Codes.length ≤ 1000000) : m26_l1 m n (m.length + 1) [] 0 = some (m.filterMap (ceF n)) := by
 have L := foldOpt (xs := m) (lp := fun k i acc => m26_l1 m n k acc i) (ceF n) ?_ ?_ (m.length + 1) [] 0 (by omega) (by omega) (by simp)
 ·rw [L]; rfl
 ·intro k acc i e hx ha
  have hi := getq_lt hx
  show m26_l1 m n (k + 1) acc i = _
  rw [m26_l1, if_pos hi, hx]
  simp only [Option.bind_some]
  rw [m43_eq]
  simp only [Option.bind_some]
  rw [m26_l2_eq e _ (hc e (List.mem_of_getElem? hx))]
  simp only [Option.bind_some, ceF]
  by_cases h : 0 < (e.Codes.filterMap (cpF (fo noE (fE n e.To)).1)).length
  ·rw [if_pos h, if_pos h, if_pos (by omega)]; rfl
  ·rw [if_neg h, if_neg h]; simp
 ·intro k acc i hi
  show m26_l1 m n (k + 1) acc i = _
  rw [m26_l1, if_neg hi]
theorem Good.len {e : E} (h : Good e) : e.Codes.length ≤ 36 := okC_len h.1
theorem m26_eq {m n : List E} (hm : Val m) (hn : Val n) : m26 m n = some (m.filterMap (ceF n), 0) := by
 unfold m26
 rw [m27_eq, m27_eq]
 simp only [Option.bind_some]
 rw [if_pos (val_true hm), if_pos (val_true hn), m26_l1_eq m n (by have := hm.2; omega) (fun e he => by have := (Val.good hm e he).len; omega)]
 rfl
theorem comp_val {m n : List E} (hm : Val m) (hn : Val n) : Val (m.filterMap (ceF n)) := by
 have hM := val_iff2.1 hm
 refine val_iff2.2 ⟨fun e' he' => ?_, ?_, by have := List.length_filterMap_le (ceF n) m; omega⟩
 ·obtain ⟨e, he, h⟩ := List.mem_filterMap.1 he'
  unfold ceF at h
  split at h
  ·rename_i h0
   obtain rfl := Option.some.inj h
   have ge := hM.1 e he
   have oe := okC_iff.1 ge.1
   cases hx : fE n e.To with
   | none =>
    exfalso
    rw [hx] at h0
    have : e.Codes.filterMap (cpF (fo noE (none : Option E)).1) = [] := by
     rw [List.filterMap_eq_nil_iff]; intro p _; rfl
    rw [this] at h0
    simp at h0
   | some x =>
    rw [hx] at h0
    have gx := Val.good hn x (fE_mem hx).1
    refine ⟨okC_iff.2 ⟨fun q hq => ?_, ?_⟩, ge.2.1, gx.2.2.1, h0⟩
    ·obtain ⟨p, hp, hq⟩ := List.mem_filterMap.1 hq
     obtain ⟨y, hy, rfl⟩ := Option.map_eq_some_iff.1 hq
     exact ⟨(oe.1 p hp).1, (gx.code (fC_mem hy).1).2⟩
    ·refine List.Pairwise.filterMap (S := fun a b : EP => a.From.toNat < b.From.toNat) _ (fun a a' h b hb b' hb' => ?_) oe.2
     obtain ⟨y, _, rfl⟩ := Option.map_eq_some_iff.1 hb
     obtain ⟨y', _, rfl⟩ := Option.map_eq_some_iff.1 hb'
     exact h
  ·cases h
 ·refine List.Pairwise.filterMap (S := fun a b : E => lt a.From b.From) _ (fun a a' h b hb b' hb' => ?_) hM.2.1
  unfold ceF at hb hb'
  split at hb
  ·obtain rfl := Option.some.inj hb
   split at hb'
   ·obtain rfl := Option.some.inj hb'
    exact h
   ·cases hb'
  ·cases hb

/-! ### places in the composed map -/
/-! ### a field through the composed map -/
theorem ceF_some {n : List E} {e x : E} (h : fE n e.To = some x) : ceF n e = if 0 < (e.Codes.filterMap (cpF x)).length then some ⟨e.From, x.To, e.Codes.filterMap (cpF x)⟩ else none := by
 unfold ceF; rw [h]; rfl
/-! ### sorted, then through a map whose tags stand apart -/
/-! ### records through a map -/
/-! ### the law -/

end Go.WK.S
