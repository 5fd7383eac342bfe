
/- Plain law 3: what a map covers; to and back again. No program in sight but the models. -/
import Derived.Test.YtidmlhihfanglaaGreatDoorConvertPQ2
import Derived.Test.YtidmlhihfanglaaGreatDoorConvertPS2
import Derived.Test.YtidmlhihfanglaaGreatDoorConvertAwake
set_option linter.unusedSimpArgs false
set_option linter.unusedVariables false
namespace Go.WK.S
open Go Go.Proofs Go.WK Go.RowKit
set_option maxRecDepth 100000
set_option linter.unusedVariables false
set_option linter.unusedSimpArgs false

/-! ### what a map covers -/
def CovF (m : List E) (f : FD) : Prop := ∃ e, fE m f.Tag = some e ∧ ∀ s ∈ f.Subs, (fo noP (fC e.Codes s.Code)).1.To.toNat ≠ 0
theorem m13_l2_eq (m : List R) (r : RD) (i n : Nat) (f : FD) (x : R) (hf : r.Fields[i]? = some f) (hx : m[n]? = some x) (hl : f.Subs.length ≤ 1000000) :
  ((∀ s ∈ f.Subs, (fo noP (fC (oE x).Codes s.Code)).1.To.toNat ≠ 0) → m13_l2 m r i (n : Int) 9223372036854775808 0 = some (.go ())) ∧ (¬ (∀ s ∈ f.Subs, (fo noP (fC (oE x).Codes s.Code)).1.To.toNat ≠ 0) → m13_l2 m r i (n : Int) 9223372036854775808 0 = some (.ret (.ret false))) := by
 have L := chk (lp := m13_l2 m r i (n : Int)) (n := f.Subs.length) (fun j => ∀ s, f.Subs[j]? = some s → (fo noP (fC (oE x).Codes s.Code)).1.To.toNat ≠ 0) (.ret false) ?_ ?_ ?_ 9223372036854775808 0 (by omega) (by omega)
 ·rw [all_get] at L; exact L
 ·intro k j hj hc
  obtain ⟨s, hs⟩ := getq hj
  rw [m13_l2, hf]
  simp only [Option.bind_some]
  rw [if_pos hj, at?_of hx]
  simp only [Option.bind_some]
  rw [hs]
  simp only [Option.bind_some]
  rw [m40_eq, show x.Codes.map oP = (oE x).Codes from rfl]
  simp only [Option.bind_some]
  rw [if_neg (hc s hs)]
 ·intro k j hj hc
  obtain ⟨s, hs⟩ := getq hj
  rw [m13_l2, hf]
  simp only [Option.bind_some]
  rw [if_pos hj, at?_of hx]
  simp only [Option.bind_some]
  rw [hs]
  simp only [Option.bind_some]
  rw [m40_eq, show x.Codes.map oP = (oE x).Codes from rfl]
  simp only [Option.bind_some]
  rw [if_pos]
  refine Classical.byContradiction fun h => hc (fun s' hs' => ?_)
  obtain rfl := Option.some.inj (hs.symm.trans hs')
  exact h
 ·intro k j hj
  rw [m13_l2, hf]
  simp only [Option.bind_some]
  rw [if_neg hj]
theorem m13_l1_eq (m : List R) (r : RD) (h2 : ∀ f ∈ r.Fields, f.Subs.length ≤ 1000000) :
  ((∀ f ∈ r.Fields, CovF (m.map oE) f) → m13_l1 m r (r.Fields.length + 1) 0 = some (.go ())) ∧ (¬ (∀ f ∈ r.Fields, CovF (m.map oE) f) → m13_l1 m r (r.Fields.length + 1) 0 = some (.ret false)) := by
 have L := chk (lp := m13_l1 m r) (n := r.Fields.length) (fun j => ∀ f, r.Fields[j]? = some f → CovF (m.map oE) f) false ?_ ?_ ?_ (r.Fields.length + 1) 0 (by omega) (by omega)
 ·rw [all_get] at L; exact L
 ·intro k i hi hc
  obtain ⟨f, hf⟩ := getq hi
  obtain ⟨e, he, hs⟩ := hc f hf
  rw [m13_l1, if_pos hi, hf]
  simp only [Option.bind_some]
  obtain ⟨j, hj, ⟨n, x, rfl, hx, h⟩ | ⟨_, h⟩⟩ := m39_eq m f.Tag
  ·rw [hj]
   simp only [Option.bind_some]
   obtain rfl := Option.some.inj (h.symm.trans he)
   rw [if_neg (by omega), (m13_l2_eq m r i n f x hf hx (h2 f (List.mem_of_getElem? hf))).1 hs]; rfl
  ·rw [he] at h; cases h
 ·intro k i hi hc
  obtain ⟨f, hf⟩ := getq hi
  rw [m13_l1, if_pos hi, hf]
  simp only [Option.bind_some]
  obtain ⟨j, hj, ⟨n, x, rfl, hx, h⟩ | ⟨rfl, h⟩⟩ := m39_eq m f.Tag
  ·rw [hj]
   simp only [Option.bind_some]
   rw [if_neg (by omega), (m13_l2_eq m r i n f x hf hx (h2 f (List.mem_of_getElem? hf))).2]
   ·rfl
   ·intro hh
    refine hc (fun f' hf' => ?_)
    obtain rfl := Option.some.inj (hf.symm.trans hf')
    exact ⟨_, h, hh⟩
  ·rw [hj]
   simp only [Option.bind_some]
   rw [if_pos (by decide)]
 ·intro k i hi
  rw [m13_l1, if_neg hi]
def Cov (m : List E) (r : RD) : Prop := Val m ∧ recOk r = true ∧ ssort r.Fields = r.Fields ∧ ∀ f ∈ r.Fields, CovF m f
theorem m13_eq (m : List R) (r : RD) (h1 : r.Fields.length ≤ 10000) (h2 : ∀ f ∈ r.Fields, FewF f) : ∃ b, m13 m r = some b ∧ (b = true ↔ Cov (m.map oE) r) := by
 unfold m13
 rw [m24_eq]
 simp only [Option.bind_some]
 by_cases hv : Val (m.map oE)
 ·rw [if_pos (val_true hv), m25_eq (r := r) (fun f hf => (h2 f hf).sml)]
  simp only [Option.bind_some]
  by_cases hr : recOk r = true
  ·rw [if_pos hr, m38_eq r h1 (fun f hf => by have := (h2 f hf).1; omega)]
   simp only [Option.bind_some]
   rw [m18_eq]
   simp only [Option.bind_some]
   by_cases hs : ssort r.Fields = r.Fields
   ·rw [if_pos (by rw [hs]; exact decide_eq_true rfl)]
    by_cases hc : ∀ f ∈ r.Fields, CovF (m.map oE) f
    ·rw [(m13_l1_eq m r (fun f hf => by have := (h2 f hf).1; omega)).1 hc]
     exact ⟨_, rfl, fun _ => ⟨hv, hr, hs, hc⟩, fun _ => rfl⟩
    ·rw [(m13_l1_eq m r (fun f hf => by have := (h2 f hf).1; omega)).2 hc]
     exact ⟨_, rfl, fun h => (by cases h), fun h => absurd h.2.2.2 hc⟩
   ·rw [if_neg]
    ·exact ⟨_, rfl, fun h => (by cases h), fun h => absurd h.2.2.1 hs⟩
    ·intro hh
     exact hs (congrArg D_api_Record.Fields (of_decide_eq_true hh))
  ·rw [if_neg hr]
   exact ⟨_, rfl, fun h => (by cases h), fun h => absurd h.2.1 hr⟩
 ·rw [if_neg (fun h => hv (val_iff.1 h))]
  exact ⟨_, rfl, fun h => (by cases h), fun h => absurd h.1 hv⟩

/-! ### fields converted whole -/
/-! ### finding again -/
end Go.WK.S
