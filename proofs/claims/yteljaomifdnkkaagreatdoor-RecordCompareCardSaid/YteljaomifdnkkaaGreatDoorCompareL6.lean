/- Plain law: RecordCompare. No program in sight but the models. -/
import Derived.Test.YteljaomifdnkkaaGreatDoorCompareE1
set_option linter.unusedSimpArgs false
set_option linter.unusedVariables false
namespace Go.WK.S
open Go Go.Proofs Go.WK Go.RowKit
set_option maxRecDepth 100000
set_option linter.unusedVariables false
set_option linter.unusedSimpArgs false

theorem cmp_self : ∀ a : Str, Lib.compareBytes a a = 0
 | [] => rfl
 | x :: a => by
  unfold Lib.compareBytes
  have : ¬ x < x := by rw [UInt8.lt_iff_toNat_lt]; omega
  rw [if_neg this, if_neg this, cmp_self a]
theorem cmp_swap : ∀ a b : Str, Lib.compareBytes b a = - Lib.compareBytes a b
 | [], [] => rfl
 | [], _ :: _ => rfl
 | _ :: _, [] => rfl
 | x :: a, y :: b => by
  unfold Lib.compareBytes
  have hs := cmp_swap a b
  simp only [UInt8.lt_iff_toNat_lt]
  by_cases h1 : x.toNat < y.toNat
  ·rw [if_neg (by omega), if_pos h1, if_pos h1]; rfl
  ·by_cases h2 : y.toNat < x.toNat
   ·rw [if_pos h2, if_neg h1, if_pos h2]
   ·rw [if_neg h2, if_neg h1, if_neg h1, if_neg h2, hs]
theorem cmp_zero : ∀ a b : Str, Lib.compareBytes a b = 0 → a = b
 | [], [], _ => rfl
 | [], _ :: _, h => by simp [Lib.compareBytes] at h
 | _ :: _, [], h => by simp [Lib.compareBytes] at h
 | x :: a, y :: b, h => by
  unfold Lib.compareBytes at h
  simp only [UInt8.lt_iff_toNat_lt] at h
  by_cases h1 : x.toNat < y.toNat
  ·rw [if_pos h1] at h; omega
  ·by_cases h2 : y.toNat < x.toNat
   ·rw [if_neg h1, if_pos h2] at h; omega
   ·rw [if_neg h1, if_neg h2] at h
    rw [cmp_zero a b h, UInt8.toNat_inj.1 (show x.toNat = y.toNat by omega)]
theorem cmp_trans : ∀ a b c : Str, Lib.compareBytes a b ≤ 0 → Lib.compareBytes b c ≤ 0 → Lib.compareBytes a c ≤ 0
 | [], _, [], _, _ => by simp [Lib.compareBytes]
 | [], _, _ :: _, _, _ => by simp [Lib.compareBytes]
 | _ :: _, [], _, h, _ => by simp [Lib.compareBytes] at h
 | _ :: _, _ :: _, [], _, h => by simp [Lib.compareBytes] at h
 | x :: a, y :: b, z :: c, h1, h2 => by
  unfold Lib.compareBytes at h1 h2 ⊢
  simp only [UInt8.lt_iff_toNat_lt] at h1 h2 ⊢
  by_cases k1 : x.toNat < y.toNat
  ·by_cases k2 : y.toNat < z.toNat
   ·rw [if_pos (by omega)]; omega
   ·by_cases k3 : z.toNat < y.toNat
    ·rw [if_neg k2, if_pos k3] at h2; omega
    ·rw [if_pos (by omega)]; omega
  ·by_cases k2 : y.toNat < x.toNat
   ·rw [if_neg k1, if_pos k2] at h1; omega
   ·rw [if_neg k1, if_neg k2] at h1
    by_cases k3 : y.toNat < z.toNat
    ·rw [if_pos (by omega)]; omega
    ·by_cases k4 : z.toNat < y.toNat
     ·rw [if_neg k3, if_pos k4] at h2; omega
     ·rw [if_neg k3, if_neg k4] at h2
      rw [if_neg (by omega), if_neg (by omega)]
      exact cmp_trans a b c h1 h2
theorem recOk_sm {r : RD} (h : recOk r = true) : ∀ f ∈ r.Fields, Sm f := fun f hf => by
 obtain ⟨_, _, h3⟩ := recOk_id h
 obtain ⟨p1, _, _, p4, p5⟩ := field_parts (h3 f hf)
 exact ⟨by omega, by omega, fun s hs => by have := (textOk_ends (subOk_val (p5 s hs)).2).1.2; omega⟩
theorem recOk_sml {r : RD} (h : recOk r = true) : ∀ f ∈ r.Fields, Sml f := fun f hf s hs => by have := (recOk_sm h f hf).2.2 s hs; omega
theorem m29_eq {r : RD} (h : recOk r = true) : m29 r = some (encR r, 0) := by
 unfold m29
 rw [show m37 (⟨r.ID, r.Fields⟩ : D_api_Record) = _ from m37_eq (r := r) (recOk_sml h), h]
 simp only [Option.bind_some]
 rw [if_pos trivial, show m64 (⟨r.ID, r.Fields⟩ : D_api_Record) = _ from m64_eq (r := r) (recOk_sm h) (by have := (recOk_id h).2.1; omega) (by have := (recOk_id h).1; omega)]
 rfl
theorem m28_eq {r s : RD} (h : recOk r = true) (k : recOk s = true) : m28 r s = some (Lib.compareBytes (encR r) (encR s)) := by
 unfold m28
 rw [show m29 (⟨r.ID, r.Fields⟩ : D_api_Record) = _ from m29_eq h, show m29 (⟨s.ID, s.Fields⟩ : D_api_Record) = _ from m29_eq k]
 rfl
theorem law6 (a0 a1 a2 : RD) : m6 a0 a1 a2 = some true := by
 unfold m6
 rw [awake_true]
 simp only [Option.bind_some]
 rw [if_pos trivial]
 obtain ⟨b0, hb0, hf0⟩ := m12_eq a0 12
 obtain ⟨b1, hb1, hf1⟩ := m12_eq a1 12
 obtain ⟨b2, hb2, hf2⟩ := m12_eq a2 12
 rw [show m12 (⟨a0.ID, a0.Fields⟩ : D_api_Record) 12 = some b0 from hb0, show m12 (⟨a1.ID, a1.Fields⟩ : D_api_Record) 12 = some b1 from hb1, show m12 (⟨a2.ID, a2.Fields⟩ : D_api_Record) 12 = some b2 from hb2]
 simp only [Option.bind_some]
 by_cases h0 : b0 = true
 case neg => rw [if_neg h0]
 by_cases h1 : b1 = true
 case neg => rw [if_pos h0, if_neg h1]
 by_cases h2 : b2 = true
 case neg => rw [if_pos h0, if_pos h1, if_neg h2]
 rw [if_pos h0, if_pos h1, if_pos h2]
 have e27 : ∀ {r : RD}, (∀ f ∈ r.Fields, FewF f) → m27 (⟨r.ID, r.Fields⟩ : D_api_Record) = some (recOk r) := fun {r} h => m27_eq (r := r) fun f hf => (h f hf).sml
 rw [e27 (hf0 h0).2, e27 (hf1 h1).2, e27 (hf2 h2).2]
 simp only [Option.bind_some]
 by_cases k0 : recOk a0 = true
 case neg => rw [if_neg k0]
 by_cases k1 : recOk a1 = true
 case neg => rw [if_pos k0, if_neg k1]
 by_cases k2 : recOk a2 = true
 case neg => rw [if_pos k0, if_pos k1, if_neg k2]
 rw [if_pos k0, if_pos k1, if_pos k2]
 have e28 : ∀ {r s : RD}, recOk r = true → recOk s = true → m28 (⟨r.ID, r.Fields⟩ : D_api_Record) (⟨s.ID, s.Fields⟩ : D_api_Record) = some (Lib.compareBytes (encR r) (encR s)) := fun h k => m28_eq h k
 rw [e28 k0 k1, e28 k1 k2, e28 k0 k2, e28 k1 k0, e28 k0 k0]
 have e17 : m17 (⟨a0.ID, a0.Fields⟩ : D_api_Record) (⟨a1.ID, a1.Fields⟩ : D_api_Record) = some (decide (Lib.compareBytes (encR a0) (encR a1) = 0)) := by
  rw [show m17 (⟨a0.ID, a0.Fields⟩ : D_api_Record) (⟨a1.ID, a1.Fields⟩ : D_api_Record) = some (decide (a0 = a1)) from m17_eq a0 a1]
  congr 1
  have hi : a0 = a1 ↔ Lib.compareBytes (encR a0) (encR a1) = 0 := ⟨fun h => by rw [h]; exact cmp_self _, fun h => encR_inj (by have := (recOk_id k0).1; omega) (by have := (recOk_id k1).1; omega) (cmp_zero _ _ h)⟩
  exact decide_eq_decide.2 hi
 rw [e17]
 have s1 := cmp_swap (encR a0) (encR a1)
 have s2 := cmp_swap (encR a1) (encR a2)
 have s3 := cmp_swap (encR a0) (encR a2)
 have t1 := cmp_trans (encR a0) (encR a1) (encR a2)
 have t2 := cmp_trans (encR a2) (encR a1) (encR a0)
 have d1 := compareBytes_bd (encR a0) (encR a1)
 rw [cmp_self, s1]
 rw [s1, s2, s3] at t2
 generalize Lib.compareBytes (encR a0) (encR a1) = x at *
 generalize Lib.compareBytes (encR a1) (encR a2) = y at *
 generalize Lib.compareBytes (encR a0) (encR a2) = z at *
 simp only [Option.bind_some]
 rw [if_pos (by rw [w64 (by omega)]; omega), if_pos (by simp), if_pos trivial]
 by_cases hx : 0 < x
 ·rw [if_pos hx, if_neg (by omega)]
  by_cases hy : y < 0
  ·rw [if_pos hy]
  ·rw [if_neg hy, decide_eq_true (by have := t2 (by omega) (by omega); omega)]
 ·rw [if_neg hx]
  by_cases hy : 0 < y
  ·rw [if_pos hy]
   by_cases hx' : x < 0
   ·rw [if_pos hx']
   ·rw [if_neg hx', if_neg (by omega), decide_eq_true (by have := t2 (by omega) (by omega); omega)]
  ·rw [if_neg hy, if_pos (t1 (by omega) (by omega))]
   by_cases hx' : x < 0
   ·rw [if_pos hx']
   ·rw [if_neg hx']
    by_cases hy' : y < 0
    ·rw [if_pos hy']
    ·rw [if_neg hy', decide_eq_true (by have := t2 (by omega) (by omega); omega)]
end Go.WK.S
