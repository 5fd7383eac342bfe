/- Plain law: RecordRead. No program in sight but the models. -/
import Derived.Test.YteljaomifdnkkaaGreatDoorReadAwk
set_option linter.unusedSimpArgs false
set_option linter.unusedVariables false
namespace Go.WK.S
open Go Go.Proofs Go.WK Go.RowKit
set_option maxRecDepth 100000
set_option linter.unusedVariables false
set_option linter.unusedSimpArgs false

def withTag (tag : Str) (l : List FD) : List FD := l.filter fun f => decide (f.Tag = tag)
theorem withTag_snoc (tag : Str) {l : List FD} {i : Nat} {f : FD} (h : l[i]? = some f) : withTag tag (l.take (i + 1)) = withTag tag (l.take i) ++ (if f.Tag = tag then [f] else []) := by
 unfold withTag
 rw [List.take_add_one, h, List.filter_append]
 by_cases hf : f.Tag = tag <;> simp [hf]
theorem withTag_len (tag : Str) (l : List FD) : (withTag tag l).length ≤ l.length := List.length_filter_le _ _
theorem m22_l1_eq (r : RD) (tag : Str) (hf : ∀ f ∈ r.Fields, FewF f) (hn : r.Fields.length ≤ 100) : ∀ (k i : Nat), r.Fields.length < k + i → i ≤ r.Fields.length →
  m22_l1 r tag k (withTag tag (r.Fields.take i)) i = some (withTag tag r.Fields) := by
 intro k
 induction k with
 | zero => intro i h1 h2; omega
 | succ k ih =>
  intro i h1 h2
  rw [m22_l1]
  by_cases hi : i < r.Fields.length
  ·obtain ⟨f, hf'⟩ := getq hi
   have hs := (hf f (List.mem_of_getElem? hf')).1
   have hl := withTag_len tag (r.Fields.take i)
   have hl2 : (r.Fields.take i).length ≤ i := by simp only [List.length_take]; omega
   rw [if_pos hi, hf']
   have := ih (i + 1) (by omega) (by omega)
   rw [withTag_snoc tag hf'] at this
   simp only [Option.bind_some]
   by_cases ht : f.Tag = tag
   ·rw [if_pos ht] at this
    unfold m60 m116
    rw [if_pos ht, if_pos (show f.Subs.length ≤ 5864062014805 by omega)]
    simp only [Option.bind_some]
    rw [if_pos (by omega)]
    exact this
   ·rw [if_neg ht, List.append_nil] at this
    rw [if_neg ht]
    exact this
  ·rw [if_neg hi, List.take_of_length_le (by omega)]
theorem m22_eq {r : RD} (tag : Str) (hf : ∀ f ∈ r.Fields, FewF f) (hn : r.Fields.length ≤ 100) : m22 r tag = some (withTag tag r.Fields) := by
 unfold m22
 have := m22_l1_eq r tag hf hn (r.Fields.length + 1) 0 (by omega) (by omega)
 rw [show withTag tag (r.Fields.take 0) = [] from rfl] at this
 rw [this]
 rfl
theorem m23_l1_eq (r : RD) (tag : Str) (hf : ∀ f ∈ r.Fields, FewF f) (hn : r.Fields.length ≤ 100) : ∀ (k i : Nat), r.Fields.length < k + i → i ≤ r.Fields.length →
  m23_l1 r tag k (withTag tag (r.Fields.take i)) i = some (withTag tag r.Fields) := by
 intro k
 induction k with
 | zero => intro i h1 h2; omega
 | succ k ih =>
  intro i h1 h2
  rw [m23_l1]
  by_cases hi : i < r.Fields.length
  ·obtain ⟨f, hf'⟩ := getq hi
   have hs := (hf f (List.mem_of_getElem? hf')).1
   have hl := withTag_len tag (r.Fields.take i)
   have hl2 : (r.Fields.take i).length ≤ i := by simp only [List.length_take]; omega
   rw [if_pos hi, hf']
   have := ih (i + 1) (by omega) (by omega)
   rw [withTag_snoc tag hf'] at this
   simp only [Option.bind_some]
   by_cases ht : f.Tag = tag
   ·rw [if_pos ht] at this
    unfold m61
    rw [if_pos ht, if_pos (by omega)]
    simp only [Option.bind_some, List.nil_append]
    rw [if_pos (by omega)]
    exact this
   ·rw [if_neg ht, List.append_nil] at this
    rw [if_neg ht]
    exact this
  ·rw [if_neg hi, List.take_of_length_le (by omega)]
theorem m23_eq {r : RD} (tag : Str) (hf : ∀ f ∈ r.Fields, FewF f) (hn : r.Fields.length ≤ 100) : m23 r tag = some (withTag tag r.Fields) := by
 unfold m23
 have := m23_l1_eq r tag hf hn (r.Fields.length + 1) 0 (by omega) (by omega)
 rw [show withTag tag (r.Fields.take 0) = [] from rfl] at this
 rw [this]
 rfl
theorem valsS_len (c : UInt8) (l : List D_api_Sub) : (valsS c l).length ≤ l.length := List.length_filterMap_le _ _
theorem m62_l1_eq (f : FD) (c : UInt8) (hn : f.Subs.length ≤ 1000) : ∀ (k i : Nat), f.Subs.length < k + i → i ≤ f.Subs.length →
  m62_l1 f c k (valsS c (f.Subs.take i)) i = some (valsS c f.Subs) := by
 intro k
 induction k with
 | zero => intro i h1 h2; omega
 | succ k ih =>
  intro i h1 h2
  rw [m62_l1]
  by_cases hi : i < f.Subs.length
  ·obtain ⟨s, hs⟩ := getq hi
   have hl := valsS_len c (f.Subs.take i)
   have hl2 : (f.Subs.take i).length ≤ i := by simp only [List.length_take]; omega
   rw [if_pos hi, hs]
   have := ih (i + 1) (by omega) (by omega)
   rw [valsS_snoc c hs] at this
   simp only [Option.bind_some]
   by_cases ht : s.Code = c
   ·rw [if_pos ht] at this
    rw [if_pos (by rw [ht]), if_pos (by omega)]
    exact this
   ·rw [if_neg ht, List.append_nil] at this
    rw [if_neg (fun h => ht (UInt8.toNat_inj.1 h))]
    exact this
  ·rw [if_neg hi, List.take_of_length_le (by omega)]
theorem m62_eq {f : FD} (c : UInt8) (hn : f.Subs.length ≤ 1000) : m62 f c = some (valsS c f.Subs) := by
 unfold m62
 have := m62_l1_eq f c hn (f.Subs.length + 1) 0 (by omega) (by omega)
 rw [show valsS c (f.Subs.take 0) = [] from rfl] at this
 rw [this]
 rfl
theorem vals_tag (tag : Str) (c : UInt8) (l : List FD) : valsF tag c l = (withTag tag l).flatMap fun f => valsS c f.Subs := by
 unfold valsF withTag
 induction l with
 | nil => rfl
 | cons f l ih =>
  rw [List.flatMap_cons, ih, List.filter_cons]
  by_cases h : f.Tag = tag <;> simp [h]
theorem flat_len (c : UInt8) (B : Nat) : ∀ (l : List FD), (∀ f ∈ l, f.Subs.length ≤ B) → (l.flatMap fun f => valsS c f.Subs).length ≤ l.length * B
 | [], _ => by simp
 | f :: l, h => by
  have h1 := flat_len c B l (fun x hx => h x (List.mem_cons_of_mem _ hx))
  have h2 := valsS_len c f.Subs
  have h3 := h f List.mem_cons_self
  simp only [List.flatMap_cons, List.length_append, List.length_cons, Nat.succ_mul]
  omega
theorem m26_l1_eq (c : UInt8) (l : List FD) (hf : ∀ f ∈ l, f.Subs.length ≤ 30) (hn : l.length ≤ 100) : ∀ (k i : Nat), l.length < k + i → i ≤ l.length →
  m26_l1 c l k ((l.take i).flatMap fun f => valsS c f.Subs) i = some (l.flatMap fun f => valsS c f.Subs) := by
 intro k
 induction k with
 | zero => intro i h1 h2; omega
 | succ k ih =>
  intro i h1 h2
  rw [m26_l1]
  by_cases hi : i < l.length
  ·obtain ⟨f, hf'⟩ := getq hi
   have hs := hf f (List.mem_of_getElem? hf')
   have hl := flat_len c 30 (l.take i) (fun x hx => hf x (List.mem_of_mem_take hx))
   have hl2 : (l.take i).length ≤ i := by simp only [List.length_take]; omega
   have hv := valsS_len c f.Subs
   rw [if_pos hi, hf']
   have := ih (i + 1) (by omega) (by omega)
   rw [List.take_add_one, hf', List.flatMap_append] at this
   simp only [Option.bind_some]
   rw [m62_eq c (by omega)]
   simp only [Option.bind_some]
   rw [if_pos (by omega)]
   simpa using this
  ·rw [if_neg hi, List.take_of_length_le (by omega)]
theorem few_subs {f : FD} (h : FewF f) : f.Subs.length ≤ 30 := by have := h.1; omega
theorem m26_eq {r : RD} (tag : Str) (c : UInt8) (hf : ∀ f ∈ r.Fields, FewF f) (hn : r.Fields.length ≤ 100) : m26 r tag c = some (valsF tag c r.Fields) := by
 unfold m26
 rw [show m23 (⟨r.ID, r.Fields⟩ : D_api_Record) tag = _ from m23_eq (r := r) tag hf hn]
 simp only [Option.bind_some]
 have hl := withTag_len tag r.Fields
 have := m26_l1_eq c (withTag tag r.Fields) (fun f h => few_subs (hf f (List.mem_filter.1 h).1)) (by omega) ((withTag tag r.Fields).length + 1) 0 (by omega) (by omega)
 rw [List.take_zero, List.flatMap_nil] at this
 rw [this, vals_tag]
 rfl
theorem m24_l1_eq (a : List Str) : ∀ (k i : Nat), a.length < k + i → i ≤ a.length → m24_l1 a a k i = some (.go ()) := by
 intro k
 induction k with
 | zero => intro i h1 h2; omega
 | succ k ih =>
  intro i h1 h2
  rw [m24_l1]
  by_cases hi : i < a.length
  ·obtain ⟨x, hx⟩ := getq hi
   rw [if_pos hi, hx]
   simp only [Option.bind_some]
   rw [if_pos trivial]
   exact ih (i + 1) (by omega) (by omega)
  ·rw [if_neg hi]
theorem m24_same (a : List Str) : m24 a a = some true := by
 unfold m24
 rw [if_pos rfl, m24_l1_eq a _ 0 (by omega) (by omega)]
 rfl
theorem vals_few {r : RD} (tag : Str) (c : UInt8) (hf : ∀ f ∈ r.Fields, FewF f) (hn : r.Fields.length ≤ 100) : (valsF tag c r.Fields).length ≤ 3000 := by
 rw [vals_tag]
 have h1 := flat_len c 30 (withTag tag r.Fields) (fun f h => few_subs (hf f (List.mem_filter.1 h).1))
 have h2 := withTag_len tag r.Fields
 omega
theorem m25_eq {r : RD} (tag : Str) (c : UInt8) (hf : ∀ f ∈ r.Fields, FewF f) (hn : r.Fields.length ≤ 100) : m25 r tag c = some (valsF tag c r.Fields) := by
 have := vals_few tag c hf hn
 unfold m25
 rw [if_pos (by omega)]
theorem law5 (a0 : RD) (a1 : Str) (a2 : UInt8) : m5 a0 a1 a2 = some true := by
 unfold m5
 rw [awake_true]
 simp only [Option.bind_some]
 rw [if_pos trivial]
 obtain ⟨b, hb, hfew⟩ := m12_eq a0 12
 rw [show m12 (⟨a0.ID, a0.Fields⟩ : D_api_Record) 12 = some b from hb]
 simp only [Option.bind_some]
 by_cases hbt : b = true
 case neg => rw [if_neg hbt]
 rw [if_pos hbt]
 obtain ⟨h12, hf⟩ := hfew hbt
 by_cases h20 : 20 < a1.length
 case pos => rw [if_pos h20]
 have hn : a0.Fields.length ≤ 100 := by omega
 have e26 : m26 (⟨a0.ID, a0.Fields⟩ : D_api_Record) a1 a2 = _ := m26_eq (r := a0) a1 a2 hf hn
 have e20 : m20 (⟨a0.ID, a0.Fields⟩ : D_api_Record) a1 a2 = some (firstOf (valsF a1 a2 a0.Fields)) := by
  unfold m20
  rw [show m26 (⟨(⟨a0.ID, a0.Fields⟩ : D_api_Record).ID, (⟨a0.ID, a0.Fields⟩ : D_api_Record).Fields⟩ : D_api_Record) a1 a2 = _ from e26]
  simp only [Option.bind_some]
  cases valsF a1 a2 a0.Fields with
  | nil => rfl
  | cons x l => rw [if_neg (by simp)]; rfl
 rw [if_neg h20, e20, e26, show m22 (⟨a0.ID, a0.Fields⟩ : D_api_Record) a1 = _ from m22_eq (r := a0) a1 hf hn, show m23 (⟨a0.ID, a0.Fields⟩ : D_api_Record) a1 = _ from m23_eq (r := a0) a1 hf hn, show m25 (⟨a0.ID, a0.Fields⟩ : D_api_Record) a1 a2 = _ from m25_eq (r := a0) a1 a2 hf hn]
 unfold m19
 simp only [Option.bind_some]
 rw [m21_eq, decide_eq_true rfl]
 simp only [Option.bind_some]
 rw [if_pos trivial, m24_same]
 simp only [Option.bind_some]
 rw [if_pos trivial, if_pos trivial]
 simp
end Go.WK.S
