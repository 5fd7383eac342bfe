/- Plain law 5: the composed map. No program in sight but the models. -/
import Derived.Test.YtidmlhihfanglaaGreatDoorComposePQ
import Derived.Test.YtidmlhihfanglaaGreatDoorComposeAwake
set_option linter.unusedSimpArgs false
set_option linter.unusedVariables false
namespace Go.WK.S
open Go Go.Proofs Go.WK Go.RowKit
set_option maxRecDepth 100000
set_option linter.unusedVariables false
set_option linter.unusedSimpArgs false

/-! ### maps, by pairs -/
theorem adj_pw {α : Type} {R : α → α → Prop} (tr : ∀ a b c, R a b → R b c → R a c) {l : List α} (h : ∀ j, j + 1 < l.length → ∀ x y, l[j]? = some x → l[j + 1]? = some y → R x y) : l.Pairwise R := by
  rw [List.pairwise_iff_getElem]
  intro i j
  induction j with
  | zero => intro _ _ h; omega
  | succ j ih =>
    intro hi hj hij
    have a := h j hj l[j] l[j + 1] (List.getElem?_eq_getElem (by omega)) (List.getElem?_eq_getElem hj)
    by_cases e : i = j
    · subst e; exact a
    · exact tr _ _ _ (ih hi (by omega) (by omega)) a
theorem pw_adj {α : Type} {R : α → α → Prop} {l : List α} (h : l.Pairwise R) {j : Nat} (hj : 0 < j) {x y : α} (hx : l[j - 1]? = some x) (hy : l[j]? = some y) : R x y := by
  obtain ⟨h1, rfl⟩ := List.getElem?_eq_some_iff.1 hx
  obtain ⟨h2, rfl⟩ := List.getElem?_eq_some_iff.1 hy
  exact List.pairwise_iff_getElem.1 h _ _ h1 h2 (by omega)
theorem okC_iff {l : List EP} : OkC l ↔ (∀ p ∈ l, isC p.From = true ∧ isC p.To = true) ∧ l.Pairwise fun a b => a.From.toNat < b.From.toNat := by
  constructor
  · intro h
    refine ⟨fun p hp => ?_, adj_pw (R := fun a b : EP => a.From.toNat < b.From.toNat) (fun a b c => Nat.lt_trans) (fun j hj x y hx hy => ?_)⟩
    · obtain ⟨i, hi⟩ := List.mem_iff_getElem?.1 hp
      have := h i (getq_lt hi) p hi
      exact ⟨this.1, this.2.1⟩
    · exact (h (j + 1) hj y hy).2.2 (by omega) x (by simpa using hx)
  · intro h j _ p hp
    have := h.1 p (List.mem_of_getElem? hp)
    exact ⟨this.1, this.2, fun h0 q hq => pw_adj h.2 h0 hq hp⟩
theorem val_iff2 {m : List E} : Val m ↔ (∀ x ∈ m, Good x) ∧ (m.Pairwise fun a b => lt a.From b.From) ∧ m.length ≤ 60 := by
  constructor
  · intro h
    refine ⟨fun x hx => Val.good h x hx, adj_pw (R := fun a b : E => lt a.From b.From) (fun a b c => lt_trans) (fun j hj x y hx hy => ?_), h.2⟩
    exact (h.1 (j + 1) hj y hy).2 (by omega) x (by simpa using hx)
  · intro h
    refine ⟨fun j _ x hx => ⟨h.1 x (List.mem_of_getElem? hx), fun h0 y hy => pw_adj h.2.1 h0 hy hx⟩, h.2.2⟩

/-! ### the composed map -/
def cpF (x : E) (p : EP) : Option EP := (fC x.Codes p.To).map fun y => ⟨p.From, y.To⟩
def ceF (n : List E) (e : E) : Option E := if 0 < (e.Codes.filterMap (cpF (fo noE (fE n e.To)).1)).length then some ⟨e.From, (fo noE (fE n e.To)).1.To, e.Codes.filterMap (cpF (fo noE (fE n e.To)).1)⟩ else none
theorem m26_l2_eq (e : E) (x : E × Bool) (hl : e.Codes.length ≤ 1000000) : m26_l2 e x (e.Codes.length + 1) 0 [] = some (e.Codes.filterMap (cpF x.1)) := by
  have L := foldOpt (xs := e.Codes) (lp := m26_l2 e x) (cpF x.1) ?_ ?_ (e.Codes.length + 1) [] 0 (by omega) (by omega) (by simp)
  · rw [L]; rfl
  · intro k acc i p hx ha
    have hi := getq_lt hx
    rw [m26_l2, if_pos hi, hx]
    simp only [Option.bind_some]
    have e0 : (⟨x.1.From, x.1.To, x.1.Codes⟩ : E) = x.1 := rfl
    rw [e0, m44_eq]
    simp only [Option.bind_some, cpF]
    cases hf : fC x.1.Codes p.To with
    | none => simp [fo]
    | some y => simp only [fo, if_true]; rw [if_pos (by omega)]; rfl
  · intro k acc i hi
    rw [m26_l2, if_neg hi]
theorem m26_l1_eq (m n : List E) (hl : m.length ≤ 1000000) (hc : ∀ e ∈ m, e.Codes.length ≤ 1000000) : m26_l1 m n (m.length + 1) [] 0 = some (m.filterMap (ceF n)) := by
  have L := foldOpt (xs := m) (lp := fun k i acc => m26_l1 m n k acc i) (ceF n) ?_ ?_ (m.length + 1) [] 0 (by omega) (by omega) (by simp)
  · rw [L]; rfl
  · intro k acc i e hx ha
    have hi := getq_lt hx
    show m26_l1 m n (k + 1) acc i = _
    rw [m26_l1, if_pos hi, hx]
    simp only [Option.bind_some]
    rw [m43_eq]
    simp only [Option.bind_some]
    rw [m26_l2_eq e _ (hc e (List.mem_of_getElem? hx))]
    simp only [Option.bind_some, ceF]
    by_cases h : 0 < (e.Codes.filterMap (cpF (fo noE (fE n e.To)).1)).length
    · rw [if_pos h, if_pos h, if_pos (by omega)]; rfl
    · rw [if_neg h, if_neg h]; simp
  · intro k acc i hi
    show m26_l1 m n (k + 1) acc i = _
    rw [m26_l1, if_neg hi]
theorem Good.len {e : E} (h : Good e) : e.Codes.length ≤ 36 := okC_len h.1
theorem m26_eq {m n : List E} (hm : Val m) (hn : Val n) : m26 m n = some (m.filterMap (ceF n), 0) := by
  unfold m26
  rw [m27_eq, m27_eq]
  simp only [Option.bind_some]
  rw [if_pos (val_true hm), if_pos (val_true hn), m26_l1_eq m n (by have := hm.2; omega) (fun e he => by have := (Val.good hm e he).len; omega)]
  rfl
theorem comp_val {m n : List E} (hm : Val m) (hn : Val n) : Val (m.filterMap (ceF n)) := by
  have hM := val_iff2.1 hm
  refine val_iff2.2 ⟨fun e' he' => ?_, ?_, by have := List.length_filterMap_le (ceF n) m; omega⟩
  · obtain ⟨e, he, h⟩ := List.mem_filterMap.1 he'
    unfold ceF at h
    split at h
    · rename_i h0
      obtain rfl := Option.some.inj h
      have ge := hM.1 e he
      have oe := okC_iff.1 ge.1
      cases hx : fE n e.To with
      | none =>
        exfalso
        rw [hx] at h0
        have : e.Codes.filterMap (cpF (fo noE (none : Option E)).1) = [] := by
          rw [List.filterMap_eq_nil_iff]; intro p _; rfl
        rw [this] at h0
        simp at h0
      | some x =>
        rw [hx] at h0
        have gx := Val.good hn x (fE_mem hx).1
        refine ⟨okC_iff.2 ⟨fun q hq => ?_, ?_⟩, ge.2.1, gx.2.2.1, h0⟩
        · obtain ⟨p, hp, hq⟩ := List.mem_filterMap.1 hq
          obtain ⟨y, hy, rfl⟩ := Option.map_eq_some_iff.1 hq
          exact ⟨(oe.1 p hp).1, (gx.code (fC_mem hy).1).2⟩
        · refine List.Pairwise.filterMap (S := fun a b : EP => a.From.toNat < b.From.toNat) _ (fun a a' h b hb b' hb' => ?_) oe.2
          obtain ⟨y, _, rfl⟩ := Option.map_eq_some_iff.1 hb
          obtain ⟨y', _, rfl⟩ := Option.map_eq_some_iff.1 hb'
          exact h
    · cases h
  · refine List.Pairwise.filterMap (S := fun a b : E => lt a.From b.From) _ (fun a a' h b hb b' hb' => ?_) hM.2.1
    unfold ceF at hb hb'
    split at hb
    · obtain rfl := Option.some.inj hb
      split at hb'
      · obtain rfl := Option.some.inj hb'
        exact h
      · cases hb'
    · cases hb

/-! ### places in the composed map -/
theorem find_fm {α β κ : Type} [DecidableEq κ] {k : α → κ} {k' : β → κ} {g : α → Option β} (hk : ∀ x y, g x = some y → k' y = k x) (t : κ) : ∀ {xs : List α}, xs.Pairwise (fun a b => k a ≠ k b) →
    (xs.filterMap g).find? (fun y => decide (k' y = t)) = (xs.find? (fun x => decide (k x = t))).bind g
  | [], _ => rfl
  | x :: xs, h => by
    have h' := List.pairwise_cons.1 h
    have ih := find_fm hk t h'.2
    by_cases hx : k x = t
    · rw [List.find?_cons_of_pos (by simpa using hx)]
      cases hg : g x with
      | some y =>
        rw [List.filterMap_cons_some hg, List.find?_cons_of_pos (by simpa [hk x y hg] using hx)]
        simp [hg]
      | none =>
        rw [List.filterMap_cons_none hg, ih]
        have : xs.find? (fun x => decide (k x = t)) = none := by
          rw [List.find?_eq_none]
          intro z hz hh
          exact h'.1 z hz (hx.trans (of_decide_eq_true hh).symm)
        rw [this]
        simp [hg]
    · rw [List.find?_cons_of_neg (by simpa using hx)]
      cases hg : g x with
      | some y => rw [List.filterMap_cons_some hg, List.find?_cons_of_neg (by simpa [hk x y hg] using hx), ih]
      | none => rw [List.filterMap_cons_none hg, ih]
theorem ceF_from {n : List E} {e e' : E} (h : ceF n e = some e') : e'.From = e.From := by
  unfold ceF at h
  split at h
  · obtain rfl := Option.some.inj h; rfl
  · cases h
theorem fE_comp {m n : List E} (hm : Val m) (t : Str) : fE (m.filterMap (ceF n)) t = (fE m t).bind (ceF n) :=
  find_fm (k := fun e : E => e.From) (k' := fun e : E => e.From) (fun _ _ => ceF_from) t ((val_iff2.1 hm).2.1.imp (S := fun a b : E => a.From ≠ b.From) (fun {a b} h e => lt_irr b.From (by have h' := h; rw [e] at h'; exact h')))
theorem fC_comp {l : List EP} (x : E) (hl : OkC l) (c : UInt8) : fC (l.filterMap (cpF x)) c = (fC l c).bind (cpF x) :=
  find_fm (k := fun e : EP => e.From) (k' := fun e : EP => e.From) (fun p q h => by
    obtain ⟨y, _, rfl⟩ := Option.map_eq_some_iff.1 h; rfl) c ((okC_iff.1 hl).2.imp (S := fun a b : EP => a.From ≠ b.From) (fun {a b} h e => by rw [e] at h; omega))

/-! ### a field through the composed map -/
def sub1 (l : List EP) (s : SD) : Option SD := (fC l s.Code).map fun p => ⟨p.To, s.Value⟩
def fld1 (e : E) (f : FD) : Option FD := if 0 < (f.Subs.filterMap (sub1 e.Codes)).length then some ⟨e.To, f.Ind_0, f.Ind_1, f.Subs.filterMap (sub1 e.Codes)⟩ else none
theorem cvF_to (m : List E) (f : FD) : cvF (toQ2 m) toQ3 f = (fE m f.Tag).bind (fun e => fld1 e f) := by
  unfold cvF
  cases h : fE m f.Tag with
  | none =>
    have q : toQ2 m f.Tag = (noE, [], false) := by unfold toQ2; rw [h]; rfl
    have : f.Subs.filterMap (cvS toQ3 (toQ2 m f.Tag)) = [] := by
      rw [List.filterMap_eq_nil_iff]; intro s _; unfold cvS; rw [if_neg (fun hh => by rw [q] at hh; cases hh.1)]
    rw [this, if_neg (by simp)]; rfl
  | some e =>
    have q : toQ2 m f.Tag = (e, e.To, true) := by unfold toQ2; rw [h]; rfl
    have : cvS toQ3 (toQ2 m f.Tag) = sub1 e.Codes := by
      funext s
      unfold cvS sub1
      rw [q]
      simp only [toQ3]
      cases fC e.Codes s.Code with
      | none => simp [fo]
      | some p => simp [fo]
    rw [this, q]; rfl
theorem fld1_nil {e : E} {f : FD} (h : e.Codes = []) : fld1 e f = none := by
  unfold fld1
  have : f.Subs.filterMap (sub1 e.Codes) = [] := by
    rw [List.filterMap_eq_nil_iff]; intro s _; unfold sub1; rw [h]; rfl
  rw [this, if_neg (by simp)]
theorem ceF_some {n : List E} {e x : E} (h : fE n e.To = some x) : ceF n e = if 0 < (e.Codes.filterMap (cpF x)).length then some ⟨e.From, x.To, e.Codes.filterMap (cpF x)⟩ else none := by
  unfold ceF; rw [h]; rfl
theorem cvF_comp {m n : List E} (hm : Val m) (f : FD) : cvF (toQ2 (m.filterMap (ceF n))) toQ3 f = (cvF (toQ2 m) toQ3 f).bind (cvF (toQ2 n) toQ3) := by
  rw [cvF_to, cvF_to, fE_comp hm]
  cases h : fE m f.Tag with
  | none => rfl
  | some e =>
    simp only [Option.bind_some]
    have ge := Val.good hm e (fE_mem h).1
    have e2 : (fld1 e f).bind (cvF (toQ2 n) toQ3) = (fE n e.To).bind fun x => (fld1 e f).bind (fld1 x) := by
      unfold fld1
      split
      · simp only [Option.bind_some, cvF_to]; rfl
      · simp
    rw [e2]
    cases hx : fE n e.To with
    | none =>
      have : ceF n e = none := by
        unfold ceF
        rw [hx, if_neg]
        have : e.Codes.filterMap (cpF (fo noE (none : Option E)).1) = [] := by
          rw [List.filterMap_eq_nil_iff]; intro p _; rfl
        rw [this]; simp
      rw [this]; rfl
    | some x =>
      simp only [Option.bind_some]
      have hc : (ceF n e).bind (fun e => fld1 e f) = fld1 ⟨e.From, x.To, e.Codes.filterMap (cpF x)⟩ f := by
        rw [ceF_some hx]
        by_cases h0 : 0 < (e.Codes.filterMap (cpF x)).length
        · rw [if_pos h0]; rfl
        · rw [if_neg h0, fld1_nil (List.length_eq_zero_iff.1 (by simp only; omega))]; rfl
      rw [hc]
      have hs : f.Subs.filterMap (sub1 (e.Codes.filterMap (cpF x))) = (f.Subs.filterMap (sub1 e.Codes)).filterMap (sub1 x.Codes) := by
        rw [List.filterMap_filterMap]
        congr 1
        funext s
        unfold sub1
        rw [fC_comp x ge.1]
        cases fC e.Codes s.Code with
        | none => rfl
        | some p =>
          simp only [Option.bind_some, Option.map_some, cpF]
          cases fC x.Codes p.To <;> rfl
      unfold fld1
      simp only
      rw [hs]
      by_cases h0 : 0 < (f.Subs.filterMap (sub1 e.Codes)).length
      · rw [if_pos h0]; rfl
      · rw [if_neg h0]
        have : f.Subs.filterMap (sub1 e.Codes) = [] := List.length_eq_zero_iff.1 (by omega)
        rw [this, if_neg (by simp)]; rfl

/-! ### sorted, then through a map whose tags stand apart -/
def Apart (g : FD → Option FD) : Prop := ∀ a b x y, g a = some x → g b = some y → (x.Tag = y.Tag ↔ a.Tag = b.Tag)
theorem ssort_fm {g : FD → Option FD} (hg : Apart g) (F : List FD) : ssort ((ssort F).filterMap g) = ssort (F.filterMap g) := by
  refine ssort_of (ssort_srt _) (fun t => ?_)
  rw [ssort_grp]
  by_cases ht : ∃ f ∈ F, ∃ y, g f = some y ∧ y.Tag = t
  · obtain ⟨f0, _, y0, hy0, rfl⟩ := ht
    have key : ∀ X : List FD, grp y0.Tag (X.filterMap g) = (grp f0.Tag X).filterMap g := by
      intro X
      induction X with
      | nil => rfl
      | cons x X ih =>
        cases hx : g x with
        | none =>
          rw [List.filterMap_cons_none hx, ih]
          unfold grp
          rw [List.filter_cons]
          split
          · rw [List.filterMap_cons_none hx]
          · rfl
        | some y =>
          rw [List.filterMap_cons_some hx]
          unfold grp at ih ⊢
          rw [List.filter_cons, List.filter_cons]
          by_cases h : x.Tag = f0.Tag
          · rw [if_pos (decide_eq_true ((hg x f0 y y0 hx hy0).2 h)), if_pos (decide_eq_true h), List.filterMap_cons_some hx, ih]
          · rw [if_neg (by simpa using fun hh => h ((hg x f0 y y0 hx hy0).1 hh)), if_neg (by simpa using h), ih]
    rw [key, key, ssort_grp]
  · have key : ∀ X : List FD, (∀ x ∈ X, x ∈ F) → grp t (X.filterMap g) = [] := by
      intro X hX
      unfold grp; rw [List.filter_eq_nil_iff]
      intro y hy hh
      obtain ⟨x, hx, hxy⟩ := List.mem_filterMap.1 hy
      exact ht ⟨x, hX x hx, y, hxy, of_decide_eq_true hh⟩
    rw [key _ (fun x hx => mem_ssort.1 hx), key _ (fun x hx => hx)]
theorem fm_nil {g : FD → Option FD} (F : List FD) : (ssort F).filterMap g = [] ↔ F.filterMap g = [] := by
  rw [List.filterMap_eq_nil_iff, List.filterMap_eq_nil_iff]
  constructor
  · intro h x hx; exact h x (mem_ssort.2 hx)
  · intro h x hx; exact h x (mem_ssort.1 hx)
theorem fld1_tag {e : E} {f x : FD} (h : fld1 e f = some x) : x.Tag = e.To := by
  unfold fld1 at h
  split at h
  · obtain rfl := Option.some.inj h; rfl
  · cases h
theorem apart_to {n : List E} (hn : n.Pairwise fun a b => a.To ≠ b.To) : Apart (cvF (toQ2 n) toQ3) := by
  intro a b x y ha hb
  rw [cvF_to] at ha hb
  obtain ⟨e, he, hx⟩ := Option.bind_eq_some_iff.1 ha
  obtain ⟨e', he', hy⟩ := Option.bind_eq_some_iff.1 hb
  obtain ⟨m1, t1⟩ := fE_mem he
  obtain ⟨m2, t2⟩ := fE_mem he'
  rw [fld1_tag hx, fld1_tag hy, ← t1, ← t2]
  constructor
  · intro h
    refine Classical.byContradiction fun hne => ?_
    obtain ⟨i, hi⟩ := List.mem_iff_getElem?.1 m1
    obtain ⟨j, hj⟩ := List.mem_iff_getElem?.1 m2
    obtain ⟨h1, rfl⟩ := List.getElem?_eq_some_iff.1 hi
    obtain ⟨h2, rfl⟩ := List.getElem?_eq_some_iff.1 hj
    rcases Nat.lt_trichotomy i j with k | k | k
    · exact List.pairwise_iff_getElem.1 hn i j h1 h2 k h
    · subst k; exact hne rfl
    · exact List.pairwise_iff_getElem.1 hn j i h2 h1 k h.symm
  · intro h
    rw [t1, t2] at h
    rw [h, he'] at he
    rw [Option.some.inj he]

/-! ### records through a map -/
theorem textsub {l : List EP} {e : E} (ge : Good e) (hl : l = e.Codes) {s x : SD} (hs : subOk s = true) (h : sub1 l s = some x) : subOk x = true ∧ x.Value = s.Value := by
  subst hl
  obtain ⟨p, hp, rfl⟩ := Option.map_eq_some_iff.1 h
  simp only [subOk, Bool.and_eq_true] at hs ⊢
  exact ⟨⟨(ge.code (fC_mem hp).1).2, hs.2⟩, trivial⟩
theorem cvF_ok {m : List E} (hm : Val m) {f x : FD} (hf : fieldOk f = true) (h : cvF (toQ2 m) toQ3 f = some x) : fieldOk x = true ∧ x.Subs.length ≤ f.Subs.length ∧ ∀ s ∈ x.Subs, ∃ s' ∈ f.Subs, s.Value = s'.Value := by
  rw [cvF_to] at h
  obtain ⟨e, he, hx⟩ := Option.bind_eq_some_iff.1 h
  have ge := Val.good hm e (fE_mem he).1
  have hF := fieldOk_iff.1 hf
  unfold fld1 at hx
  split at hx
  · rename_i h0
    obtain rfl := Option.some.inj hx
    have hle := List.length_filterMap_le (sub1 e.Codes) f.Subs
    have sb : ∀ s ∈ f.Subs.filterMap (sub1 e.Codes), ∃ s' ∈ f.Subs, subOk s = true ∧ s.Value = s'.Value := by
      intro s hs
      obtain ⟨s', hs', h⟩ := List.mem_filterMap.1 hs
      have := textsub ge rfl (by have := hF.2.2.2.2 s' hs'; simp only [subOk, this.1, this.2]; rfl) h
      exact ⟨s', hs', this.1, this.2⟩
    refine ⟨fieldOk_iff.2 ⟨ge.2.2.1, hF.2.1, hF.2.2.1, by have := hF.2.2.2.1; simp only; omega, fun s hs => ?_⟩, hle, fun s hs => ?_⟩
    · obtain ⟨_, _, h, _⟩ := sb s hs
      simpa [subOk] using h
    · obtain ⟨s', h1, _, h2⟩ := sb s hs
      exact ⟨s', h1, h2⟩
  · cases hx

/-! ### the law -/
theorem m5_l2_eq (n : List R) (i : Nat) (x : R) (hx : n[i]? = some x) (hl : n.length ≤ 1000000) :
    ((∀ j, 0 ≤ j → j < i → ∀ y, n[j]? = some y → x.To ≠ y.To) → m5_l2 n i (i + 1) 0 = some (.go ())) ∧ (¬ (∀ j, 0 ≤ j → j < i → ∀ y, n[j]? = some y → x.To ≠ y.To) → m5_l2 n i (i + 1) 0 = some (.ret (.ret true))) := by
  have hi := getq_lt hx
  refine chk (lp := m5_l2 n i) (n := i) (fun j => ∀ y, n[j]? = some y → x.To ≠ y.To) (.ret true) ?_ ?_ ?_ (i + 1) 0 (by omega) (by omega)
  · intro k j hj hc
    obtain ⟨y, hy⟩ := getq (xs := n) (i := j) (by omega)
    rw [m5_l2, if_pos hj, hx, hy]
    simp only [Option.bind_some]
    rw [if_neg (hc y hy), if_pos (by omega)]
  · intro k j hj hc
    obtain ⟨y, hy⟩ := getq (xs := n) (i := j) (by omega)
    rw [m5_l2, if_pos hj, hx, hy]
    simp only [Option.bind_some]
    rw [if_pos]
    refine Classical.byContradiction fun h => hc (fun y' hy' => ?_)
    obtain rfl := Option.some.inj (hy.symm.trans hy')
    exact h
  · intro k j hj
    rw [m5_l2, if_neg hj]
theorem m5_l1_eq (n : List R) (hl : n.length ≤ 1000000) : (m5_l1 n (n.length + 1) 0 = some (.go ()) ∧ (n.map oE).Pairwise fun a b => a.To ≠ b.To) ∨ m5_l1 n (n.length + 1) 0 = some (.ret true) := by
  have L := chkW (lp := m5_l1 n) (n := n.length) (fun i => ∀ x, n[i]? = some x → ∀ j, 0 ≤ j → j < i → ∀ y, n[j]? = some y → x.To ≠ y.To) true ?_ ?_ (n.length + 1) 0 (by omega) (by omega)
  · rcases L with ⟨e, h⟩ | e
    · refine .inl ⟨e, ?_⟩
      rw [List.pairwise_iff_getElem]
      intro i j hi hj hij
      simp only [List.length_map] at hi hj
      simp only [List.getElem_map]
      exact fun hh => h j (by omega) hj n[j] (List.getElem?_eq_getElem hj) i (by omega) hij n[i] (List.getElem?_eq_getElem hi) hh.symm
    · exact .inr e
  · intro k i hi
    obtain ⟨x, hx⟩ := getq hi
    rw [m5_l1, if_pos hi]
    by_cases h : ∀ j, 0 ≤ j → j < i → ∀ y, n[j]? = some y → x.To ≠ y.To
    · rw [(m5_l2_eq n i x hx hl).1 h]
      exact .inl ⟨rfl, fun x' hx' => by obtain rfl := Option.some.inj (hx.symm.trans hx'); exact h⟩
    · rw [(m5_l2_eq n i x hx hl).2 h]
      exact .inr rfl
  · intro k i hi
    rw [m5_l1, if_neg hi]

theorem toP_eq {m : List E} {r : RD} (hm : Val m) (hr : recOk r = true) : toP m r = if r.Fields.filterMap (cvF (toQ2 m) toQ3) = [] then (⟨0, []⟩, 9) else (⟨r.ID, ssort (r.Fields.filterMap (cvF (toQ2 m) toQ3))⟩, 0) := by
  unfold toP conv
  rw [if_pos (by rw [val_true hm, hr]; rfl)]
theorem toP_rec {m : List E} {r : RD} (hm : Val m) (hr : recOk r = true) (hne : r.Fields.filterMap (cvF (toQ2 m) toQ3) ≠ []) : recOk ⟨r.ID, ssort (r.Fields.filterMap (cvF (toQ2 m) toQ3))⟩ = true := by
  have hR := recOk_iff.1 hr
  refine recOk_iff.2 ⟨hR.1, ?_, fun x hx => ?_⟩
  · have h1 := List.length_filterMap_le (cvF (toQ2 m) toQ3) r.Fields
    have h2 : (r.Fields.filterMap (cvF (toQ2 m) toQ3)).length ≠ 0 := fun h => hne (List.length_eq_zero_iff.1 h)
    simp only [ssort_len]
    omega
  · obtain ⟨f, hf, h⟩ := List.mem_filterMap.1 (mem_ssort.1 hx)
    exact (cvF_ok hm (hR.2.2 f hf) h).1
/-- Through the composed map, as through the one and then the other. -/
theorem toP_comp {m n : List E} {r : RD} (hm : Val m) (hn : Val n) (hr : recOk r = true) (ha : n.Pairwise fun a b => a.To ≠ b.To) :
    toP (m.filterMap (ceF n)) r = if (toP m r).2 = 0 then toP n (toP m r).1 else toP m r := by
  have e : r.Fields.filterMap (cvF (toQ2 (m.filterMap (ceF n))) toQ3) = (r.Fields.filterMap (cvF (toQ2 m) toQ3)).filterMap (cvF (toQ2 n) toQ3) := by
    rw [List.filterMap_filterMap]
    congr 1
    funext f
    exact cvF_comp hm f
  rw [toP_eq (comp_val hm hn) hr, toP_eq hm hr, e]
  by_cases h : r.Fields.filterMap (cvF (toQ2 m) toQ3) = []
  · rw [h, if_pos rfl, if_pos (show List.filterMap (cvF (toQ2 n) toQ3) [] = [] from rfl), if_neg (by simp)]
  · rw [if_neg h, if_pos rfl, toP_eq hn (toP_rec hm hr h)]
    simp only [fm_nil, ssort_fm (apart_to ha)]

theorem law5 (m n : List R) (r : RD) (h1 : m.length ≤ 2513169434916) (h2 : ∀ x ∈ m, x.Codes.length ≤ 70368744177664) (h3 : n.length ≤ 2513169434916) (h4 : ∀ x ∈ n, x.Codes.length ≤ 70368744177664) : m5 m n r = some true := by
  unfold m5
  rw [awake_true]
  simp only [Option.bind_some, if_true]
  obtain ⟨b, hb⟩ := m11_ok m
  rw [hb]
  simp only [Option.bind_some]
  cases b with
  | false => exact if_neg Bool.false_ne_true
  | true =>
  obtain ⟨c, hc⟩ := m11_ok n
  rw [if_pos rfl, hc]
  simp only [Option.bind_some]
  cases c with
  | false => exact if_neg Bool.false_ne_true
  | true =>
  obtain ⟨d, hd, few⟩ := m12_eq r 12
  rw [if_pos rfl, hd]
  simp only [Option.bind_some]
  cases d with
  | false => exact if_neg Bool.false_ne_true
  | true =>
  obtain ⟨f1, f2⟩ := few rfl
  rw [if_pos rfl, m24_eq]
  simp only [Option.bind_some]
  rcases Classical.em (Val (m.map oE)) with hm | hm
  rotate_left
  · rw [if_neg (fun h => hm (val_iff.1 h))]
  rw [if_pos (val_true hm), m24_eq]
  simp only [Option.bind_some]
  rcases Classical.em (Val (n.map oE)) with hn | hn
  rotate_left
  · rw [if_neg (fun h => hn (val_iff.1 h))]
  rw [if_pos (val_true hn), m25_eq (r := r) (fun f hf => (f2 f hf).sml)]
  simp only [Option.bind_some]
  rcases Classical.em (recOk r = true) with hr | hr
  rotate_left
  · rw [if_neg hr]
  rw [if_pos hr]
  rcases m5_l1_eq n (by have := hn.2; simp only [List.length_map] at this; omega) with ⟨e, ha⟩ | e
  rotate_left
  · rw [e]; rfl
  rw [e, m15_eq m h1 h2, m15_eq n h3 h4]
  simp only [Option.bind_some]
  rw [m26_eq hm hn]
  simp only [Option.bind_some, if_true]
  rw [m27_eq, val_true (comp_val hm hn)]
  simp only [Option.bind_some, if_true]
  have s1 : r.Fields.length < 20 := by omega
  have s2 : ∀ f ∈ r.Fields, f.Subs.length ≤ 1000000 := fun f hf => by have := (f2 f hf).1; omega
  have s3 : ∀ f ∈ r.Fields, Sml f := fun f hf => (f2 f hf).sml
  rw [m14_eq _ r s1 s2 s3, m14_eq _ r s1 s2 s3, toP_comp hm hn hr ha]
  simp only [Option.bind_some]
  have hR := recOk_iff.1 hr
  have hT := toP_eq hm hr
  by_cases h : r.Fields.filterMap (cvF (toQ2 (m.map oE)) toQ3) = []
  · rw [if_pos h] at hT
    rw [hT]
    simp [m18_eq]
  · rw [if_neg h] at hT
    rw [hT]
    simp only [if_true]
    have mem : ∀ x ∈ ssort (r.Fields.filterMap (cvF (toQ2 (m.map oE)) toQ3)), x.Subs.length ≤ 1000000 ∧ Sml x := by
      intro x hx
      obtain ⟨f, hf, hfx⟩ := List.mem_filterMap.1 (mem_ssort.1 hx)
      obtain ⟨_, a, b⟩ := cvF_ok hm (hR.2.2 f hf) hfx
      refine ⟨by have := s2 f hf; omega, fun s hs => ?_⟩
      obtain ⟨s', hs', ev⟩ := b s hs
      rw [ev]; exact s3 f hf s' hs'
    rw [m14_eq (n.map oE) ⟨r.ID, ssort (r.Fields.filterMap (cvF (toQ2 (m.map oE)) toQ3))⟩ (by
      have := List.length_filterMap_le (cvF (toQ2 (m.map oE)) toQ3) r.Fields
      simp only [ssort_len]; omega) (fun x hx => (mem x hx).1) (fun x hx => (mem x hx).2)]
    simp only [Option.bind_some, if_true, m18_eq, decide_true]
end Go.WK.S
