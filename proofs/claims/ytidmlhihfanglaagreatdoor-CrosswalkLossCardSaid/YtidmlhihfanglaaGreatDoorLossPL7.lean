/- Plain law 7: what a map that is not lossless loses. No program in sight but the models. -/
import Derived.Test.YtidmlhihfanglaaGreatDoorLossPG
import Derived.KernelRfl
set_option linter.unusedSimpArgs false
set_option linter.unusedVariables false
namespace Go.WK.S
open Go Go.Proofs Go.WK Go.RowKit
set_option maxRecDepth 100000
set_option linter.unusedVariables false
set_option linter.unusedSimpArgs false

/-! ### the witness -/
def wit (t : Str) (c : UInt8) : RD := ⟨1, [⟨t, 32, 32, [⟨c, [120]⟩]⟩]⟩
def BadC (x : E) (w : RD × Bool) : Prop := w.2 = true ∧ ∃ p ∈ x.Codes, w.1 = wit x.From p.From ∧ ∃ q, tC x.Codes p.To = some q ∧ q.From ≠ p.From
def BadE (m : List E) (w : RD × Bool) : Prop := w.2 = true ∧ ∃ x ∈ m, ∃ p ∈ x.Codes, w.1 = wit x.From p.From ∧ ∃ y, tE' m x.To = some y ∧ y.From ≠ x.From
theorem tE_pre {m : List E} (hv : Val m) {i : Nat} {x y : E} (hx : m[i]? = some x) (hy : tE' (m.take i) x.To = some y) : tE' m x.To = some y ∧ y.From ≠ x.From := by
  constructor
  · unfold tE' at hy ⊢
    conv => lhs; rw [← List.take_append_drop i m]
    rw [List.find?_append, hy]; rfl
  · have hm := List.mem_of_find?_eq_some hy
    obtain ⟨j, hj⟩ := List.mem_iff_getElem?.1 hm
    obtain ⟨h1, rfl⟩ := List.getElem?_eq_some_iff.1 hj
    rw [List.length_take] at h1
    obtain ⟨h2, rfl⟩ := List.getElem?_eq_some_iff.1 hx
    have := List.pairwise_iff_getElem.1 (adj_from hv) j i (by omega) h2 (by omega)
    rw [List.getElem_take]
    intro e
    rw [e] at this
    exact lt_irr _ this
theorem tC_pre {l : List EP} (hl : OkC l) {i : Nat} {p q : EP} (hp : l[i]? = some p) (hq : tC (l.take i) p.To = some q) : tC l p.To = some q ∧ q.From ≠ p.From := by
  constructor
  · unfold tC at hq ⊢
    conv => lhs; rw [← List.take_append_drop i l]
    rw [List.find?_append, hq]; rfl
  · have hm := List.mem_of_find?_eq_some hq
    obtain ⟨j, hj⟩ := List.mem_iff_getElem?.1 hm
    obtain ⟨h1, rfl⟩ := List.getElem?_eq_some_iff.1 hj
    rw [List.length_take] at h1
    obtain ⟨h2, rfl⟩ := List.getElem?_eq_some_iff.1 hp
    have := List.pairwise_iff_getElem.1 (adj_code hl) j i (by omega) h2 (by omega)
    rw [List.getElem_take]
    intro e
    rw [e] at this
    omega
theorem w31_l3 (x : E) (ho : OkC x.Codes) : (InjC x.Codes → m31_l3 x (x.Codes.length + 1) 0 0 [] = some (.go (0, []))) ∧ (¬ InjC x.Codes → ∃ b : Fl (RD × Bool) (Int × List FD), (∃ w : RD × Bool, BadC x w ∧ b = .ret w) ∧ m31_l3 x (x.Codes.length + 1) 0 0 [] = some (.ret b)) := by
  refine chkR (lp := fun k i => m31_l3 x k i 0 []) (n := x.Codes.length) _ _ _ ?_ ?_ ?_ (x.Codes.length + 1) 0 (by omega) (by omega)
  · intro k i hi hc
    obtain ⟨p, hp⟩ := getq hi
    have := hc p hp
    show m31_l3 x (k + 1) i 0 [] = _
    rw [m31_l3, if_pos hi, hp]
    simp only [Option.bind_some]
    rw [if_pos (by omega), m47_eq, this]; rfl
  · intro k i hi hc
    obtain ⟨p, hp⟩ := getq hi
    have hn : tC (x.Codes.take i) p.To ≠ none := fun h => hc (fun p' hp' => by obtain rfl := Option.some.inj (hp.symm.trans hp'); exact h)
    obtain ⟨q, hq⟩ := Option.ne_none_iff_exists'.1 hn
    show ∃ b, _ ∧ m31_l3 x (k + 1) i 0 [] = _
    rw [m31_l3, if_pos hi, hp]
    simp only [Option.bind_some]
    rw [if_pos (by omega), m47_eq]
    simp only [Option.bind_some]
    rw [if_pos (fo_some.2 hn)]
    exact ⟨_, ⟨_, ⟨rfl, p, List.mem_of_getElem? hp, rfl, q, tC_pre ho hp hq⟩, rfl⟩, rfl⟩
  · intro k i hi
    show m31_l3 x (k + 1) i 0 [] = _
    rw [m31_l3, if_neg hi]
theorem w31_l2 {m : List E} (hv : Val m) : ((∀ x ∈ m, InjC x.Codes) → m31_l2 m (m.length + 1) 0 0 [] = some (.go (0, []))) ∧ (¬ (∀ x ∈ m, InjC x.Codes) → ∃ w : RD × Bool, (∃ x ∈ m, BadC x w) ∧ m31_l2 m (m.length + 1) 0 0 [] = some (.ret w)) := by
  have L := chkR (lp := fun k i => m31_l2 m k i 0 []) (n := m.length) (fun j => ∀ x, m[j]? = some x → InjC x.Codes) (fun w : RD × Bool => ∃ x ∈ m, BadC x w) (0, []) ?_ ?_ ?_ (m.length + 1) 0 (by omega) (by omega)
  · rw [all_get] at L; exact L
  · intro k i hi hc
    obtain ⟨x, hx⟩ := getq hi
    show m31_l2 m (k + 1) i 0 [] = _
    rw [m31_l2, if_pos hi, hx]
    simp only [Option.bind_some]
    rw [(w31_l3 x (hv.good x (List.mem_of_getElem? hx)).1).1 (hc x hx)]; rfl
  · intro k i hi hc
    obtain ⟨x, hx⟩ := getq hi
    obtain ⟨b, ⟨w, hw, rfl⟩, e⟩ := (w31_l3 x (hv.good x (List.mem_of_getElem? hx)).1).2 (fun h => hc (fun x' hx' => by obtain rfl := Option.some.inj (hx.symm.trans hx'); exact h))
    show ∃ b, _ ∧ m31_l2 m (k + 1) i 0 [] = _
    rw [m31_l2, if_pos hi, hx]
    simp only [Option.bind_some]
    rw [e]
    exact ⟨w, ⟨x, List.mem_of_getElem? hx, hw⟩, rfl⟩
  · intro k i hi
    show m31_l2 m (k + 1) i 0 [] = _
    rw [m31_l2, if_neg hi]
theorem w31_l1 {m : List E} (hv : Val m) : (InjE m → m31_l1 m (m.length + 1) 0 0 [] = some (.go (0, []))) ∧ (¬ InjE m → ∃ w : RD × Bool, BadE m w ∧ m31_l1 m (m.length + 1) 0 0 [] = some (.ret w)) := by
  refine chkR (lp := fun k i => m31_l1 m k i 0 []) (n := m.length) _ _ _ ?_ ?_ ?_ (m.length + 1) 0 (by omega) (by omega)
  · intro k i hi hc
    obtain ⟨p, hp⟩ := getq hi
    have := hc p hp
    show m31_l1 m (k + 1) i 0 [] = _
    rw [m31_l1, if_pos hi, hp]
    simp only [Option.bind_some]
    rw [if_pos (by omega), m46_eq, this]; rfl
  · intro k i hi hc
    obtain ⟨x, hx⟩ := getq hi
    have hn : tE' (m.take i) x.To ≠ none := fun h => hc (fun p' hp' => by obtain rfl := Option.some.inj (hx.symm.trans hp'); exact h)
    obtain ⟨y, hy⟩ := Option.ne_none_iff_exists'.1 hn
    obtain ⟨q, hq⟩ := getq (xs := x.Codes) (i := 0) ((hv.1 i hi x hx).1.2.2.2)
    show ∃ b, _ ∧ m31_l1 m (k + 1) i 0 [] = _
    rw [m31_l1, if_pos hi, hx]
    simp only [Option.bind_some]
    rw [if_pos (by omega), m46_eq]
    simp only [Option.bind_some]
    rw [if_pos (fo_some.2 hn), hq]
    exact ⟨_, ⟨rfl, x, List.mem_of_getElem? hx, q, List.mem_of_getElem? hq, rfl, y, tE_pre hv hx hy⟩, rfl⟩
  · intro k i hi
    show m31_l1 m (k + 1) i 0 [] = _
    rw [m31_l1, if_neg hi]
/-- What the witness is, of a valid map. -/
theorem w31 {m : List E} (hv : Val m) : ∃ w : RD × Bool, m31 m = some w ∧ ((w.2 = false ∧ Inj m) ∨ (¬ Inj m ∧ (BadE m w ∨ InjE m ∧ ∃ x ∈ m, BadC x w))) := by
  unfold m31
  rw [m27_eq]
  simp only [Option.bind_some]
  rw [if_pos (val_true hv)]
  by_cases h1 : InjE m
  · rw [(w31_l1 hv).1 h1]
    simp only [Option.bind_some]
    by_cases h2 : ∀ x ∈ m, InjC x.Codes
    · rw [(w31_l2 hv).1 h2]
      exact ⟨_, rfl, .inl ⟨rfl, h1, h2⟩⟩
    · obtain ⟨w, hw, e⟩ := (w31_l2 hv).2 h2
      rw [e]
      exact ⟨_, rfl, .inr ⟨fun h => h2 h.2, .inr ⟨h1, hw⟩⟩⟩
  · obtain ⟨w, hw, e⟩ := (w31_l1 hv).2 h1
    rw [e]
    exact ⟨_, rfl, .inr ⟨fun h => h1 h.1, .inl hw⟩⟩

/-! ### the witness is covered, and comes back as another -/
theorem find_pw {α κ : Type} [DecidableEq κ] (k : α → κ) : ∀ {xs : List α}, xs.Pairwise (fun a b => k a ≠ k b) → ∀ {x}, x ∈ xs → xs.find? (fun y => decide (k y = k x)) = some x
  | y :: xs, h, x, hx => by
    have h' := List.pairwise_cons.1 h
    rcases List.mem_cons.1 hx with rfl | hx
    · rw [List.find?_cons_of_pos (by simp)]
    · rw [List.find?_cons_of_neg (by simpa using h'.1 x hx)]
      exact find_pw k h'.2 hx
theorem fE_of {m : List E} (hv : Val m) {x : E} (hx : x ∈ m) : fE m x.From = some x :=
  find_pw (fun e : E => e.From) ((adj_from hv).imp (S := fun a b : E => a.From ≠ b.From) (fun {a b} h e => lt_irr b.From (by have h' := h; rw [e] at h'; exact h'))) hx
theorem fC_of {l : List EP} (hl : OkC l) {p : EP} (hp : p ∈ l) : fC l p.From = some p :=
  find_pw (fun e : EP => e.From) ((adj_code hl).imp (S := fun a b : EP => a.From ≠ b.From) (fun {a b} h e => by rw [e] at h; omega)) hp
theorem text_x : textOk [120] = true := by kernel_rfl
theorem ind_32 : indOk 32 = true := rfl
theorem wit_ok {t : Str} {c : UInt8} (ht : tagOk t = true) (hc : isC c = true) : recOk (wit t c) = true := by
  refine recOk_iff.2 ⟨⟨Int.le_refl 1, by show (1 : Int) ≤ 1000000000; omega⟩, ⟨Nat.le_refl 1, by show 1 ≤ 60; omega⟩, fun f hf => ?_⟩
  obtain rfl : f = _ := List.mem_singleton.1 hf
  refine fieldOk_iff.2 ⟨ht, ind_32, ind_32, ⟨Nat.le_refl 1, by show 1 ≤ 20; omega⟩, fun s hs => ?_⟩
  obtain rfl : s = _ := List.mem_singleton.1 hs
  exact ⟨hc, text_x⟩
theorem wit_cov {m : List E} (hv : Val m) {x : E} (hx : x ∈ m) {p : EP} (hp : p ∈ x.Codes) : Cov m (wit x.From p.From) := by
  have g := hv.good x hx
  refine ⟨hv, wit_ok g.2.1 (g.code hp).1, rfl, fun f hf => ?_⟩
  obtain rfl : f = _ := List.mem_singleton.1 hf
  refine (covF_iff hv _).2 ⟨x, fE_of hv hx, fun s hs => ?_⟩
  obtain rfl : s = _ := List.mem_singleton.1 hs
  simp only [fC_of g.1 hp]
  exact fun h => by cases h
/-- Through the map, the witness is this. -/
theorem wit_to {m : List E} (hv : Val m) {x : E} (hx : x ∈ m) {p : EP} (hp : p ∈ x.Codes) : toP m (wit x.From p.From) = (wit x.To p.To, 0) := by
  have g := hv.good x hx
  rw [toP_cov (wit_cov hv hx hp)]
  have q : toQ2 m x.From = (x, x.To, true) := by unfold toQ2; rw [fE_of hv hx]; rfl
  have q3 : toQ3 x p.From = (p.To, true) := by unfold toQ3; rw [fC_of g.1 hp]; rfl
  have e : gF (toQ2 m) toQ3 ⟨x.From, 32, 32, [⟨p.From, [120]⟩]⟩ = ⟨x.To, 32, 32, [⟨p.To, [120]⟩]⟩ := by
    unfold gF
    simp only [q, List.map_cons, List.map_nil, q3]
  show ((⟨1, ssort [gF (toQ2 m) toQ3 ⟨x.From, 32, 32, [⟨p.From, [120]⟩]⟩]⟩ : RD), (0 : Int)) = _
  rw [e]; rfl
theorem wit_back {m : List E} {x : E} {p : EP} (h : (∃ y, tE' m x.To = some y ∧ y.From ≠ x.From) ∨ (tE' m x.To = some x ∧ ∃ q, tC x.Codes p.To = some q ∧ q.From ≠ p.From)) :
    (bkP m (wit x.To p.To)).2 = 0 → (bkP m (wit x.To p.To)).1 ≠ wit x.From p.From := by
  unfold bkP conv
  split
  · split
    · intro h; cases h
    · rename_i hne
      intro _ he
      have hF : ssort ((wit x.To p.To).Fields.filterMap (cvF (bkQ2 m) bkQ3)) = (wit x.From p.From).Fields := congrArg D_api_Record.Fields he
      have hmem : (⟨x.From, 32, 32, [⟨p.From, [120]⟩]⟩ : FD) ∈ ssort ((wit x.To p.To).Fields.filterMap (cvF (bkQ2 m) bkQ3)) := by rw [hF]; exact List.mem_singleton.2 rfl
      obtain ⟨f, hf, hc⟩ := List.mem_filterMap.1 (mem_ssort.1 hmem)
      obtain rfl : f = _ := List.mem_singleton.1 hf
      unfold cvF at hc
      split at hc
      · have hc' := Option.some.inj hc
        rcases h with ⟨y, hy, hyx⟩ | ⟨hx, q, hq, hqp⟩
        · have b2 : bkQ2 m x.To = (y, y.From, true) := by unfold bkQ2; rw [hy]; rfl
          have := congrArg D_api_Field.Tag hc'
          simp only [b2] at this
          exact hyx this
        · have b2 : bkQ2 m x.To = (x, x.From, true) := by unfold bkQ2; rw [hx]; rfl
          have b3 : bkQ3 x p.To = (q.From, true) := by unfold bkQ3; rw [hq]; rfl
          have := congrArg D_api_Field.Subs hc'
          simp only [b2] at this
          have e : cvS bkQ3 (x, x.From, true) ⟨p.To, [120]⟩ = some ⟨q.From, [120]⟩ := by unfold cvS; simp only [b3]; rfl
          rw [List.filterMap_cons_some e] at this
          simp only [List.filterMap_nil, List.cons.injEq, and_true, D_api_Sub.mk.injEq] at this
          exact hqp this
      · cases hc
  · intro h; cases h

theorem law7 (m : List R) (h1 : m.length ≤ 2513169434916) (h2 : ∀ x ∈ m, x.Codes.length ≤ 70368744177664) : m7 m = some true := by
  unfold m7
  rw [awake_true]
  simp only [Option.bind_some, if_true]
  obtain ⟨b, hb⟩ := m11_ok m
  rw [hb]
  simp only [Option.bind_some]
  cases b with
  | false => exact if_neg Bool.false_ne_true
  | true =>
  rw [if_pos rfl, m24_eq]
  simp only [Option.bind_some]
  rcases Classical.em (Val (m.map oE)) with hv | hv
  rotate_left
  · rw [if_neg (fun h => hv (val_iff.1 h))]
  rw [if_pos (val_true hv), m15_eq m h1 h2]
  simp only [Option.bind_some]
  obtain ⟨w, hw, cs⟩ := w31 hv
  obtain ⟨g, hg, hl⟩ := m17_eq (m.map oE)
  rw [hw, hg]
  simp only [Option.bind_some]
  rcases cs with ⟨hf, hi⟩ | ⟨hni, hbad⟩
  · rw [if_pos (hl.2 ⟨hv, hi⟩), hf]; rfl
  rw [if_neg (fun h => hni (hl.1 h).2)]
  have key : w.2 = true ∧ ∃ x ∈ m.map oE, ∃ p ∈ x.Codes, w.1 = wit x.From p.From ∧ ((∃ y, tE' (m.map oE) x.To = some y ∧ y.From ≠ x.From) ∨ (tE' (m.map oE) x.To = some x ∧ ∃ q, tC x.Codes p.To = some q ∧ q.From ≠ p.From)) := by
    rcases hbad with ⟨a, x, hx, p, hp, e, h⟩ | ⟨hie, x, hx, a, p, hp, e, h⟩
    · exact ⟨a, x, hx, p, hp, e, .inl h⟩
    · exact ⟨a, x, hx, p, hp, e, .inr ⟨tE_again hie hx, h⟩⟩
  obtain ⟨a, x, hx, p, hp, e, hback⟩ := key
  rw [if_pos a, e]
  have small : ∀ (t : Str) (c : UInt8), (wit t c).Fields.length < 20 ∧ (∀ f ∈ (wit t c).Fields, FewF f) := by
    intro t c
    refine ⟨by show 1 < 20; omega, fun f hf => ?_⟩
    obtain rfl : f = _ := List.mem_singleton.1 hf
    refine ⟨by show 1 ≤ 21; omega, fun s hs => ?_⟩
    obtain rfl : s = _ := List.mem_singleton.1 hs
    show 1 ≤ 402; omega
  have s1 := small x.From p.From
  have s2 := small x.To p.To
  have C := wit_cov hv hx hp
  obtain ⟨b1, hb1, c1⟩ := m13_eq m (wit x.From p.From) (by have := s1.1; omega) s1.2
  obtain ⟨b2, hb2, c2⟩ := m30_eq (m.map oE) (wit x.From p.From) s1.1 (fun f hf => by have := (s1.2 f hf).1; omega) (fun f hf => (s1.2 f hf).sml)
  rw [hb1, c1.2 C]
  simp only [Option.bind_some, if_true]
  rw [hb2, c2.2 C]
  simp only [Option.bind_some, if_true]
  rw [m14_eq _ (wit x.From p.From) s1.1 (fun f hf => by have := (s1.2 f hf).1; omega) (fun f hf => (s1.2 f hf).sml), wit_to hv hx hp]
  simp only [Option.bind_some]
  rw [m16_eq _ (wit x.To p.To) s2.1 (fun f hf => by have := (s2.2 f hf).1; omega) (fun f hf => (s2.2 f hf).sml)]
  simp only [Option.bind_some, if_true]
  have hb := wit_back (m := m.map oE) (x := x) (p := p) hback
  by_cases h0 : (bkP (m.map oE) (wit x.To p.To)).2 = 0
  · rw [if_pos h0, m18_eq]
    simp only [Option.bind_some]
    rw [decide_eq_false (hb h0)]; rfl
  · rw [if_neg h0]
end Go.WK.S
