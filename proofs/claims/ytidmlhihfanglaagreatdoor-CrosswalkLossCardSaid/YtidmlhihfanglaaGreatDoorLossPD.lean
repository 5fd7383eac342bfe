/- Plain law 3: what a map covers; to and back again. No program in sight but the models. -/
import Derived.Test.YtidmlhihfanglaaGreatDoorLossPQ2
import Derived.Test.YtidmlhihfanglaaGreatDoorLossPS2
import Derived.Test.YtidmlhihfanglaaGreatDoorLossAwake
set_option linter.unusedSimpArgs false
set_option linter.unusedVariables false
namespace Go.WK.S
open Go Go.Proofs Go.WK Go.RowKit
set_option maxRecDepth 100000
set_option linter.unusedVariables false
set_option linter.unusedSimpArgs false

/-! ### what a map covers -/
def CovF (m : List E) (f : FD) : Prop := ∃ e, fE m f.Tag = some e ∧ ∀ s ∈ f.Subs, (fo noP (fC e.Codes s.Code)).1.To.toNat ≠ 0
theorem m13_l2_eq (m : List R) (r : RD) (i n : Nat) (f : FD) (x : R) (hf : r.Fields[i]? = some f) (hx : m[n]? = some x) (hl : f.Subs.length ≤ 1000000) :
    ((∀ s ∈ f.Subs, (fo noP (fC (oE x).Codes s.Code)).1.To.toNat ≠ 0) → m13_l2 m r i (n : Int) 9223372036854775808 0 = some (.go ())) ∧ (¬ (∀ s ∈ f.Subs, (fo noP (fC (oE x).Codes s.Code)).1.To.toNat ≠ 0) → m13_l2 m r i (n : Int) 9223372036854775808 0 = some (.ret (.ret false))) := by
  have L := chk (lp := m13_l2 m r i (n : Int)) (n := f.Subs.length) (fun j => ∀ s, f.Subs[j]? = some s → (fo noP (fC (oE x).Codes s.Code)).1.To.toNat ≠ 0) (.ret false) ?_ ?_ ?_ 9223372036854775808 0 (by omega) (by omega)
  · rw [all_get] at L; exact L
  · intro k j hj hc
    obtain ⟨s, hs⟩ := getq hj
    rw [m13_l2, hf]
    simp only [Option.bind_some]
    rw [if_pos hj, at?_of hx]
    simp only [Option.bind_some]
    rw [hs]
    simp only [Option.bind_some]
    rw [m40_eq, show x.Codes.map oP = (oE x).Codes from rfl]
    simp only [Option.bind_some]
    rw [if_neg (hc s hs)]
  · intro k j hj hc
    obtain ⟨s, hs⟩ := getq hj
    rw [m13_l2, hf]
    simp only [Option.bind_some]
    rw [if_pos hj, at?_of hx]
    simp only [Option.bind_some]
    rw [hs]
    simp only [Option.bind_some]
    rw [m40_eq, show x.Codes.map oP = (oE x).Codes from rfl]
    simp only [Option.bind_some]
    rw [if_pos]
    refine Classical.byContradiction fun h => hc (fun s' hs' => ?_)
    obtain rfl := Option.some.inj (hs.symm.trans hs')
    exact h
  · intro k j hj
    rw [m13_l2, hf]
    simp only [Option.bind_some]
    rw [if_neg hj]
theorem m13_l1_eq (m : List R) (r : RD) (h2 : ∀ f ∈ r.Fields, f.Subs.length ≤ 1000000) :
    ((∀ f ∈ r.Fields, CovF (m.map oE) f) → m13_l1 m r (r.Fields.length + 1) 0 = some (.go ())) ∧ (¬ (∀ f ∈ r.Fields, CovF (m.map oE) f) → m13_l1 m r (r.Fields.length + 1) 0 = some (.ret false)) := by
  have L := chk (lp := m13_l1 m r) (n := r.Fields.length) (fun j => ∀ f, r.Fields[j]? = some f → CovF (m.map oE) f) false ?_ ?_ ?_ (r.Fields.length + 1) 0 (by omega) (by omega)
  · rw [all_get] at L; exact L
  · intro k i hi hc
    obtain ⟨f, hf⟩ := getq hi
    obtain ⟨e, he, hs⟩ := hc f hf
    rw [m13_l1, if_pos hi, hf]
    simp only [Option.bind_some]
    obtain ⟨j, hj, ⟨n, x, rfl, hx, h⟩ | ⟨_, h⟩⟩ := m39_eq m f.Tag
    · rw [hj]
      simp only [Option.bind_some]
      obtain rfl := Option.some.inj (h.symm.trans he)
      rw [if_neg (by omega), (m13_l2_eq m r i n f x hf hx (h2 f (List.mem_of_getElem? hf))).1 hs]; rfl
    · rw [he] at h; cases h
  · intro k i hi hc
    obtain ⟨f, hf⟩ := getq hi
    rw [m13_l1, if_pos hi, hf]
    simp only [Option.bind_some]
    obtain ⟨j, hj, ⟨n, x, rfl, hx, h⟩ | ⟨rfl, h⟩⟩ := m39_eq m f.Tag
    · rw [hj]
      simp only [Option.bind_some]
      rw [if_neg (by omega), (m13_l2_eq m r i n f x hf hx (h2 f (List.mem_of_getElem? hf))).2]
      · rfl
      · intro hh
        refine hc (fun f' hf' => ?_)
        obtain rfl := Option.some.inj (hf.symm.trans hf')
        exact ⟨_, h, hh⟩
    · rw [hj]
      simp only [Option.bind_some]
      rw [if_pos (by decide)]
  · intro k i hi
    rw [m13_l1, if_neg hi]
def Cov (m : List E) (r : RD) : Prop := Val m ∧ recOk r = true ∧ ssort r.Fields = r.Fields ∧ ∀ f ∈ r.Fields, CovF m f
theorem m13_eq (m : List R) (r : RD) (h1 : r.Fields.length ≤ 10000) (h2 : ∀ f ∈ r.Fields, FewF f) : ∃ b, m13 m r = some b ∧ (b = true ↔ Cov (m.map oE) r) := by
  unfold m13
  rw [m24_eq]
  simp only [Option.bind_some]
  by_cases hv : Val (m.map oE)
  · rw [if_pos (val_true hv), m25_eq (r := r) (fun f hf => (h2 f hf).sml)]
    simp only [Option.bind_some]
    by_cases hr : recOk r = true
    · rw [if_pos hr, m38_eq r h1 (fun f hf => by have := (h2 f hf).1; omega)]
      simp only [Option.bind_some]
      rw [m18_eq]
      simp only [Option.bind_some]
      by_cases hs : ssort r.Fields = r.Fields
      · rw [if_pos (by rw [hs]; exact decide_eq_true rfl)]
        by_cases hc : ∀ f ∈ r.Fields, CovF (m.map oE) f
        · rw [(m13_l1_eq m r (fun f hf => by have := (h2 f hf).1; omega)).1 hc]
          exact ⟨_, rfl, fun _ => ⟨hv, hr, hs, hc⟩, fun _ => rfl⟩
        · rw [(m13_l1_eq m r (fun f hf => by have := (h2 f hf).1; omega)).2 hc]
          exact ⟨_, rfl, fun h => (by cases h), fun h => absurd h.2.2.2 hc⟩
      · rw [if_neg]
        · exact ⟨_, rfl, fun h => (by cases h), fun h => absurd h.2.2.1 hs⟩
        · intro hh
          exact hs (congrArg D_api_Record.Fields (of_decide_eq_true hh))
    · rw [if_neg hr]
      exact ⟨_, rfl, fun h => (by cases h), fun h => absurd h.2.1 hr⟩
  · rw [if_neg (fun h => hv (val_iff.1 h))]
    exact ⟨_, rfl, fun h => (by cases h), fun h => absurd h.1 hv⟩

/-! ### fields converted whole -/
def gF (q2 : Q2) (q3 : Q3) (f : FD) : FD := ⟨(q2 f.Tag).2.1, f.Ind_0, f.Ind_1, f.Subs.map fun s => ⟨(q3 (q2 f.Tag).1 s.Code).1, s.Value⟩⟩
theorem filterMap_some {α β : Type} {f : α → Option β} {g : α → β} : ∀ {xs : List α}, (∀ x ∈ xs, f x = some (g x)) → xs.filterMap f = xs.map g
  | [], _ => rfl
  | x :: xs, h => by rw [List.filterMap_cons, h x (by simp), List.map_cons, filterMap_some (fun y hy => h y (by simp [hy]))]
theorem cvF_some {q2 : Q2} {q3 : Q3} {f : FD} (h1 : (q2 f.Tag).2.2 = true) (h2 : ∀ s ∈ f.Subs, (q3 (q2 f.Tag).1 s.Code).2 = true) (h3 : 1 ≤ f.Subs.length) : cvF q2 q3 f = some (gF q2 q3 f) := by
  have e : f.Subs.filterMap (cvS q3 (q2 f.Tag)) = f.Subs.map fun s => ⟨(q3 (q2 f.Tag).1 s.Code).1, s.Value⟩ :=
    filterMap_some (fun s hs => by unfold cvS; rw [if_pos ⟨h1, h2 s hs⟩])
  unfold cvF gF
  rw [e, if_pos (by rw [List.length_map]; omega)]
theorem round {F : List FD} {g h : FD → FD} (h1 : ∀ f ∈ F, h (g f) = f) (h2 : ∀ a ∈ F, ∀ b ∈ F, ((g a).Tag = (g b).Tag ↔ a.Tag = b.Tag)) : ssort ((ssort (F.map g)).map h) = ssort F := by
  refine ssort_of (ssort_srt _) (fun t => ?_)
  rw [ssort_grp]
  have hm : ∀ x ∈ ssort (F.map g), ∃ f ∈ F, g f = x := fun x hx => by
    rw [mem_ssort, List.mem_map] at hx; exact hx
  by_cases ht : ∃ f ∈ F, f.Tag = t
  · obtain ⟨f0, hf0, rfl⟩ := ht
    have a : grp f0.Tag ((ssort (F.map g)).map h) = (grp (g f0).Tag (ssort (F.map g))).map h := by
      unfold grp
      rw [List.filter_map]
      congr 1
      apply List.filter_congr
      intro x hx
      obtain ⟨f, hf, rfl⟩ := hm x hx
      simp only [Function.comp_def, h1 f hf]
      rw [decide_eq_decide]
      exact (h2 f hf f0 hf0).symm
    rw [a, ssort_grp]
    have b : grp (g f0).Tag (F.map g) = (grp f0.Tag F).map g := by
      unfold grp
      rw [List.filter_map]
      congr 1
      apply List.filter_congr
      intro f hf
      simp only [Function.comp_def]
      rw [decide_eq_decide]
      exact h2 f hf f0 hf0
    rw [b, List.map_map]
    have c : (grp f0.Tag F).map (h ∘ g) = (grp f0.Tag F).map id := List.map_congr_left (fun f hf => h1 f (List.mem_filter.1 hf).1)
    rw [c, List.map_id]
  · have a : grp t F = [] := by
      unfold grp; rw [List.filter_eq_nil_iff]
      intro f hf hh
      exact ht ⟨f, hf, of_decide_eq_true hh⟩
    rw [a]
    unfold grp; rw [List.filter_eq_nil_iff]
    intro y hy hh
    obtain ⟨x, hx, rfl⟩ := List.mem_map.1 hy
    obtain ⟨f, hf, rfl⟩ := hm x hx
    rw [h1 f hf] at hh
    exact ht ⟨f, hf, of_decide_eq_true hh⟩

/-! ### finding again -/
theorem find_again {α κ : Type} [DecidableEq κ] (k : α → κ) : ∀ (xs : List α), (∀ j, 0 ≤ j → j < xs.length → ∀ x, xs[j]? = some x → (xs.take j).find? (fun y => decide (k y = k x)) = none) → ∀ x ∈ xs, xs.find? (fun y => decide (k y = k x)) = some x := by
  intro xs h x hx
  obtain ⟨i, hi⟩ := List.mem_iff_getElem?.1 hx
  have hn := h i (by omega) (getq_lt hi) x hi
  have e : xs = xs.take i ++ x :: xs.drop (i + 1) := by
    rw [← List.getElem_of_getElem? hi |>.choose_spec, ← List.drop_eq_getElem_cons, List.take_append_drop]
  rw [e, List.find?_append, hn]
  simp
theorem tE_again {m : List E} (h : InjE m) {e : E} (he : e ∈ m) : tE' m e.To = some e := find_again (fun e : E => e.To) m h e he
theorem tC_again {l : List EP} (h : InjC l) {p : EP} (hp : p ∈ l) : tC l p.To = some p := find_again (fun p : EP => p.To) l h p hp

/-- What holds of a covered field. -/
theorem cov_field {m : List E} (hv : Val m) {f : FD} (hf : fieldOk f = true) (hc : CovF m f) : ∃ e ∈ m, e.From = f.Tag ∧ toQ2 m f.Tag = (e, e.To, true) ∧ (∀ s ∈ f.Subs, ∃ p ∈ e.Codes, p.From = s.Code ∧ toQ3 e s.Code = (p.To, true)) ∧ cvF (toQ2 m) toQ3 f = some (gF (toQ2 m) toQ3 f) ∧ fieldOk (gF (toQ2 m) toQ3 f) = true := by
  obtain ⟨e, he, hs⟩ := hc
  obtain ⟨hm, ht⟩ := fE_mem he
  have q : toQ2 m f.Tag = (e, e.To, true) := by unfold toQ2; rw [he]; rfl
  have q3 : ∀ s ∈ f.Subs, ∃ p ∈ e.Codes, p.From = s.Code ∧ toQ3 e s.Code = (p.To, true) := by
    intro s hsm
    have := hs s hsm
    cases hp : fC e.Codes s.Code with
    | none => rw [hp] at this; exact absurd rfl this
    | some p =>
      obtain ⟨h1, h2⟩ := fC_mem hp
      exact ⟨p, h1, h2, by unfold toQ3; rw [hp]; rfl⟩
  have hF := fieldOk_iff.1 hf
  refine ⟨e, hm, ht, q, q3, cvF_some (by rw [q]) ?_ hF.2.2.2.1.1, fieldOk_iff.2 ?_⟩
  · intro s hsm
    obtain ⟨p, _, _, h⟩ := q3 s hsm
    rw [q, h]
  · unfold gF
    rw [q]
    refine ⟨(hv.good _ hm).2.2.1, hF.2.1, hF.2.2.1, by simpa using hF.2.2.2.1, ?_⟩
    intro s hsm
    obtain ⟨s0, h0, rfl⟩ := List.mem_map.1 hsm
    obtain ⟨p, hp, _, h⟩ := q3 s0 h0
    simp only [h]
    exact ⟨((hv.good _ hm).code hp).2, (hF.2.2.2.2 s0 h0).2⟩
theorem toP_cov {m : List E} {r : RD} (h : Cov m r) : toP m r = (⟨r.ID, ssort (r.Fields.map (gF (toQ2 m) toQ3))⟩, 0) := by
  obtain ⟨hv, hr, _, hc⟩ := h
  have hR := recOk_iff.1 hr
  have e : r.Fields.filterMap (cvF (toQ2 m) toQ3) = r.Fields.map (gF (toQ2 m) toQ3) := filterMap_some (fun f hf => by
    obtain ⟨_, _, _, _, _, h, _⟩ := cov_field hv (hR.2.2 f hf) (hc f hf)
    exact h)
  unfold toP conv
  rw [if_pos (by rw [val_true hv, hr]; rfl), e, if_neg]
  intro hh
  have := congrArg List.length hh
  simp only [List.length_map, List.length_nil] at this
  omega
theorem bk_cov {m : List E} {r : RD} (h : Cov m r) (hi : Inj m) : bkP m ⟨r.ID, ssort (r.Fields.map (gF (toQ2 m) toQ3))⟩ = (r, 0) := by
  obtain ⟨hv, hr, hs, hc⟩ := h
  have hR := recOk_iff.1 hr
  have back : ∀ f ∈ r.Fields, cvF (bkQ2 m) bkQ3 (gF (toQ2 m) toQ3 f) = some (gF (bkQ2 m) bkQ3 (gF (toQ2 m) toQ3 f)) ∧ gF (bkQ2 m) bkQ3 (gF (toQ2 m) toQ3 f) = f := by
    intro f hf
    obtain ⟨e, hm, ht, q, q3, _, hok⟩ := cov_field hv (hR.2.2 f hf) (hc f hf)
    have b2 : bkQ2 m e.To = (e, e.From, true) := by unfold bkQ2; rw [tE_again hi.1 hm]; rfl
    have b3 : ∀ p ∈ e.Codes, bkQ3 e p.To = (p.From, true) := fun p hp => by unfold bkQ3; rw [tC_again (hi.2 e hm) hp]; rfl
    have tag : (gF (toQ2 m) toQ3 f).Tag = e.To := by unfold gF; rw [q]
    refine ⟨cvF_some (by rw [tag, b2]) ?_ (fieldOk_iff.1 hok).2.2.2.1.1, ?_⟩
    · rw [tag, b2]
      intro s hsm
      unfold gF at hsm
      rw [q] at hsm
      obtain ⟨s0, h0, rfl⟩ := List.mem_map.1 hsm
      obtain ⟨p, hp, _, h⟩ := q3 s0 h0
      simp only [h, b3 p hp]
    · have : gF (bkQ2 m) bkQ3 (gF (toQ2 m) toQ3 f) = ⟨e.From, f.Ind_0, f.Ind_1, f.Subs.map fun s => ⟨(bkQ3 e (toQ3 e s.Code).1).1, s.Value⟩⟩ := by
        unfold gF
        simp only [q, b2, List.map_map, Function.comp_def]
      rw [this]
      have hsub : (f.Subs.map fun s => (⟨(bkQ3 e (toQ3 e s.Code).1).1, s.Value⟩ : SD)) = f.Subs.map id := by
        apply List.map_congr_left
        intro s hsm
        obtain ⟨p, hp, hfr, h⟩ := q3 s hsm
        simp only [h, b3 p hp, hfr]; rfl
      rw [hsub, List.map_id, ht]
  have tags : ∀ a ∈ r.Fields, ∀ b ∈ r.Fields, ((gF (toQ2 m) toQ3 a).Tag = (gF (toQ2 m) toQ3 b).Tag ↔ a.Tag = b.Tag) := by
    intro a ha b hb
    obtain ⟨e, hm, ht, q, _⟩ := cov_field hv (hR.2.2 a ha) (hc a ha)
    obtain ⟨e', hm', ht', q', _⟩ := cov_field hv (hR.2.2 b hb) (hc b hb)
    unfold gF
    rw [q, q']
    constructor
    · intro h
      have h' : e.To = e'.To := h
      have := tE_again hi.1 hm
      rw [h', tE_again hi.1 hm'] at this
      rw [← ht, ← ht', Option.some.inj this]
    · intro h
      have := q.symm.trans ((congrArg (toQ2 m) h).trans q')
      exact congrArg (fun x => x.2.1) this
  have ok : recOk ⟨r.ID, ssort (r.Fields.map (gF (toQ2 m) toQ3))⟩ = true := by
    refine recOk_iff.2 ⟨hR.1, by simpa [ssort_len] using hR.2.1, fun x hx => ?_⟩
    obtain ⟨f, hf, rfl⟩ := List.mem_map.1 (mem_ssort.1 hx)
    obtain ⟨_, _, _, _, _, _, hok⟩ := cov_field hv (hR.2.2 f hf) (hc f hf)
    exact hok
  have e : (ssort (r.Fields.map (gF (toQ2 m) toQ3))).filterMap (cvF (bkQ2 m) bkQ3) = (ssort (r.Fields.map (gF (toQ2 m) toQ3))).map (gF (bkQ2 m) bkQ3) := filterMap_some (fun x hx => by
    obtain ⟨f, hf, rfl⟩ := List.mem_map.1 (mem_ssort.1 hx)
    exact (back f hf).1)
  unfold bkP conv
  rw [if_pos (by rw [val_true hv, ok]; rfl), e, if_neg]
  · simp only
    rw [round (fun f hf => (back f hf).2) tags, hs]
  · intro hh
    have := congrArg List.length hh
    simp only [List.length_map, List.length_nil, ssort_len] at this
    omega
end Go.WK.S
