/- Plain law 8: the inverse map. No program in sight but the models. -/
import Derived.Test.YtidmlhihfanglaaGreatDoorMapsPC6
import Derived.Test.YtidmlhihfanglaaGreatDoorMapsPQ2
import Derived.Test.YtidmlhihfanglaaGreatDoorMapsPR2
import Derived.Test.YtidmlhihfanglaaGreatDoorMapsPA2
import Derived.Test.YtidmlhihfanglaaGreatDoorMapsAwake
set_option linter.unusedSimpArgs false
set_option linter.unusedVariables false
namespace Go.WK.S
open Go Go.Proofs Go.WK Go.RowKit Go.Sort
set_option maxRecDepth 100000
set_option linter.unusedVariables false
set_option linter.unusedSimpArgs false

/-! ### sorted lists whose keys stand apart -/
theorem find_pw2 {α κ : Type} [DecidableEq κ] (k : α → κ) : ∀ {xs : List α}, xs.Pairwise (fun a b => k a ≠ k b) → ∀ {x}, x ∈ xs → xs.find? (fun y => decide (k y = k x)) = some x
 | y :: xs, h, x, hx => by
  have h' := List.pairwise_cons.1 h
  rcases List.mem_cons.1 hx with rfl | hx
  ·rw [List.find?_cons_of_pos (by simp)]
  ·rw [List.find?_cons_of_neg (by simpa using h'.1 x hx)]
   exact find_pw2 k h'.2 hx
theorem find_perm {α κ : Type} [DecidableEq κ] (k : α → κ) {xs ys : List α} (hp : ys.Perm xs) (hd : xs.Pairwise fun a b => k a ≠ k b) (t : κ) : ys.find? (fun y => decide (k y = t)) = xs.find? (fun y => decide (k y = t)) := by
 have hd' : ys.Pairwise fun a b => k a ≠ k b := (hp.pairwise_iff (fun {a b} h => h.symm)).2 hd
 by_cases h : ∃ x ∈ xs, k x = t
 ·obtain ⟨x, hx, rfl⟩ := h
  rw [find_pw2 k hd hx, find_pw2 k hd' (hp.mem_iff.2 hx)]
 ·have e : ∀ zs : List α, (∀ z ∈ zs, z ∈ xs) → zs.find? (fun y => decide (k y = t)) = none := by
   intro zs hz
   rw [List.find?_eq_none]
   intro z hm hh
   exact h ⟨z, hz z hm, of_decide_eq_true hh⟩
  rw [e ys (fun z hz => hp.mem_iff.1 hz), e xs (fun z hz => hz)]
theorem strict_unique {α : Type} {lt : α → α → Bool} (hO : SWO lt) : ∀ {xs ys : List α}, xs.Pairwise (fun a b => lt a b = true) → ys.Pairwise (fun a b => lt a b = true) → xs.Perm ys → xs = ys
 | [], ys, _, _, hp => by rw [hp.symm.eq_nil]
 | x :: xs, [], _, _, hp => by have := hp.length_eq; simp at this
 | x :: xs, y :: ys, h1, h2, hp => by
  have h1' := List.pairwise_cons.1 h1
  have h2' := List.pairwise_cons.1 h2
  have e : x = y := by
   have hx : x ∈ y :: ys := hp.mem_iff.1 (by simp)
   have hy : y ∈ x :: xs := hp.mem_iff.2 (by simp)
   rcases List.mem_cons.1 hx with a | a
   ·exact a
   ·rcases List.mem_cons.1 hy with b | b
    ·exact b.symm
    ·have := hO.trans _ _ _ (h1'.1 y b) (h2'.1 x a)
     rw [hO.irrefl] at this; cases this
  subst e
  rw [strict_unique hO h1'.2 h2'.2 (List.perm_cons x |>.1 hp)]
theorem asymm_of {α : Type} {lt : α → α → Bool} (hO : SWO lt) {a b : α} (h : lt a b = true) : lt b a = false := by
 cases h2 : lt b a with
 | false => rfl
 | true => have := hO.trans _ _ _ h h2; rw [hO.irrefl] at this; cases this
theorem sorted_perm {α : Type} (lt : α → α → Bool) (xs : List α) : (sorted lt xs).Perm xs := List.mergeSort_perm _ _
theorem sorted_strict {α : Type} {lt : α → α → Bool} (hO : SWO lt) {xs : List α} (hd : xs.Pairwise fun a b => lt a b = true ∨ lt b a = true) : (sorted lt xs).Pairwise fun a b => lt a b = true := by
 have h1 : (sorted lt xs).Pairwise fun a b => (!lt b a) = true := by
  refine List.pairwise_mergeSort (le := fun a b => !lt b a) (fun a b c h1 h2 => ?_) (fun a b => ?_) xs
  ·simp only [Bool.not_eq_true'] at *
   exact hO.ntrans _ _ _ h2 h1
  ·cases h : lt b a with
   | false => simp
   | true => simp [asymm_of hO h]
 have h2 : (sorted lt xs).Pairwise fun a b => lt a b = true ∨ lt b a = true := ((sorted_perm lt xs).pairwise_iff (fun {a b} h => h.symm)).2 hd
 refine (h1.and h2).imp (fun {a b} h => ?_)
 rcases h.2 with c | c
 ·exact c
 ·have := h.1; rw [c] at this; cases this
theorem sorted_of {α : Type} {lt : α → α → Bool} (hO : SWO lt) {xs ys : List α} (hs : ys.Pairwise fun a b => lt a b = true) (hp : xs.Perm ys) : sorted lt xs = ys := by
 refine strict_unique hO (sorted_strict hO ?_) hs ((sorted_perm lt xs).trans hp)
 exact (hp.pairwise_iff (fun {a b} h => h.symm)).2 (hs.imp (fun h => .inl h))

/-! ### the inverse -/
def swP (p : EP) : EP := ⟨p.To, p.From⟩
def swE (e : E) : E := ⟨e.To, e.From, sorted ltP (e.Codes.map swP)⟩
def inv (m : List E) : List E := sorted ltE (m.map swE)
theorem u8_lt {a b : UInt8} (h : a ≠ b) : a.toNat < b.toNat ∨ b.toNat < a.toNat := by
 rcases Nat.lt_trichotomy a.toNat b.toNat with c | c | c
 ·exact .inl c
 ·exact absurd (UInt8.toNat_inj.1 c) h
 ·exact .inr c
theorem pw_of_find {α κ : Type} [DecidableEq κ] (k : α → κ) {xs : List α} (h : ∀ j, 0 ≤ j → j < xs.length → ∀ x, xs[j]? = some x → (xs.take j).find? (fun y => decide (k y = k x)) = none) : xs.Pairwise fun a b => k a ≠ k b := by
 rw [List.pairwise_iff_getElem]
 intro i j hi hj hij e
 have := h j (by omega) hj xs[j] (List.getElem?_eq_getElem hj)
 rw [List.find?_eq_none] at this
 have hm : xs[i] ∈ xs.take j := by
  rw [List.mem_iff_getElem]
  exact ⟨i, by rw [List.length_take]; omega, by rw [List.getElem_take]⟩
 exact this _ hm (by simpa using e)
theorem find_of_pw {α κ : Type} [DecidableEq κ] (k : α → κ) {xs : List α} (h : xs.Pairwise fun a b => k a ≠ k b) : ∀ j, 0 ≤ j → j < xs.length → ∀ x, xs[j]? = some x → (xs.take j).find? (fun y => decide (k y = k x)) = none := by
 intro j _ hj x hx
 obtain ⟨h1, rfl⟩ := List.getElem?_eq_some_iff.1 hx
 rw [List.find?_eq_none]
 intro y hy hh
 obtain ⟨i, hi⟩ := List.mem_iff_getElem?.1 hy
 obtain ⟨h2, rfl⟩ := List.getElem?_eq_some_iff.1 hi
 rw [List.length_take] at h2
 rw [List.getElem_take] at hh
 exact List.pairwise_iff_getElem.1 h i j (by omega) h1 (by omega) (of_decide_eq_true hh)
theorem injE_pw {m : List E} : InjE m ↔ m.Pairwise fun a b => a.To ≠ b.To := ⟨fun h => pw_of_find (fun e : E => e.To) h, fun h => find_of_pw (fun e : E => e.To) h⟩
theorem injC_pw {l : List EP} : InjC l ↔ l.Pairwise fun a b => a.To ≠ b.To := ⟨fun h => pw_of_find (fun e : EP => e.To) h, fun h => find_of_pw (fun e : EP => e.To) h⟩
theorem pw_map {α β : Type} {f : α → β} {R : β → β → Prop} {l : List α} (h : l.Pairwise fun a b => R (f a) (f b)) : (l.map f).Pairwise R := List.pairwise_map.2 h

theorem sw_codes {l : List EP} (ho : OkC l) (hi : InjC l) : OkC (sorted ltP (l.map swP)) ∧ InjC (sorted ltP (l.map swP)) ∧ sorted ltP ((sorted ltP (l.map swP)).map swP) = l ∧ (∀ c, fC (sorted ltP (l.map swP)) c = (tC l c).map swP) ∧ (sorted ltP (l.map swP)).length = l.length := by
 have hp := sorted_perm ltP (l.map swP)
 have ho' := okC_iff.1 ho
 have hd : (l.map swP).Pairwise fun a b => a.From ≠ b.From := pw_map (injC_pw.1 hi)
 have hstr : (sorted ltP (l.map swP)).Pairwise fun a b => ltP a b = true := sorted_strict swoP (hd.imp (fun {a b} h => by simp only [ltP, decide_eq_true_eq]; exact u8_lt h))
 refine ⟨okC_iff.2 ⟨fun p hpm => ?_, hstr.imp (fun {a b} h => by simpa [ltP] using h)⟩, injC_pw.2 ?_, ?_, fun c => ?_, ?_⟩
 ·obtain ⟨q, hq, rfl⟩ := List.mem_map.1 (hp.mem_iff.1 hpm)
  have := ho'.1 q hq
  exact ⟨this.2, this.1⟩
 ·refine (hp.pairwise_iff (fun {a b} h => h.symm)).2 (pw_map ?_)
  exact ho'.2.imp (fun {a b} h e => by
   have : a.From = b.From := e
   rw [this] at h; omega)
 ·refine sorted_of swoP (ho'.2.imp (fun {a b} h => by simpa [ltP] using h)) ?_
  have := hp.map swP
  rwa [List.map_map, show swP ∘ swP = id from rfl, List.map_id] at this
 ·unfold fC tC
  rw [find_perm (fun p : EP => p.From) hp hd, List.find?_map]
  rfl
 ·rw [hp.length_eq, List.length_map]
theorem inv_all {m : List E} (hv : Val m) (hi : Inj m) : Val (inv m) ∧ Inj (inv m) ∧ inv (inv m) = m ∧ ∀ t, fE (inv m) t = (tE' m t).map swE := by
 have hp := sorted_perm ltE (m.map swE)
 have hV := val_iff2.1 hv
 have hd : (m.map swE).Pairwise fun a b => a.From ≠ b.From := pw_map (injE_pw.1 hi.1)
 have hstr : (inv m).Pairwise fun a b => ltE a b = true := sorted_strict swoE (hd.imp (fun {a b} h => by
  simp only [ltE]
  rcases lt_tri a.From b.From with c | c | c
  ·exact .inl c
  ·exact absurd c h
  ·exact .inr c))
 have mem : ∀ x ∈ inv m, ∃ e ∈ m, swE e = x := fun x hx => List.mem_map.1 (hp.mem_iff.1 hx)
 have sw2 : ∀ e ∈ m, swE (swE e) = e := by
  intro e he
  have := (sw_codes (hV.1 e he).1 (hi.2 e he)).2.2.1
  unfold swE
  simp only
  rw [this]
 refine ⟨val_iff2.2 ⟨fun x hx => ?_, hstr.imp (fun {a b} h => h), by have := hp.length_eq; rw [List.length_map] at this; unfold inv; omega⟩, ⟨injE_pw.2 ?_, fun x hx => ?_⟩, ?_, fun t => ?_⟩
 ·obtain ⟨e, he, rfl⟩ := mem x hx
  have g := hV.1 e he
  have c := sw_codes g.1 (hi.2 e he)
  exact ⟨c.1, g.2.2.1, g.2.1, by show 0 < (sorted ltP (e.Codes.map swP)).length; rw [c.2.2.2.2]; exact g.2.2.2⟩
 ·refine (hp.pairwise_iff (fun {a b} h => h.symm)).2 (pw_map ?_)
  exact hV.2.1.imp (fun {a b} h e => by
   have e' : a.From = b.From := e
   rw [e'] at h; exact lt_irr _ h)
 ·obtain ⟨e, he, rfl⟩ := mem x hx
  exact (sw_codes (hV.1 e he).1 (hi.2 e he)).2.1
 ·show sorted ltE ((inv m).map swE) = m
  refine sorted_of swoE (hV.2.1.imp (fun {a b} h => h)) ?_
  have h1 := hp.map swE
  have h2 : (m.map swE).map swE = m := by
   rw [List.map_map]
   conv => rhs; rw [← List.map_id m]
   exact List.map_congr_left (fun e he => sw2 e he)
  rw [h2] at h1
  exact h1
 ·unfold fE tE'
  rw [show inv m = sorted ltE (m.map swE) from rfl, find_perm (fun e : E => e.From) hp hd, List.find?_map]
  rfl
/-! ### the models -/
theorem m33_l2_eq (e : E) (hl : e.Codes.length ≤ 1000000) : m33_l2 e (e.Codes.length + 1) 0 [] = some (e.Codes.map swP) := by
 have L := foldMap (xs := e.Codes) (lp := fun k acc i => m33_l2 e k i acc) swP ?_ ?_ (e.Codes.length + 1) [] 0 (by omega) (by omega) (by simp)
 ·simpa using L
 ·intro k acc i p hp ha
  have hi := getq_lt hp
  simp only [m33_l2]
  rw [if_pos hi, hp]
  simp only [Option.bind_some]
  rw [if_pos (by omega)]; rfl
 ·intro k acc i hn
  simp only [m33_l2]
  rw [if_neg hn]
theorem m33_l1_eq {m : List E} (hv : Val m) (hi : Inj m) : m33_l1 m (m.length + 1) [] 0 = some (m.map swE) := by
 have L := foldMap (xs := m) (lp := fun k acc i => m33_l1 m k acc i) swE ?_ ?_ (m.length + 1) [] 0 (by omega) (by omega) (by simp)
 ·simpa using L
 ·intro k acc i e he ha
  have hlt := getq_lt he
  have hm := List.mem_of_getElem? he
  have := hv.2
  simp only [m33_l1]
  rw [if_pos hlt, he]
  simp only [Option.bind_some]
  rw [m33_l2_eq e (by have := okC_len (hv.good e hm).1; omega)]
  have hcd : (e.Codes.map swP).Pairwise (fun a b : EP => a.From ≠ b.From) := pw_map (R := fun a b : EP => a.From ≠ b.From) (injC_pw.1 (hi.2 e hm))
  simp only [Option.bind_some, m66]
  rw [if_pos hcd]
  simp only [Option.bind_some]
  rw [if_pos (by omega)]; rfl
 ·intro k acc i hn
  simp only [m33_l1]
  rw [if_neg hn]
theorem m33_eq {m : List E} (hv : Val m) (hi : Inj m) : m33 m = some (inv m, 0) := by
 obtain ⟨b, hb, h⟩ := m17_eq m
 unfold m33
 rw [m27_eq, hb, val_true hv, h.2 ⟨hv, hi⟩]
 simp only [Option.bind_some, if_true]
 rw [m33_l1_eq hv hi]
 have hcd : (m.map swE).Pairwise (fun a b : E => a.From ≠ b.From) := pw_map (R := fun a b : E => a.From ≠ b.From) (injE_pw.1 hi.1)
 simp only [Option.bind_some, m69]
 rw [if_pos hcd]
 rfl

/-! ### the reference's: which map is lossless -/
theorem m103_eq (l : List RP) : ∃ j, m103 l = some j ∧ (j < 0 → ∀ i, 0 ≤ i → i < l.length → ∀ p, l[i]? = some p → (fo noP (tC (l.map oP) p.To)).1.From.toNat = p.From.toNat) ∧ (0 ≤ j → ∃ p ∈ l, (fo noP (tC (l.map oP) p.To)).1.From.toNat ≠ p.From.toNat) := by
 unfold m103
 have L := chkR (lp := m103_l1 l) (n := l.length) (fun i => ∀ p, l[i]? = some p → (fo noP (tC (l.map oP) p.To)).1.From.toNat = p.From.toNat) (fun j : Int => 0 ≤ j ∧ ∃ p ∈ l, (fo noP (tC (l.map oP) p.To)).1.From.toNat ≠ p.From.toNat) () ?_ ?_ ?_ (l.length + 1) 0 (by omega) (by omega)
 ·by_cases h : ∀ i, 0 ≤ i → i < l.length → ∀ p, l[i]? = some p → (fo noP (tC (l.map oP) p.To)).1.From.toNat = p.From.toNat
  ·rw [L.1 h]
   exact ⟨_, rfl, fun _ => h, fun h0 => absurd h0 (by decide)⟩
  ·obtain ⟨j, ⟨h0, hp⟩, e⟩ := L.2 h
   rw [e]
   exact ⟨_, rfl, fun h1 => absurd h0 (by omega), fun _ => hp⟩
 ·intro k i hi hc
  obtain ⟨p, hp⟩ := getq hi
  rw [m103_l1, if_pos hi, hp]
  simp only [Option.bind_some]
  rw [m40_eqT]
  simp only [Option.bind_some]
  rw [if_pos (hc p hp)]
 ·intro k i hi hc
  obtain ⟨p, hp⟩ := getq hi
  have hn : ¬ (fo noP (tC (l.map oP) p.To)).1.From.toNat = p.From.toNat := fun h => hc (fun p' hp' => by obtain rfl := Option.some.inj (hp.symm.trans hp'); exact h)
  rw [m103_l1, if_pos hi, hp]
  simp only [Option.bind_some]
  rw [m40_eqT]
  simp only [Option.bind_some]
  rw [if_neg hn]
  exact ⟨_, ⟨by omega, p, List.mem_of_getElem? hp, hn⟩, rfl⟩
 ·intro k i hi
  rw [m103_l1, if_neg hi]
/-- The first pair that goes to the same code is the pair itself. -/
def OwnC (l : List EP) : Prop := ∀ p ∈ l, (fo noP (tC l p.To)).1.From = p.From
theorem ownC_iff {l : List EP} (ho : OkC l) : OwnC l ↔ InjC l := by
 constructor
 ·intro h
  rw [injC_pw, List.pairwise_iff_getElem]
  intro i j hi hj hij e
  have h1 := h l[i] (List.getElem_mem hi)
  have h2 := h l[j] (List.getElem_mem hj)
  rw [e] at h1
  have := List.pairwise_iff_getElem.1 (okC_iff.1 ho).2 i j hi hj hij
  rw [← h1, ← h2] at this
  omega
 ·intro h p hp
  rw [tC_again h hp]; rfl
theorem mem_get0 {l : List RP} {p : EP} (hp : p ∈ l.map oP) : ∃ i q, i < l.length ∧ l[i]? = some q ∧ oP q = p := by
 obtain ⟨q, hq, rfl⟩ := List.mem_map.1 hp
 obtain ⟨i, hi⟩ := List.mem_iff_getElem?.1 hq
 exact ⟨i, q, getq_lt hi, hi, rfl⟩
theorem m65_l2_eq (m : List R) : ∃ fl, m65_l2 m (m.length + 1) 0 = some fl ∧ (fl = .go () → ∀ x ∈ m, OwnC (oE x).Codes) ∧ (∀ t, fl = .ret t → t.2.2 = true ∧ ∃ x ∈ m, ¬ OwnC (oE x).Codes) := by
 have L := chkR (lp := m65_l2 m) (n := m.length) (fun i => ∀ x, m[i]? = some x → OwnC (oE x).Codes) (fun t : Int × Int × Bool => t.2.2 = true ∧ ∃ x ∈ m, ¬ OwnC (oE x).Codes) () ?_ ?_ ?_ (m.length + 1) 0 (by omega) (by omega)
 ·by_cases h : ∀ i, 0 ≤ i → i < m.length → ∀ x, m[i]? = some x → OwnC (oE x).Codes
  ·exact ⟨_, L.1 h, fun _ => all_get.1 h, fun t ht => (by cases ht)⟩
  ·obtain ⟨t, ht, e⟩ := L.2 h
   exact ⟨_, e, fun h => (by cases h), fun t' ht' => by cases ht'; exact ht⟩
 ·intro k i hi hc
  obtain ⟨x, hx⟩ := getq hi
  obtain ⟨j, hj, h1, h2⟩ := m103_eq x.Codes
  rw [m65_l2, if_pos hi, hx]
  simp only [Option.bind_some]
  rw [hj]
  simp only [Option.bind_some]
  rw [if_neg]
  intro h0
  obtain ⟨p, hp, hne⟩ := h2 h0
  have := hc x hx (oP p) (List.mem_map_of_mem hp)
  exact hne (by rw [show (oP p).To = p.To from rfl, show (oP p).From = p.From from rfl] at this; rw [← this]; rfl)
 ·intro k i hi hc
  obtain ⟨x, hx⟩ := getq hi
  have hn : ¬ OwnC (oE x).Codes := fun h => hc (fun x' hx' => by obtain rfl := Option.some.inj (hx.symm.trans hx'); exact h)
  obtain ⟨j, hj, h1, h2⟩ := m103_eq x.Codes
  rw [m65_l2, if_pos hi, hx]
  simp only [Option.bind_some]
  rw [hj]
  simp only [Option.bind_some]
  rw [if_pos]
  ·exact ⟨_, ⟨rfl, x, List.mem_of_getElem? hx, hn⟩, rfl⟩
  ·refine Classical.byContradiction fun h0 => hn (fun p hp => ?_)
   obtain ⟨i', q, hi', hq, rfl⟩ := mem_get0 hp
   exact UInt8.toNat_inj.1 (h1 (by omega) i' (by omega) hi' q hq)
 ·intro k i hi
  rw [m65_l2, if_neg hi]
theorem m65_l1_eq (m : List R) : ((∀ i, 0 ≤ i → i < m.length → ∀ x, m[i]? = some x → m39 m x.To true = some (i : Int)) → m65_l1 m (m.length + 1) 0 = some (.go ())) ∧ (¬ (∀ i, 0 ≤ i → i < m.length → ∀ x, m[i]? = some x → m39 m x.To true = some (i : Int)) → ∃ t : Int × Int × Bool, t.2.2 = true ∧ m65_l1 m (m.length + 1) 0 = some (.ret t)) := by
 refine chkR (lp := m65_l1 m) (n := m.length) _ _ _ ?_ ?_ ?_ (m.length + 1) 0 (by omega) (by omega)
 ·intro k i hi hc
  obtain ⟨x, hx⟩ := getq hi
  rw [m65_l1, if_pos hi, hx]
  simp only [Option.bind_some]
  rw [hc x hx]
  simp only [Option.bind_some, if_true]
 ·intro k i hi hc
  obtain ⟨x, hx⟩ := getq hi
  obtain ⟨j, hj, _⟩ := m39_eqT m x.To
  rw [m65_l1, if_pos hi, hx]
  simp only [Option.bind_some]
  rw [hj]
  simp only [Option.bind_some]
  rw [if_neg]
  ·exact ⟨_, rfl, rfl⟩
  ·intro e
   refine hc (fun x' hx' => ?_)
   obtain rfl := Option.some.inj (hx.symm.trans hx')
   rw [hj, e]
 ·intro k i hi
  rw [m65_l1, if_neg hi]
theorem own_inj {m : List R} (hv : Val (m.map oE)) : (∀ i, 0 ≤ i → i < m.length → ∀ x, m[i]? = some x → m39 m x.To true = some (i : Int)) ↔ InjE (m.map oE) := by
 have pw := (val_iff2.1 hv).2.1
 have one : ∀ (i j : Nat) (x y : R), m[i]? = some x → m[j]? = some y → x.From = y.From → i = j := by
  intro i j x y hx hy e
  obtain ⟨h1, rfl⟩ := List.getElem?_eq_some_iff.1 hx
  obtain ⟨h2, rfl⟩ := List.getElem?_eq_some_iff.1 hy
  rcases Nat.lt_trichotomy i j with c | c | c
  ·have := List.pairwise_iff_getElem.1 pw i j (by simpa using h1) (by simpa using h2) c
   simp only [List.getElem_map, oE_From, e] at this
   exact absurd this (lt_irr _)
  ·exact c
  ·have := List.pairwise_iff_getElem.1 pw j i (by simpa using h2) (by simpa using h1) c
   simp only [List.getElem_map, oE_From, e] at this
   exact absurd this (lt_irr _)
 constructor
 ·intro h
  rw [injE_pw, List.pairwise_iff_getElem]
  intro i j hi hj hij e
  simp only [List.length_map] at hi hj
  simp only [List.getElem_map, oE_To] at e
  have a := h i (by omega) hi m[i] (List.getElem?_eq_getElem hi)
  have b := h j (by omega) hj m[j] (List.getElem?_eq_getElem hj)
  rw [e, b] at a
  have := Option.some.inj a
  omega
 ·intro h i _ hi x hx
  obtain ⟨j, hj, ⟨n, y, rfl, hn, hf⟩ | ⟨_, hf⟩⟩ := m39_eqT m x.To
  ·have := tE_again h (List.mem_map_of_mem (f := oE) (List.mem_of_getElem? hx))
   rw [oE_To, hf] at this
   have e := congrArg D_crosswalk_Entry.From (Option.some.inj this)
   rw [hj, one n i y x hn hx e]
  ·have := tE_again h (List.mem_map_of_mem (f := oE) (List.mem_of_getElem? hx))
   rw [oE_To, hf] at this
   cases this
theorem m65_eq (m : List R) : ∃ t, m65 m = some t ∧ (Val (m.map oE) → (t.2.2 = false ↔ Inj (m.map oE))) := by
 unfold m65
 by_cases h : ∀ i, 0 ≤ i → i < m.length → ∀ x, m[i]? = some x → m39 m x.To true = some (i : Int)
 ·rw [(m65_l1_eq m).1 h]
  simp only [Option.bind_some]
  obtain ⟨fl, e, h1, h2⟩ := m65_l2_eq m
  rw [e]
  cases fl with
  | go u =>
   refine ⟨_, rfl, fun hv => ⟨fun _ => ⟨(own_inj hv).1 h, fun x hx => ?_⟩, fun _ => rfl⟩⟩
   obtain ⟨y, hy, rfl⟩ := List.mem_map.1 hx
   exact (ownC_iff (hv.good _ hx).1).1 (h1 rfl y hy)
  | ret t =>
   obtain ⟨ht, x, hx, hn⟩ := h2 t rfl
   refine ⟨_, rfl, fun hv => ⟨fun h => ?_, fun hi => ?_⟩⟩
   ·rw [ht] at h; cases h
   ·have hm := List.mem_map_of_mem (f := oE) hx
    exact absurd ((ownC_iff (hv.good _ hm).1).2 (hi.2 _ hm)) hn
 ·obtain ⟨t, ht, e⟩ := (m65_l1_eq m).2 h
  rw [e]
  refine ⟨_, rfl, fun hv => ⟨fun h => ?_, fun hi => absurd ((own_inj hv).2 hi.1) h⟩⟩
  rw [ht] at h; cases h
theorem m32_eq (m : List R) : ∃ b, m32 m = some b ∧ (b = true ↔ Val (m.map oE) ∧ Inj (m.map oE)) := by
 obtain ⟨t, e, h⟩ := m65_eq m
 unfold m32
 rw [e, m24_eq]
 simp only [Option.bind_some]
 by_cases hv : Val (m.map oE)
 ·rw [if_pos (val_true hv)]
  refine ⟨_, rfl, ?_⟩
  rw [Bool.not_eq_true', h hv]
  exact ⟨fun hi => ⟨hv, hi⟩, fun hh => hh.2⟩
 ·rw [if_neg (fun h => hv (val_iff.1 h))]
  exact ⟨_, rfl, fun h => (by cases h), fun h => absurd h.1 hv⟩

end Go.WK.S
