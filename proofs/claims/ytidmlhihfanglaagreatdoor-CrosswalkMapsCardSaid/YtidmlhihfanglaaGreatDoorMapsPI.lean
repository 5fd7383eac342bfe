/- Plain law 9, part a: the reference's inverse and composition, its text of a map. No program in sight but the models. -/
import Derived.Test.YtidmlhihfanglaaGreatDoorMapsPH
import Derived.Test.YtidmlhihfanglaaGreatDoorMapsPE
import Derived.Test.YtidmlhihfanglaaGreatDoorMapsPC
set_option linter.unusedSimpArgs false
set_option linter.unusedVariables false
namespace Go.WK.S
open Go Go.Proofs Go.WK Go.RowKit Go.Sort
set_option maxRecDepth 100000
set_option linter.unusedVariables false
set_option linter.unusedSimpArgs false

/-! ### insertion -/
def insL {α : Type} (q : α → Bool) (l : List α) (x : α) : List α := l.takeWhile q ++ x :: l.dropWhile q
theorem tw_loop {α : Type} {xs : List α} {lp : Nat → Nat → Option Nat} (q : α → Bool)
  (h1 : ∀ k i x, xs[i]? = some x → q x = true → lp (k + 1) i = lp k (i + 1))
  (h2 : ∀ k i x, xs[i]? = some x → q x = false → lp (k + 1) i = some i)
  (h3 : ∀ k i, ¬ i < xs.length → lp (k + 1) i = some i) :
  ∀ k i, i ≤ xs.length → xs.length < k + i → lp k i = some (i + ((xs.drop i).takeWhile q).length) := by
 intro k
 induction k with
 | zero => intro i hi hk; omega
 | succ k ih =>
  intro i hi hk
  by_cases hn : i < xs.length
  ·have hx : xs[i]? = some xs[i] := List.getElem?_eq_getElem hn
   rw [List.drop_eq_getElem_cons hn, List.takeWhile_cons]
   cases hq : q xs[i]
   ·rw [h2 k i _ hx hq]; simp
   ·rw [h1 k i _ hx hq, ih (i + 1) (by omega) (by omega)]
    simp only [if_true, List.length_cons]
    congr 1; omega
  ·rw [h3 k i hn, List.drop_eq_nil_of_le (by omega)]; simp
theorem take_tw {α : Type} (q : α → Bool) (l : List α) : l.take (l.takeWhile q).length = l.takeWhile q ∧ l.drop (l.takeWhile q).length = l.dropWhile q := by
 have e := List.takeWhile_append_dropWhile (p := q) (l := l)
 generalize l.takeWhile q = W at *
 generalize l.dropWhile q = D at *
 subst e
 simp
theorem insL_perm {α : Type} (q : α → Bool) (l : List α) (x : α) : (insL q l x).Perm (x :: l) := by
 unfold insL
 refine List.perm_middle.trans ?_
 rw [List.takeWhile_append_dropWhile]
theorem insL_sorted {α : Type} {lt : α → α → Bool} (hO : SWO lt) {l : List α} {x : α} (hs : l.Pairwise fun a b => lt a b = true) (hd : ∀ a ∈ l, lt a x = true ∨ lt x a = true) : (insL (fun a => lt a x) l x).Pairwise fun a b => lt a b = true := by
 have e := List.takeWhile_append_dropWhile (p := fun a => lt a x) (l := l)
 rw [← e, List.pairwise_append] at hs
 have hdrop : ∀ b ∈ l.dropWhile (fun a => lt a x), lt x b = true := by
  intro b hb
  cases hl : l.dropWhile (fun a => lt a x) with
  | nil => rw [hl] at hb; simp at hb
  | cons y r =>
   have hy : lt y x = false := by
    have := List.head_dropWhile_not (fun a : α => lt a x) (l := l) (by rw [hl]; simp)
    simpa [hl] using this
   have hym : y ∈ l := by
    have : y ∈ l.dropWhile (fun a => lt a x) := by rw [hl]; simp
    exact (List.dropWhile_sublist _).subset this
   have hxy : lt x y = true := by
    rcases hd y hym with c | c
    ·rw [hy] at c; cases c
    ·exact c
   rw [hl] at hb
   rcases List.mem_cons.1 hb with rfl | hb
   ·exact hxy
   ·have := hs.2.1
    rw [hl] at this
    exact hO.trans _ _ _ hxy ((List.pairwise_cons.1 this).1 b hb)
 unfold insL
 rw [List.pairwise_append]
 refine ⟨hs.1, List.pairwise_cons.2 ⟨hdrop, hs.2.1⟩, ?_⟩
 intro a ha b hb
 have hax : lt a x = true := (mem_tw (p := fun a => lt a x) ha).1
 rcases List.mem_cons.1 hb with rfl | hb
 ·exact hax
 ·exact hO.trans _ _ _ hax (hdrop b hb)
/-- Insertion, one by one, of elements that stand apart: the sorted list. -/
theorem insL_fold {α : Type} {lt : α → α → Bool} (hO : SWO lt) : ∀ (xs acc : List α), acc.Pairwise (fun a b => lt a b = true) → (acc ++ xs).Pairwise (fun a b => lt a b = true ∨ lt b a = true) →
  (xs.foldl (fun l x => insL (fun a => lt a x) l x) acc).Pairwise (fun a b => lt a b = true) ∧ (xs.foldl (fun l x => insL (fun a => lt a x) l x) acc).Perm (acc ++ xs)
 | [], acc, h1, h2 => ⟨h1, by simp⟩
 | x :: xs, acc, h1, h2 => by
  have h2' := List.pairwise_append.1 h2
  have hp := insL_perm (fun a => lt a x) acc x
  have hp2 : (insL (fun a => lt a x) acc x ++ xs).Perm (acc ++ x :: xs) := (hp.append_right xs).trans (List.perm_middle.symm)
  obtain ⟨a, b⟩ := insL_fold hO xs (insL (fun a => lt a x) acc x) (insL_sorted hO h1 (fun y hy => h2'.2.2 y hy x (by simp))) ((hp2.pairwise_iff (fun {a b} h => h.symm)).2 h2)
  exact ⟨a, b.trans hp2⟩
theorem insL_all {α : Type} {lt : α → α → Bool} (hO : SWO lt) {xs : List α} (hd : xs.Pairwise fun a b => lt a b = true ∨ lt b a = true) : xs.foldl (fun l x => insL (fun a => lt a x) l x) [] = sorted lt xs := by
 obtain ⟨a, b⟩ := insL_fold hO xs [] List.Pairwise.nil (by simpa using hd)
 exact (sorted_of hO a (b.symm.trans (by simp))).symm

/-! ### the reference's inverse -/
def swR (p : RP) : RP := ⟨p.To, p.From⟩
theorem m35_l3_eq (l : List RP) (p : RP) (hl : l.length ≤ 1000000) : m35_l3 l p (l.length + 1) 0 = some (l.takeWhile fun a => decide (a.From.toNat < p.To.toNat)).length := by
 have L := tw_loop (xs := l) (lp := m35_l3 l p) (fun a => decide (a.From.toNat < p.To.toNat)) ?_ ?_ ?_ (l.length + 1) 0 (by omega) (by omega)
 ·rw [L, List.drop_zero]; simp
 ·intro k i x hx h
  rw [m35_l3, if_pos (getq_lt hx), hx]
  simp only [Option.bind_some]
  rw [if_pos (of_decide_eq_true h)]
 ·intro k i x hx h
  rw [m35_l3, if_pos (getq_lt hx), hx]
  simp only [Option.bind_some]
  rw [if_neg (of_decide_eq_false h)]
 ·intro k i hi
  rw [m35_l3, if_neg hi]
def insRP (l : List RP) (p : RP) : List RP := insL (fun a => decide (a.From.toNat < p.To.toNat)) l (swR p)
theorem insRP_len (l : List RP) (p : RP) : (insRP l p).length = l.length + 1 := by
 have := (insL_perm (fun a : RP => decide (a.From.toNat < p.To.toNat)) l (swR p)).length_eq
 simpa [insRP] using this
theorem m35_l2_eq (m : List R) (i : Nat) (x : R) (hx : m[i]? = some x) (hl : x.Codes.length ≤ 100000) : ∀ (k j : Nat) (acc : List RP), j ≤ x.Codes.length → x.Codes.length < k + j → acc.length ≤ j → m35_l2 m i k j acc = some ((x.Codes.drop j).foldl insRP acc) := by
 intro k
 induction k with
 | zero => intro j acc h1 h2; omega
 | succ k ih =>
  intro j acc h1 h2 h3
  rw [m35_l2, hx]
  simp only [Option.bind_some]
  by_cases hj : j < x.Codes.length
  ·rw [if_pos hj, List.getElem?_eq_getElem hj]
   simp only [Option.bind_some]
   rw [m35_l3_eq acc _ (by omega)]
   simp only [Option.bind_some]
   have tk := take_tw (fun a : RP => decide (a.From.toNat < (x.Codes[j]).To.toNat)) acc
   have hlen := congrArg List.length (List.takeWhile_append_dropWhile (p := fun a : RP => decide (a.From.toNat < (x.Codes[j]).To.toNat)) (l := acc))
   simp only [List.length_append] at hlen
   rw [tk.1, tk.2, if_pos (by omega), if_pos (by omega), if_pos (by simp; omega), if_pos (by simp; omega)]
   simp only [Option.bind_some]
   rw [if_pos (by omega), List.drop_eq_getElem_cons hj, List.foldl_cons, ← ih (j + 1) (insRP acc x.Codes[j]) (by omega) (by omega) (by rw [insRP_len]; omega)]
   congr 1
   simp [insRP, insL, swR]
  ·rw [if_neg hj, List.drop_eq_nil_of_le (by omega)]; rfl
theorem tw_map {α β : Type} (f : α → β) (q : β → Bool) (l : List α) : (l.map f).takeWhile q = (l.takeWhile (q ∘ f)).map f ∧ (l.map f).dropWhile q = (l.dropWhile (q ∘ f)).map f := ⟨List.takeWhile_map .., List.dropWhile_map ..⟩
theorem fold_oP : ∀ (l acc : List RP), (l.foldl insRP acc).map oP = (l.map oP).foldl (fun l p => insL (fun a => ltP a (swP p)) l (swP p)) (acc.map oP)
 | [], acc => rfl
 | p :: l, acc => by
  rw [List.foldl_cons, fold_oP l, List.map_cons, List.foldl_cons]
  congr 1
  unfold insRP insL
  rw [List.map_append, List.map_cons]
  have t := tw_map oP (fun a => ltP a (swP (oP p))) acc
  rw [t.1, t.2]
  rfl
theorem fold_swP (l : List EP) (acc : List EP) : l.foldl (fun l p => insL (fun a => ltP a (swP p)) l (swP p)) acc = (l.map swP).foldl (fun l x => insL (fun a => ltP a x) l x) acc := by
 rw [List.foldl_map]
theorem ins_codes {x : R} (hi : InjC (oE x).Codes) : (x.Codes.foldl insRP []).map oP = sorted ltP ((oE x).Codes.map swP) := by
 rw [fold_oP, fold_swP]
 refine insL_all swoP ?_
 refine (pw_map (R := fun a b : EP => ltP a b = true ∨ ltP b a = true) ((injC_pw.1 hi).imp (fun {a b} h => ?_)))
 simp only [ltP, decide_eq_true_eq]
 exact u8_lt h
def swRE (x : R) : R := ⟨x.To, x.From, x.Codes.foldl insRP []⟩
def insRE (l : List R) (x : R) : List R := insL (fun a => Op.bytesLess a.From x.From) l x
theorem insRE_len (l : List R) (x : R) : (insRE l x).length = l.length + 1 := by
 have := (insL_perm (fun a : R => Op.bytesLess a.From x.From) l x).length_eq
 simpa [insRE] using this
theorem m72_eq (l : List R) (x : R) (hl : l.length ≤ 1000000) : m72 l x = some (insRE l x) := by
 have L := tw_loop (xs := l) (lp := m72_l1 l x) (fun a => Op.bytesLess a.From x.From) ?_ ?_ ?_ (l.length + 1) 0 (by omega) (by omega)
 ·unfold m72
  rw [L, List.drop_zero]
  simp only [Option.bind_some, Nat.zero_add]
  have tk := take_tw (fun a : R => Op.bytesLess a.From x.From) l
  have hlen := congrArg List.length (List.takeWhile_append_dropWhile (p := fun a : R => Op.bytesLess a.From x.From) (l := l))
  simp only [List.length_append] at hlen
  rw [tk.1, tk.2, if_pos (by omega), if_pos (by omega), if_pos (by simp; omega), if_pos (by simp; omega)]
  simp [insRE, insL]
 ·intro k i y hy h
  rw [m72_l1, if_pos (getq_lt hy), hy]
  simp only [Option.bind_some]
  rw [if_pos h]
 ·intro k i y hy h
  rw [m72_l1, if_pos (getq_lt hy), hy]
  simp only [Option.bind_some]
  rw [if_neg (by rw [h]; exact Bool.false_ne_true)]
 ·intro k i hi
  rw [m72_l1, if_neg hi]
theorem m35_l1_eq (m : List R) (hm : m.length ≤ 100000) (hc : ∀ x ∈ m, x.Codes.length ≤ 100000) : ∀ (k i : Nat) (acc : List R), i ≤ m.length → m.length < k + i → acc.length ≤ i → m35_l1 m k acc i = some ((m.drop i).foldl (fun l x => insRE l (swRE x)) acc) := by
 intro k
 induction k with
 | zero => intro i acc h1 h2; omega
 | succ k ih =>
  intro i acc h1 h2 h3
  rw [m35_l1]
  by_cases hi : i < m.length
  ·have hx := List.getElem?_eq_getElem hi
   have hcl := hc m[i] (List.getElem_mem hi)
   rw [if_pos hi, hx]
   simp only [Option.bind_some]
   rw [m35_l2_eq m i m[i] hx hcl _ 0 [] (by omega) (by omega) (by simp), List.drop_zero]
   simp only [Option.bind_some]
   rw [m72_eq acc _ (by omega)]
   simp only [Option.bind_some]
   rw [ih (i + 1) _ (by omega) (by omega) (by rw [insRE_len]; omega), List.drop_eq_getElem_cons hi, List.foldl_cons]
   rfl
  ·rw [if_neg hi, List.drop_eq_nil_of_le (by omega)]; rfl
theorem fold_oE {m : List R} (hi : ∀ x ∈ m, InjC (oE x).Codes) : ∀ (acc : List R), (m.foldl (fun l x => insRE l (swRE x)) acc).map oE = ((m.map oE).map swE).foldl (fun l x => insL (fun a => ltE a x) l x) (acc.map oE) := by
 induction m with
 | nil => intro acc; rfl
 | cons x m ih =>
  intro acc
  rw [List.foldl_cons, ih (fun y hy => hi y (by simp [hy])), List.map_cons, List.map_cons, List.foldl_cons]
  congr 1
  have e : oE (swRE x) = swE (oE x) := by
   unfold swRE swE
   show (⟨x.To, x.From, (x.Codes.foldl insRP []).map oP⟩ : E) = _
   rw [ins_codes (hi x (by simp))]
   rfl
  unfold insRE insL
  rw [List.map_append, List.map_cons, e]
  have t := tw_map oE (fun a => ltE a (swE (oE x))) acc
  rw [t.1, t.2]
  rfl
theorem m35_val {m : List R} (hv : Val (m.map oE)) (hi : Inj (m.map oE)) : ∃ l, m35 m = some (l, 0) ∧ l.map oE = inv (m.map oE) := by
 obtain ⟨b, hb, h⟩ := m32_eq m
 have hlen := hv.2
 rw [List.length_map] at hlen
 have hcl : ∀ x ∈ m, x.Codes.length ≤ 100000 := fun x hx => by
  have := okC_len (hv.good (oE x) (List.mem_map_of_mem hx)).1
  simp only [oE, List.length_map] at this
  omega
 unfold m35
 rw [m24_eq, hb, val_true hv, h.2 ⟨hv, hi⟩]
 simp only [Option.bind_some, if_true]
 rw [m35_l1_eq m (by omega) hcl _ 0 [] (by omega) (by omega) (by simp), List.drop_zero]
 refine ⟨_, rfl, ?_⟩
 rw [fold_oE (fun x hx => hi.2 (oE x) (List.mem_map_of_mem hx))]
 refine insL_all swoE ?_
 refine pw_map (R := fun a b : E => ltE a b = true ∨ ltE b a = true) ((injE_pw.1 hi.1).imp (fun {a b} h => ?_))
 simp only [ltE]
 rcases lt_tri a.To b.To with c | c | c
 ·exact .inl c
 ·exact absurd c h
 ·exact .inr c

/-! ### the reference's composition -/
def cR (e : E) (p : RP) : Option RP := (fC e.Codes p.To).map fun q => ⟨p.From, q.To⟩
theorem cR_map (e : E) (l : List RP) : (l.filterMap (cR e)).map oP = (l.map oP).filterMap (cpF e) := by
 rw [List.filterMap_map, List.map_filterMap]
 congr 1
 funext p
 simp only [Function.comp_def, cR, cpF]
 show _ = (fC e.Codes p.To).map _
 cases fC e.Codes p.To <;> rfl
theorem m36_l2_eq (m n : List R) (i j : Nat) (x y : R) (hx : m[i]? = some x) (hy : n[j]? = some y) (hg : Good (oE y)) (hl : x.Codes.length ≤ 1000000) :
  m36_l2 m n i (j : Int) 9223372036854775808 0 [] = some (x.Codes.filterMap (cR (oE y))) := by
 have L := foldOpt (xs := x.Codes) (lp := m36_l2 m n i (j : Int)) (cR (oE y)) ?_ ?_ 9223372036854775808 [] 0 (by omega) (by omega) (by simp)
 ·rw [L, List.drop_zero]; rfl
 ·intro k acc t p hp ha
  have ht := getq_lt hp
  rw [m36_l2, hx]
  simp only [Option.bind_some]
  rw [if_pos ht, at?_of hy]
  simp only [Option.bind_some]
  rw [hp]
  simp only [Option.bind_some]
  rw [m40_eq, show y.Codes.map oP = (oE y).Codes from rfl]
  simp only [Option.bind_some, cR]
  cases hq : fC (oE y).Codes p.To with
  | none =>
   rw [show (fo noP (none : Option EP)).1 = noP from rfl, if_pos (show noP.To.toNat = 0 from rfl)]
   simp only [Option.bind_some, Option.map_none, Option.toList_none, List.append_nil]
   rw [if_pos (by omega)]
  | some q =>
   have := isC_iff.1 (hg.code (fC_mem hq).1).2
   rw [show (fo noP (some q)).1 = q from rfl, if_neg (by omega), if_pos (by omega)]
   simp only [Option.bind_some]
   rw [if_pos (by omega)]; rfl
 ·intro k acc t ht
  rw [m36_l2, hx]
  simp only [Option.bind_some]
  rw [if_neg ht]
def cE2 (n : List E) (x : R) : Option R := (fE n x.To).bind fun e => if 0 < (x.Codes.filterMap (cR e)).length then some ⟨x.From, e.To, x.Codes.filterMap (cR e)⟩ else none
theorem cE2_map (n : List E) (m : List R) : (m.filterMap (cE2 n)).map oE = (m.map oE).filterMap (ceF n) := by
 rw [List.filterMap_map, List.map_filterMap]
 congr 1
 funext x
 simp only [Function.comp_def, cE2]
 cases h : fE n x.To with
 | none =>
  have h' : fE n (oE x).To = none := h
  have : ceF n (oE x) = none := by
   unfold ceF
   rw [h', if_neg]
   have : (oE x).Codes.filterMap (cpF (fo noE (none : Option E)).1) = [] := by
    rw [List.filterMap_eq_nil_iff]; intro p _; rfl
   rw [this]; simp
  rw [this]; rfl
 | some e =>
  have h' : fE n (oE x).To = some e := h
  rw [ceF_some h']
  have em : (x.Codes.filterMap (cR e)).map oP = (oE x).Codes.filterMap (cpF e) := cR_map e x.Codes
  have el : (x.Codes.filterMap (cR e)).length = ((oE x).Codes.filterMap (cpF e)).length := by rw [← em, List.length_map]
  simp only [Option.bind_some]
  by_cases h0 : 0 < (x.Codes.filterMap (cR e)).length
  ·rw [if_pos h0, if_pos (by omega), ← em]; rfl
  ·rw [if_neg h0, if_neg (by omega)]; rfl
theorem m36_val {m n : List R} (hv : Val (m.map oE)) (hn : Val (n.map oE)) : m36 m n = some (m.filterMap (cE2 (n.map oE)), 0) := by
 have hlen := hv.2
 rw [List.length_map] at hlen
 have L := foldOpt (xs := m) (lp := fun k i acc => m36_l1 m n k acc i) (cE2 (n.map oE)) ?_ ?_ (m.length + 1) [] 0 (by omega) (by omega) (by simp)
 ·unfold m36
  rw [m24_eq, m24_eq, val_true hv, val_true hn]
  simp only [Option.bind_some, if_true]
  rw [L, List.drop_zero]; rfl
 ·intro k acc i x hx ha
  have hi := getq_lt hx
  have hcl : x.Codes.length ≤ 1000000 := by
   have := okC_len (hv.good (oE x) (List.mem_map_of_mem (List.mem_of_getElem? hx))).1
   simp only [oE, List.length_map] at this
   omega
  show m36_l1 m n (k + 1) acc i = _
  rw [m36_l1, if_pos hi, hx]
  simp only [Option.bind_some, cE2]
  obtain ⟨j, hj, ⟨t, y, rfl, hy, h⟩ | ⟨rfl, h⟩⟩ := m39_eq n x.To
  ·rw [hj, h]
   simp only [Option.bind_some]
   rw [if_neg (by omega), at?_of hy]
   simp only [Option.bind_some]
   rw [m36_l2_eq m n i t x y hx hy (hn.good _ (fE_mem h).1) hcl]
   simp only [Option.bind_some]
   by_cases h0 : 0 < (x.Codes.filterMap (cR (oE y))).length
   ·rw [if_pos h0, if_pos h0, if_pos (by omega)]; rfl
   ·rw [if_neg h0, if_neg h0]; simp
  ·rw [hj, h]
   simp only [Option.bind_some]
   rw [if_pos (by decide)]
   simp
 ·intro k acc i hi
  show m36_l1 m n (k + 1) acc i = _
  rw [m36_l1, if_neg hi]

/-! ### the reference's text -/
theorem m37_eq (m : List R) : m37 m = some (if val (m.map oE) = true then (txt (m.map oE), 0) else ([], 1)) := by
 unfold m37
 rw [m24_eq]
 simp only [Option.bind_some]
 by_cases hv : val (m.map oE) = true
 ·rw [if_pos hv, if_pos hv]
  have V := val_iff.1 hv
  have hl := txt_len V.good
  have h60 := V.2
  rw [List.length_map] at h60
  have ef : ∀ l : List R, l.flatMap (fun x => full (oE x)) = txt (l.map oE) := fun l => by unfold txt; rw [List.flatMap_map]
  have L := foldStr (xs := m) (lp := m37_l1 m) (fun x => full (oE x)) 9223372036854775807 ?_ ?_ (m.length + 1) [] 0 (by omega) (by omega) (by rw [List.drop_zero, ef]; rw [List.length_map] at hl; show 0 + (txt (m.map oE)).length ≤ _; omega)
  ·rw [L, List.drop_zero, ef]; rfl
  ·intro k acc i x hx ha
   have hi := getq_lt hx
   rw [m37_l1, if_pos hi, hx]
   simp only [Option.bind_some]
   have hg := V.good (oE x) (List.mem_map_of_mem (List.mem_of_getElem? hx))
   rw [m73_eq hg]
   have hll := line_len hg
   simp only [Option.bind_some]
   have e : (full (oE x)).length = (line (oE x)).length + 1 := by simp [full]
   rw [if_pos (by simp; omega), if_pos (by simp only [List.length_append, List.length_cons, List.length_nil]; omega)]
   rfl
  ·intro k acc i hi
   rw [m37_l1, if_neg hi]
 ·rw [if_neg hv, if_neg hv]
end Go.WK.S
