/- Plain law, part c: texts of maps, what reads them; CrosswalkText. No program in sight but the models. -/
import Derived.Test.YtidmlhihfanglaaGreatDoorTextPB
import Derived.Test.YtidmlhihfanglaaGreatDoorTextAwake
namespace Go.WK.S
open Go Go.Proofs Go.WK Go.RowKit
set_option maxRecDepth 100000

/-! ### lines -/
def lns : Str → List Str × Str
  | [] => ([], [])
  | c :: s => if c = 10 then ([] :: (lns s).1, (lns s).2) else match (lns s).1 with | [] => ([], c :: (lns s).2) | w :: ws => ((c :: w) :: ws, (lns s).2)
theorem lns_none {w : Str} (h : (10 : UInt8) ∉ w) : lns w = ([], w) := by
  induction w with
  | nil => rfl
  | cons c w ih =>
    simp only [List.mem_cons, not_or] at h
    unfold lns
    rw [if_neg (fun e => h.1 e.symm), ih h.2]
theorem lns_word {w t : Str} (h : (10 : UInt8) ∉ w) : lns (w ++ 10 :: t) = (w :: (lns t).1, (lns t).2) := by
  induction w with
  | nil => simp [lns]
  | cons c w ih =>
    simp only [List.mem_cons, not_or] at h
    rw [List.cons_append, lns, if_neg (fun e => h.1 e.symm), ih h.2]
theorem lns_join : ∀ (n : Nat) (s : Str), s.length ≤ n → (lns s).1.flatMap (· ++ [10]) ++ (lns s).2 = s := by
  intro n
  induction n with
  | zero => intro s h; have := List.eq_nil_of_length_eq_zero (Nat.le_zero.1 h); subst this; rfl
  | succ n ih =>
    intro s h
    by_cases hm : (10 : UInt8) ∈ s
    · obtain ⟨w, t, e, hn⟩ := split_at hm
      have hl : t.length ≤ n := by rw [e] at h; simp at h; omega
      rw [e, lns_word hn]
      simp only [List.flatMap_cons]
      have := ih t hl
      rw [List.append_assoc, this]
      simp
    · rw [lns_none hm]; rfl
theorem lns_len (s : Str) : (lns s).1.length ≤ s.length := by
  induction s with
  | nil => simp [lns]
  | cons c s ih =>
    unfold lns
    split
    · simp; exact ih
    · split
      · simp
      · rename_i h; rw [h] at ih; simp at ih ⊢; omega
theorem lns_mem (s : Str) : ∀ w ∈ (lns s).1, w.length ≤ s.length := by
  induction s with
  | nil => simp [lns]
  | cons c s ih =>
    unfold lns
    split
    · intro w hw
      simp only [List.mem_cons] at hw
      rcases hw with rfl | hw
      · simp
      · have := ih w hw; simp; omega
    · split
      · simp
      · rename_i w' ws h
        rw [h] at ih
        intro w hw
        simp only [List.mem_cons] at hw
        rcases hw with rfl | hw
        · have := ih w' (by simp); simp; omega
        · have := ih w (by simp [hw]); simp; omega

/-- The lines behind what was read of one. -/
def onto (r : Str) (p : List Str × Str) : List Str × Str := match p.1 with | [] => ([], r ++ p.2) | w :: ws => ((r ++ w) :: ws, p.2)
theorem onto_nil (p : List Str × Str) : onto [] p = p := by
  unfold onto
  split
  · rename_i h; cases p; simp_all
  · rename_i h; cases p; simp_all
theorem onto_cons (r : Str) (c : UInt8) (s : Str) (h : c ≠ 10) : onto r (lns (c :: s)) = onto (r ++ [c]) (lns s) := by
  rw [lns, if_neg h]
  unfold onto
  cases hq : (lns s).1 with
  | nil => simp
  | cons w ws => simp
theorem m52_l1_eq (s : Str) (hs : s.length ≤ 1099511627776) : ∀ (k i : Nat) (l : List Str) (r : Str), i ≤ s.length → s.length < k + i → l.length ≤ i → r.length ≤ i →
    m52_l1 s k l r i = some (l ++ (onto r (lns (s.drop i))).1, (onto r (lns (s.drop i))).2) := by
  intro k
  induction k with
  | zero => intro i l r h1 h2; omega
  | succ k ih =>
    intro i l r h1 h2 h3 h4
    rw [m52_l1]
    by_cases hi : i < s.length
    · obtain ⟨c, hc⟩ := getq hi
      have e : s.drop i = c :: s.drop (i + 1) := by
        rw [List.drop_eq_getElem_cons hi]
        congr 1
        exact (List.getElem?_eq_some_iff.1 hc).2
      rw [if_pos hi, hc]
      simp only [Option.bind_some]
      by_cases h10 : c = 10
      · rw [if_pos (by rw [h10]; rfl), if_pos (by omega), ih (i + 1) _ _ (by omega) (by omega) (by simp; omega) (by simp), onto_nil, e, lns, if_pos h10]
        simp [onto]
      · rw [if_neg (fun hh => h10 (UInt8.toNat_inj.1 (by rw [hh]; rfl))), if_pos (by omega)]
        have ht : (s.take (i + 1)).drop i = [c] := by
          rw [List.drop_take, e]; simp
        rw [ht, if_pos (by simp; omega), ih (i + 1) _ _ (by omega) (by omega) (by omega) (by simp; omega), e, onto_cons _ _ _ h10]
    · rw [if_neg hi, List.drop_eq_nil_of_le (by omega)]
      simp [lns, onto]
theorem m52_eq (s : Str) (hs : s.length ≤ 1099511627776) : m52 s = some (lns s) := by
  unfold m52
  rw [m52_l1_eq s hs _ 0 [] [] (by omega) (by omega) (by simp) (by simp), List.drop_zero, onto_nil]
  rfl

/-! ### what reads a text, by its lines -/
noncomputable def rd (s : Str) : Option E := @dite _ (∃ x, Good x ∧ line x = s) (Classical.propDecidable _) (fun h => some h.choose) (fun _ => none)
theorem rd_some {s : Str} {x : E} (hg : Good x) (hl : line x = s) : rd s = some x := by
  have h : ∃ x, Good x ∧ line x = s := ⟨x, hg, hl⟩
  unfold rd
  rw [dif_pos h]
  have := h.choose_spec
  rw [line_inj this.1 hg (this.2.trans hl.symm)]
theorem rd_none {s : Str} (h : ¬ ∃ x, Good x ∧ line x = s) : rd s = none := by
  unfold rd
  rw [dif_neg h]
theorem rd_good {s : Str} {x : E} (h : rd s = some x) : Good x ∧ line x = s := by
  by_cases h' : ∃ x, Good x ∧ line x = s
  · obtain ⟨y, hy, hl⟩ := h'
    rw [rd_some hy hl] at h
    obtain rfl := Option.some.inj h
    exact ⟨hy, hl⟩
  · rw [rd_none h'] at h; cases h
theorem m50_rd (s : Str) (h : s.length ≤ 1099511627776) : ∃ x b, m50 s = some (x, b) ∧ (b = true ∧ rd s = some x ∨ b = false ∧ rd s = none) := by
  obtain ⟨⟨x, b⟩, h1, h2, h3⟩ := m50_eq s h
  refine ⟨x, b, h1, ?_⟩
  cases b with
  | true => exact .inl ⟨rfl, rd_some (h2 rfl).1 (h2 rfl).2⟩
  | false => exact .inr ⟨rfl, rd_none (fun ⟨y, hy, hl⟩ => by have := h3 y hy hl; simp at this)⟩
theorem m53_rd (s : Str) (h : s.length ≤ 1099511627776) : ∃ x b, m53 s = some (x, b) ∧ (b = true ∧ rd s = some (oE x) ∨ b = false ∧ rd s = none) := by
  obtain ⟨⟨x, b⟩, h1, h2, h3⟩ := m53_eq s h
  refine ⟨x, b, h1, ?_⟩
  cases b with
  | true => exact .inl ⟨rfl, rd_some (h2 rfl).1 (h2 rfl).2⟩
  | false => exact .inr ⟨rfl, rd_none (fun ⟨y, hy, hl⟩ => by have := h3 (tE y) (by rw [oE_tE]; exact hy) (by rw [oE_tE]; exact hl); simp at this)⟩

noncomputable def prs : List Str → Str → List E → Nat → List E × Int × Int
  | [], rest, acc, n => if rest = [] then (acc, 0, 0) else ([], (n : Int), 7)
  | l :: ls, rest, acc, n => match rd l with
    | none => ([], (n : Int), 7)
    | some x => if val (acc ++ [x]) = true then prs ls rest (acc ++ [x]) (n + 1) else ([], (n : Int), 7)
def fin : Fl (List E × Int × Int) (List E) → List E × Int × Int
  | .ret x => x
  | .go x => (x, 0, 0)
def finR (p : List Str × Str) : Fl (List R × Int × Int) (List R) → List E × Int × Int
  | .ret x => (x.1.map oE, x.2)
  | .go x => if p.2 = [] then (x.map oE, 0, 0) else ([], (p.1.length : Int), 7)

theorem m49_eq (s : Str) (hs : s.length ≤ 1099511627776) :
    (∀ w t, s = w ++ 10 :: t → (10 : UInt8) ∉ w → m49 s [10] = some (w, t, true)) ∧ ((10 : UInt8) ∉ s → m49 s [10] = some (s, [], false)) := by
  obtain ⟨r, h1, h2, h3⟩ := m113_one s 10 (by omega)
  constructor
  · intro w t e hn
    have := h3 w t e hn
    subst this
    have hlen : s.length = w.length + t.length + 1 := by rw [e]; simp; omega
    have hw : IntKind.i64.wrap ((w.length : Int) + (([10] : Str).length : Int)) = ((w.length + 1 : Nat) : Int) := by
      simp only [List.length_cons, List.length_nil]
      rw [wrap64 (by omega)]; omega
    unfold m49 m85
    rw [h1]
    simp only [Option.bind_some]
    rw [if_pos (by omega), if_pos (by omega), hw, if_pos (by omega), Int.toNat_natCast, Int.toNat_natCast, e]
    simp [List.drop_append]
  · intro hn
    unfold m49 m85
    rw [h1]
    simp only [Option.bind_some]
    rcases h2 hn with h | h
    · rw [if_neg (by omega)]; rfl
    · exact absurd (by rw [h]; simp) hn

theorem m19_l1_eq : ∀ (k : Nat) (s : Str) (acc : List E) (n : Nat), s.length < k → s.length ≤ 1099511627776 → acc.length + s.length ≤ 1099511627776 → n + s.length ≤ 1099511627776 →
    ∃ fl, m19_l1 k s acc n = some fl ∧ fin fl = prs (lns s).1 (lns s).2 acc n := by
  intro k
  induction k with
  | zero => intro s acc n h; omega
  | succ k ih =>
    intro s acc n hk hs ha hn
    rw [m19_l1]
    by_cases h0 : s = []
    · rw [if_pos h0]
      refine ⟨_, rfl, ?_⟩
      rw [h0]
      rfl
    · rw [if_neg h0]
      by_cases hm : (10 : UInt8) ∈ s
      · obtain ⟨w, t, e, hnw⟩ := split_at hm
        have hlen : s.length = w.length + t.length + 1 := by rw [e]; simp; omega
        rw [(m49_eq s hs).1 w t e hnw, e, lns_word hnw]
        simp only [Option.bind_some, if_true]
        obtain ⟨x, b, hr, hb⟩ := m50_rd w (by omega)
        rw [hr]
        simp only [Option.bind_some, prs]
        rcases hb with ⟨rfl, hb⟩ | ⟨rfl, hb⟩
        · rw [hb]
          simp only [if_true, m51]
          rw [if_pos (by omega)]
          simp only [Option.bind_some]
          rw [if_pos (by omega), m27_eq]
          simp only [Option.bind_some]
          by_cases hv : val (acc ++ [x]) = true
          · have hv' : val (acc ++ [(⟨x.From, x.To, x.Codes⟩ : E)]) = true := hv
            simp only [hv', Bool.not_true, Bool.false_eq_true, if_false]
            rw [if_pos (by omega), if_pos (by omega), if_pos trivial]
            exact ih t (acc ++ [x]) (n + 1) (by omega) (by omega) (by simp; omega) (by omega)
          · have hv' : val (acc ++ [(⟨x.From, x.To, x.Codes⟩ : E)]) = false := by simpa using hv
            simp only [hv', Bool.not_false, if_true]
            rw [if_neg (by decide)]
            exact ⟨_, rfl, rfl⟩
        · rw [hb]
          simp only [Bool.false_eq_true, if_false, Option.bind_some, if_true]
          exact ⟨_, rfl, rfl⟩
      · rw [(m49_eq s hs).2 hm, lns_none hm]
        obtain ⟨x, b, hr, hb⟩ := m50_rd s hs
        simp only [Option.bind_some, hr, Bool.false_eq_true, if_false, if_true, prs]
        rw [if_neg h0]
        exact ⟨_, rfl, rfl⟩
theorem m19_eq (s : Str) (hs : s.length ≤ 1000000) : m19 s = some (prs (lns s).1 (lns s).2 [] 0) := by
  obtain ⟨fl, h1, h2⟩ := m19_l1_eq 9223372036854775808 s [] 0 (by omega) (by omega) (by simp; omega) (by omega)
  unfold m19
  rw [h1, ← h2]
  cases fl <;> rfl

theorem m20_l1_eq (p : List Str × Str) (hp : p.1.length ≤ 1099511627776) (hw : ∀ w ∈ p.1, w.length ≤ 1099511627776) : ∀ (k n : Nat) (acc : List R), n ≤ p.1.length → p.1.length < k + n → acc.length ≤ n →
    ∃ fl, m20_l1 p k acc n = some fl ∧ finR p fl = prs (p.1.drop n) p.2 (acc.map oE) n := by
  intro k
  induction k with
  | zero => intro n acc h1 h2; omega
  | succ k ih =>
    intro n acc h1 h2 h3
    rw [m20_l1]
    by_cases hi : n < p.1.length
    · obtain ⟨w, hc⟩ := getq hi
      have e : p.1.drop n = w :: p.1.drop (n + 1) := by
        rw [List.drop_eq_getElem_cons hi]
        congr 1
        exact (List.getElem?_eq_some_iff.1 hc).2
      rw [if_pos hi, hc, e]
      simp only [Option.bind_some]
      obtain ⟨x, b, hr, hb⟩ := m53_rd w (hw w (List.mem_of_getElem? hc))
      rw [hr]
      simp only [Option.bind_some, prs]
      rcases hb with ⟨rfl, hb⟩ | ⟨rfl, hb⟩
      · rw [hb]
        simp only [if_true]
        rw [if_pos (by omega), if_pos (by simp; omega), m24_eq]
        have em : ([] ++ acc ++ [(⟨x.From, x.To, x.Codes⟩ : R)]).map oE = acc.map oE ++ [oE x] := by simp
        rw [em]
        simp only [Option.bind_some]
        by_cases hv : val (acc.map oE ++ [oE x]) = true
        · simp only [hv, Bool.not_true, Bool.false_eq_true, if_false, if_true]
          rw [if_pos (by omega)]
          have := ih (n + 1) (acc ++ [x]) (by omega) (by omega) (by simp; omega)
          rw [List.map_append] at this
          exact this
        · have hv' : val (acc.map oE ++ [oE x]) = false := by simpa using hv
          simp only [hv', Bool.not_false, Bool.false_eq_true, if_true, if_false]
          exact ⟨_, rfl, rfl⟩
      · rw [hb]
        simp only [Bool.false_eq_true, if_false, Option.bind_some, if_true]
        exact ⟨_, rfl, rfl⟩
    · rw [if_neg hi, List.drop_eq_nil_of_le (by omega)]
      refine ⟨_, rfl, ?_⟩
      have : p.1.length = n := by omega
      simp only [prs, finR, this]
theorem m20_eq (s : Str) (hs : s.length ≤ 1000000) : ∃ a x e, m20 s = some (a, x, e) ∧ prs (lns s).1 (lns s).2 [] 0 = (a.map oE, x, e) := by
  have hl := lns_len s
  have hm := lns_mem s
  obtain ⟨fl, h1, h2⟩ := m20_l1_eq (lns s) (by omega) (fun w hw => by have := hm w hw; omega) ((lns s).1.length + 1) 0 [] (by omega) (by omega) (by simp)
  rw [List.drop_zero] at h2
  unfold m20
  rw [m52_eq s (by omega)]
  simp only [Option.bind_some]
  rw [h1]
  simp only [Option.bind_some]
  cases fl with
  | ret x =>
    obtain ⟨a, x, e⟩ := x
    exact ⟨a, x, e, rfl, h2.symm⟩
  | go x =>
    simp only [finR] at h2
    by_cases h0 : (lns s).2 = []
    · rw [if_pos h0] at h2
      simp only
      rw [if_pos h0]
      exact ⟨_, _, _, rfl, h2.symm⟩
    · rw [if_neg h0] at h2
      simp only
      rw [if_neg h0]
      exact ⟨_, _, _, rfl, h2.symm⟩

/-! ### what is read -/
theorem prs_spec : ∀ (ls : List Str) (rest : Str) (acc : List E) (n : Nat), Val acc →
    (∃ ys, prs ls rest acc n = (acc ++ ys, 0, 0) ∧ ys.map line = ls ∧ rest = [] ∧ Val (acc ++ ys)) ∨ (∃ x, prs ls rest acc n = ([], x, 7))
  | [], rest, acc, n, hv => by
    unfold prs
    by_cases h : rest = []
    · rw [if_pos h]; exact .inl ⟨[], by simp, rfl, h, by simpa using hv⟩
    · rw [if_neg h]; exact .inr ⟨_, rfl⟩
  | l :: ls, rest, acc, n, hv => by
    unfold prs
    cases h : rd l with
    | none => exact .inr ⟨_, rfl⟩
    | some x =>
      simp only
      by_cases h2 : val (acc ++ [x]) = true
      · rw [if_pos h2]
        rcases prs_spec ls rest (acc ++ [x]) (n + 1) (val_iff.1 h2) with ⟨ys, a, b, c, d⟩ | ⟨y, hy⟩
        · refine .inl ⟨x :: ys, by rw [a]; simp, by simp [b, (rd_good h).2], c, by simpa using d⟩
        · exact .inr ⟨y, hy⟩
      · rw [if_neg h2]; exact .inr ⟨_, rfl⟩
theorem prs_lines : ∀ (ys : List E) (acc : List E) (n : Nat), Val (acc ++ ys) → prs (ys.map line) [] acc n = (acc ++ ys, 0, 0)
  | [], acc, n, hv => by simp [prs]
  | y :: ys, acc, n, hv => by
    have h1 : Val (acc ++ [y]) := Val.pre (b := ys) (by simpa using hv)
    rw [List.map_cons, prs, rd_some (hv.good y (by simp)) rfl]
    simp only
    rw [if_pos (val_true h1), prs_lines ys (acc ++ [y]) (n + 1) (by simpa using hv)]
    simp

/-! ### texts -/
def full (x : E) : Str := line x ++ [10]
def txt (m : List E) : Str := m.flatMap full
theorem txt_len {m : List E} (h : ∀ x ∈ m, Good x) : (txt m).length ≤ 154 * m.length := by
  induction m with
  | nil => simp [txt]
  | cons x m ih =>
    have a := ih (fun y hy => h y (by simp [hy]))
    have b := line_len (h x (by simp))
    have e : (txt (x :: m)).length = (line x).length + 1 + (txt m).length := by simp [txt, full]; omega
    rw [e, List.length_cons]
    omega
theorem txt_lns {m : List E} (h : ∀ x ∈ m, Good x) : lns (txt m) = (m.map line, []) := by
  induction m with
  | nil => rfl
  | cons x m ih =>
    have e : txt (x :: m) = line x ++ 10 :: txt m := by simp [txt, full]
    have hg := h x (by simp)
    have hn : (10 : UInt8) ∉ line x := by
      have f1 : (10 : UInt8) ∉ x.From := fun hm => by have := tagOk_dig hg.2.1 10 hm; revert this; decide
      have f2 : (10 : UInt8) ∉ x.To := fun hm => by have := tagOk_dig hg.2.2.1 10 hm; revert this; decide
      have f3 : (10 : UInt8) ∉ x.Codes.flatMap piece := by
        intro hm
        obtain ⟨p, hp, hm⟩ := List.mem_flatMap.1 hm
        have hc := okC_mem hg.1 hp
        simp only [piece, List.mem_cons, List.not_mem_nil, or_false] at hm
        rcases hm with h | h | h | h
        · revert h; decide
        · rw [← h] at hc; revert hc; simp [isC]
        · revert h; decide
        · rw [← h] at hc; revert hc; simp [isC]
      unfold line
      simp only [List.mem_append, not_or]
      exact ⟨⟨⟨f1, by decide⟩, f2⟩, f3⟩
    rw [e, lns_word hn, ih (fun y hy => h y (by simp [hy]))]
    rfl
theorem m23_eq (m : List E) : m23 m = some (if val m = true then (txt m, 0) else ([], 1)) := by
  unfold m23
  rw [m27_eq]
  simp only [Option.bind_some]
  by_cases hv : val m = true
  · rw [if_pos hv, if_pos hv]
    have V := val_iff.1 hv
    have hl := txt_len V.good
    have h60 := V.2
    have L := foldStr (xs := m) (lp := m23_l1 m) full 9223372036854775807 ?_ ?_ (m.length + 1) [] 0 (by omega) (by omega) (by rw [List.drop_zero]; show 0 + (txt m).length ≤ _; omega)
    · rw [L]; rfl
    · intro k acc i x hx ha
      have hi := getq_lt hx
      rw [m23_l1, if_pos hi, hx]
      simp only [Option.bind_some]
      have hg := V.good x (List.mem_of_getElem? hx)
      rw [m54_eq (x := ⟨x.From, x.To, x.Codes⟩) hg]
      have hll := line_len hg
      simp only [Option.bind_some]
      have e : (full x).length = (line x).length + 1 := by simp [full]
      have e2 : (line (⟨x.From, x.To, x.Codes⟩ : E)) = line x := rfl
      rw [e2, if_pos (by simp; omega), if_pos (by simp only [List.length_append, List.length_cons, List.length_nil]; omega)]
      rfl
    · intro k acc i hi
      rw [m23_l1, if_neg hi]
  · rw [if_neg hv, if_neg hv]

theorem m11_some (m : List R) : ∃ b, m11 m = some b := by
  unfold m11
  have L : ∀ k i, i ≤ m.length → m.length < k + i → ∃ fl, m11_l1 m k i = some fl := by
    intro k
    induction k with
    | zero => intro i h1 h2; omega
    | succ k ih =>
      intro i h1 h2
      rw [m11_l1]
      by_cases hi : i < m.length
      · obtain ⟨x, hx⟩ := getq hi
        have := ih (i + 1) (by omega) (by omega)
        rw [if_pos hi, hx]
        simp only [Option.bind_some]
        repeat' split
        all_goals first | exact this | exact ⟨_, rfl⟩
      · rw [if_neg hi]; exact ⟨_, rfl⟩
  obtain ⟨fl, h⟩ := L (m.length + 1) 0 (by omega) (by omega)
  rw [h]
  cases fl with
  | ret x => exact ⟨x, rfl⟩
  | go x =>
    simp only [Option.bind_some]
    repeat' split
    all_goals exact ⟨_, rfl⟩

theorem law4 (s : Str) (m : List R) (h1 : m.length ≤ 2513169434916) (h2 : ∀ x ∈ m, x.Codes.length ≤ 70368744177664) : m4 s m = some true := by
  unfold m4
  rw [awake_true]
  simp only [Option.bind_some, if_true]
  by_cases hs : 400 < s.length
  · rw [if_pos hs]
  · rw [if_neg hs]
    obtain ⟨b, hb⟩ := m11_some m
    rw [hb]
    simp only [Option.bind_some]
    by_cases hb1 : b = true
    · rw [if_pos hb1, m19_eq s (by omega)]
      obtain ⟨a, x, e, h20, hp⟩ := m20_eq s (by omega)
      rw [h20, hp]
      simp only [Option.bind_some]
      -- the program's map is valid, or empty
      have hval : Val (a.map oE) ∧ (e = 0 → txt (a.map oE) = s) := by
        rcases prs_spec (lns s).1 (lns s).2 [] 0 val_nil with ⟨ys, q1, q2, q3, q4⟩ | ⟨y, q1⟩
        · rw [hp] at q1
          simp only [List.nil_append, Prod.mk.injEq] at q1 q4
          obtain ⟨q1, _, _⟩ := q1
          rw [q1]
          refine ⟨q4, fun _ => ?_⟩
          have := lns_join s.length s (Nat.le_refl _)
          rw [q3, ← q2] at this
          rw [← this]
          simp only [txt, full, List.flatMap_map, List.append_nil]
          rfl
        · rw [hp] at q1
          simp only [Prod.mk.injEq] at q1
          obtain ⟨q1, _, q2⟩ := q1
          rw [q1]
          exact ⟨val_nil, fun h => by rw [h] at q2; cases q2⟩
      obtain ⟨hv, htx⟩ := hval
      rw [m22_val hv, map_tE_oE]
      simp only [Option.bind_some]
      have hself : m21 a a = some true := m21_self a (fun y hy => by
        have := okC_len (hv.good (oE y) (List.mem_map_of_mem hy)).1
        simp only [oE, List.length_map] at this
        omega)
      rw [hself]
      simp only [Option.bind_some, if_true]
      rw [m23_eq, if_pos (val_true hv), m15_eq m h1 h2]
      simp only [Option.bind_some]
      rw [m23_eq]
      simp only [Option.bind_some]
      by_cases hm : val (m.map oE) = true
      · rw [if_pos hm]
        have V := val_iff.1 hm
        have hl := txt_len V.good
        have h60 := V.2
        simp only
        rw [m19_eq _ (by omega), txt_lns V.good]
        simp only [prs_lines (m.map oE) [] 0 (by simpa using V), List.nil_append, Option.bind_some, if_true]
        rw [m22_val V, map_tE_oE]
        have hself2 : m21 m m = some true := m21_self m (fun y hy => by have := h2 y hy; omega)
        simp only [Option.bind_some, hself2]
        by_cases he : e = 0
        · rw [if_pos he, if_pos (htx he)]
        · rw [if_neg he]
      · rw [if_neg hm]
        simp only
        have : m19 [] = some ([], 0, 0) := by rw [m19_eq [] (by simp)]; rfl
        rw [this]
        simp only [Option.bind_some, if_true]
        by_cases he : e = 0
        · rw [if_pos he, if_pos (htx he), if_neg (by decide)]
        · rw [if_neg he, if_neg (by decide)]
    · rw [if_neg hb1]
end Go.WK.S
