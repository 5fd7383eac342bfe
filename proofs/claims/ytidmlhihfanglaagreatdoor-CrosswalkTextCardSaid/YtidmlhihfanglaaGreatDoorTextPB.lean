/- Plain law, part b: lines of entries, what reads them, texts of maps. No program in sight but the models. -/
import Derived.Test.YtidmlhihfanglaaGreatDoorTextPA
namespace Go.WK.S
open Go Go.Proofs Go.WK Go.RowKit
set_option maxRecDepth 100000

/-! ### the line of an entry -/
def word (p : EP) : Str := [p.From, 62, p.To]
def piece (p : EP) : Str := [32, p.From, 62, p.To]
def line (x : E) : Str := x.From ++ [32, 62, 32] ++ x.To ++ x.Codes.flatMap piece
theorem piece_len (l : List EP) : (l.flatMap piece).length = 4 * l.length := by
  induction l with
  | nil => rfl
  | cons p l ih => rw [List.flatMap_cons, List.length_append, ih, List.length_cons]; simp [piece]; omega
theorem line_len {x : E} (h : Good x) : 9 ≤ (line x).length ∧ (line x).length ≤ 153 := by
  have a := tagOk_len h.2.1
  have b := tagOk_len h.2.2.1
  have c := okC_len h.1
  have d := piece_len x.Codes
  unfold line
  simp only [List.length_append, List.length_cons, List.length_nil, d]
  omega
theorem m54_eq {x : E} (h : Good x) : m54 x = some (line x) := by
  have a := tagOk_len h.2.1
  have b := tagOk_len h.2.2.1
  have c := okC_len h.1
  have d := piece_len x.Codes
  unfold m54
  rw [if_pos (by simp only [List.length_cons, List.length_nil]; omega), if_pos (by simp only [List.length_append, List.length_cons, List.length_nil]; omega)]
  have L := foldStr (xs := x.Codes) (lp := m54_l1 x) piece 9223372036854775807 ?_ ?_ (x.Codes.length + 1) (x.From ++ [32, 62, 32] ++ x.To) 0 (by omega) (by omega) (by simp only [List.drop_zero, List.length_append, List.length_cons, List.length_nil, d]; omega)
  · rw [L]; simp [line]
  · intro k acc i p hp ha
    have hi := getq_lt hp
    have hb : (piece p).length = 4 := rfl
    rw [m54_l1, if_pos hi, hp]
    simp only [Option.bind_some]
    rw [if_pos (by simp only [List.length_cons, List.length_nil]; omega), if_pos (by simp only [List.length_append, List.length_cons, List.length_nil]; omega)]
    rfl
  · intro k acc i hi
    rw [m54_l1, if_neg hi]
theorem oE_piece (x : R) : (oE x).Codes.flatMap piece = x.Codes.flatMap (fun p => piece (oP p)) := by
  unfold oE
  simp only [List.flatMap_map]
theorem m73_eq {x : R} (h : Good (oE x)) : m73 x = some (line (oE x)) := by
  have a : x.From.length = 3 := tagOk_len h.2.1
  have b : x.To.length = 3 := tagOk_len h.2.2.1
  have c := okC_len h.1
  have d := piece_len (oE x).Codes
  rw [oE_piece] at d
  have hl : (oE x).Codes.length = x.Codes.length := by simp [oE]
  rw [hl] at c d
  unfold m73
  rw [if_pos (by simp only [List.length_cons, List.length_nil]; omega), if_pos (by simp only [List.length_append, List.length_cons, List.length_nil]; omega)]
  have L := foldStr (xs := x.Codes) (lp := m73_l1 x) (fun p => piece (oP p)) 9223372036854775807 ?_ ?_ (x.Codes.length + 1) (x.From ++ [32, 62, 32] ++ x.To) 0 (by omega) (by omega) (by simp only [List.drop_zero, List.length_append, List.length_cons, List.length_nil, d]; omega)
  · rw [L, List.drop_zero]; simp only [Option.bind_some, line, oE_piece]; rfl
  · intro k acc i p hp ha
    have hi := getq_lt hp
    have hb : (piece (oP p)).length = 4 := rfl
    rw [m73_l1, if_pos hi, hp]
    simp only [Option.bind_some]
    rw [if_pos (by simp only [List.length_cons, List.length_nil]; omega), if_pos (by simp only [List.length_append, List.length_cons, List.length_nil]; omega)]
    rfl
  · intro k acc i hi
    rw [m73_l1, if_neg hi]

/-! ### words -/
def sp : Str → List Str
  | [] => [[]]
  | c :: s => if c = 32 then [] :: sp s else match sp s with | [] => [[c]] | w :: ws => (c :: w) :: ws
theorem sp_ne (s : Str) : sp s ≠ [] := by
  cases s with
  | nil => simp [sp]
  | cons c s =>
    unfold sp
    split
    · simp
    · split <;> simp
theorem sp_none {w : Str} (h : (32 : UInt8) ∉ w) : sp w = [w] := by
  induction w with
  | nil => rfl
  | cons c w ih =>
    simp only [List.mem_cons, not_or] at h
    unfold sp
    rw [if_neg (fun e => h.1 e.symm), ih h.2]
theorem sp_word {w t : Str} (h : (32 : UInt8) ∉ w) : sp (w ++ 32 :: t) = w :: sp t := by
  induction w with
  | nil => simp [sp]
  | cons c w ih =>
    simp only [List.mem_cons, not_or] at h
    rw [List.cons_append, sp, if_neg (fun e => h.1 e.symm), ih h.2]
theorem index_none {c : UInt8} : ∀ {s : Str}, c ∉ s → Lib.indexByte s c = -1
  | [], _ => rfl
  | b :: s, h => by
    simp only [List.mem_cons, not_or] at h
    unfold Lib.indexByte
    have : (b == c) = false := by simpa using fun e : b = c => h.1 e.symm
    rw [this, index_none h.2]
    rfl
theorem index_word {c : UInt8} {t : Str} : ∀ {w : Str}, c ∉ w → Lib.indexByte (w ++ c :: t) c = (w.length : Int)
  | [], _ => by unfold Lib.indexByte; simp
  | b :: s, h => by
    simp only [List.mem_cons, not_or] at h
    rw [List.cons_append]
    unfold Lib.indexByte
    have : (b == c) = false := by simpa using fun e : b = c => h.1 e.symm
    rw [this, index_word h.2]
    have hn : ((s.length : Int) == -1) = false := by simp
    simp only [Bool.false_eq_true, if_false, hn, List.length_cons]
    omega
theorem split_at {c : UInt8} : ∀ {s : Str}, c ∈ s → ∃ w t, s = w ++ c :: t ∧ c ∉ w
  | b :: s, h => by
    by_cases e : b = c
    · exact ⟨[], s, by simp [e], by simp⟩
    · obtain ⟨w, t, h1, h2⟩ := split_at (s := s) (by simpa [Ne.symm e] using h)
      exact ⟨b :: w, t, by simp [h1], by simp [h2, Ne.symm e]⟩
theorem m145_eq (s : Str) (c : UInt8) (h : s.length ≤ 9223372036854775807) : m145 s c = some (Lib.indexByte s c) := by
  unfold m145 m168
  rw [if_pos h]
  rfl
theorem m113_one (s : Str) (c : UInt8) (h : s.length ≤ 9223372036854775807) : ∃ r, m113 s [c] = some r ∧ (c ∉ s → r < 0 ∨ s = [c]) ∧ (∀ w t, s = w ++ c :: t → c ∉ w → r = (w.length : Int)) := by
  unfold m113
  rw [if_neg (by simp)]
  by_cases e : [c] = s
  · subst e
    refine ⟨0, by simp, fun h => .inr rfl, fun w t hw hn => ?_⟩
    cases w with
    | nil => rfl
    | cons a w =>
      simp only [List.cons_append, List.cons.injEq] at hw
      rw [← hw.1] at hn
      simp at hn
  · rw [if_neg e, if_pos (by simp)]
    refine ⟨Lib.indexByte s c, by simp [m145_eq s c h], fun hn => .inl (by rw [index_none hn]; decide), fun w t hw hn => by rw [hw, index_word hn]⟩
theorem wrap64 {n : Int} (h : -9223372036854775808 ≤ n ∧ n ≤ 9223372036854775807) : IntKind.i64.wrap n = n := wrap_in (k := .i64) (by simpa [lo, hi] using h)

theorem m114_l1_eq (s0 : Str) (n : Nat) (h0 : s0.length ≤ 1099511627776) (hn : n ≤ s0.length + 1) : ∀ (k : Nat) (s : Str) (arr : List Str) (i : Nat),
    s.length ≤ s0.length → s.count 32 < k → arr.length = n → n = i + s.count 32 + 1 →
    ∃ s' arr' i', m114_l1 s0 [32] 0 (n : Int) k s arr i = some (s', arr', i') ∧ i' < arr'.length ∧ i' + 1 ≤ n ∧ arr'.length = n ∧ (arr'.set i' s').take (i' + 1) = arr.take i ++ sp s := by
  intro k
  induction k with
  | zero => intro s arr i _ h; omega
  | succ k ih =>
    intro s arr i hs hk ha hni
    have hw : IntKind.i64.wrap (min (n : Int) ((s0.length : Int) + 1) - 1) = (n : Int) - 1 := by rw [wrap64 (by omega)]; omega
    rw [m114_l1, hw]
    by_cases hm : (32 : UInt8) ∈ s
    · have hc : 0 < s.count 32 := List.count_pos_iff.2 hm
      rw [if_pos (by omega)]
      obtain ⟨w, t, hst, hnw⟩ := split_at hm
      obtain ⟨r, hr, _, hr2⟩ := m113_one s 32 (by omega)
      have hrw := hr2 w t hst hnw
      subst hrw
      have hlen : s.length = w.length + t.length + 1 := by rw [hst]; simp; omega
      have hct : s.count 32 = t.count 32 + 1 := by rw [hst, List.count_append, List.count_eq_zero_of_not_mem hnw]; simp
      simp only [m151, hr, Option.bind_some]
      have hw2 : IntKind.i64.wrap ((w.length : Int) + 0) = (w.length : Int) := by rw [wrap64 (by omega)]; omega
      have hw3 : IntKind.i64.wrap ((w.length : Int) + (([32] : Str).length : Int)) = ((w.length + 1 : Nat) : Int) := by
        simp only [List.length_cons, List.length_nil]
        rw [wrap64 (by omega)]; omega
      rw [if_neg (by omega), hw2, hw3, if_pos (by omega), if_pos (by omega), if_pos (by omega), if_pos (by omega)]
      have hd : s.drop ((w.length + 1 : Nat) : Int).toNat = t := by rw [hst, Int.toNat_natCast]; simp [List.drop_append]
      have ht : s.take ((w.length : Int)).toNat = w := by rw [hst, Int.toNat_natCast]; simp
      rw [hd, ht]
      obtain ⟨s', arr', i', e1, e2, e3, e4, e5⟩ := ih t (arr.set i w) (i + 1) (by omega) (by omega) (by simpa using ha) (by omega)
      refine ⟨s', arr', i', e1, e2, e3, e4, ?_⟩
      rw [e5, hst, sp_word hnw]
      have : (arr.set i w).take (i + 1) = arr.take i ++ [w] := by
        rw [List.take_add_one, List.take_set_of_le (Nat.le_refl _)]
        simp [List.getElem?_set, show i < arr.length by omega]
      rw [this]
      simp
    · have hc : s.count 32 = 0 := List.count_eq_zero_of_not_mem hm
      rw [if_neg (by omega)]
      refine ⟨s, arr, i, rfl, by omega, by omega, ha, ?_⟩
      rw [sp_none hm, List.take_add_one, List.take_set_of_le (Nat.le_refl _)]
      simp [List.getElem?_set, show i < arr.length by omega]

theorem m86_eq (s : Str) (h : s.length ≤ 1099511627776) : m86 s [32] = some (sp s) := by
  have hcl : s.count 32 ≤ s.length := List.count_le_length
  have hm150 : m150 s [32] = some ((s.count 32 : Nat) : Int) := by
    unfold m150
    rw [if_neg (by simp), if_pos (by simp)]
    simp only [m172, List.getElem?_cons_zero, Option.bind_some]
    rw [if_pos (by omega)]
    rfl
  have hw : IntKind.i64.wrap (((s.count 32 : Nat) : Int) + 1) = ((s.count 32 + 1 : Nat) : Int) := by rw [wrap64 (by omega)]; omega
  have hmin : (min ((s.count 32 + 1 : Nat) : Int) ((s.length : Int) + 1)).toNat = s.count 32 + 1 := by omega
  obtain ⟨s', arr', i', e1, e2, e3, e4, e5⟩ := m114_l1_eq s (s.count 32 + 1) h (by omega) 9223372036854775808 s (List.replicate (s.count 32 + 1) []) 0 (Nat.le_refl _) (by omega) (by simp) (by omega)
  unfold m86 m114
  rw [if_neg (by decide), if_neg (by simp), if_pos (by decide)]
  rw [hm150]
  simp only [Option.bind_some, hw]
  rw [if_pos (by omega), hmin, if_pos (by omega), e1]
  simp only [Option.bind_some]
  rw [if_pos e2, if_pos (by omega), if_pos (by simp only [List.length_set]; omega), e5]
  simp

/-! ### reading: the program's -/
theorem not32_C {c : UInt8} (h : isC c = true) : c ≠ 32 := by
  rintro rfl; revert h; decide
theorem not32_D {c : UInt8} (h : isD c = true) : c ≠ 32 := by
  rintro rfl; revert h; decide
theorem tag_not32 {s : Str} (h : tagOk s = true) : (32 : UInt8) ∉ s := fun hm => not32_D (tagOk_dig h 32 hm) rfl
theorem okC_mem {l : List EP} (h : OkC l) {p : EP} (hp : p ∈ l) : isC p.From = true ∧ isC p.To = true := by
  obtain ⟨j, hj⟩ := List.getElem?_of_mem hp
  have := h j (getq_lt hj) p hj
  exact ⟨this.1, this.2.1⟩
theorem sp_codes : ∀ (l : List EP) (w : Str), (32 : UInt8) ∉ w → (∀ p ∈ l, isC p.From = true ∧ isC p.To = true) → sp (w ++ l.flatMap piece) = w :: l.map word
  | [], w, h, _ => by simpa using sp_none h
  | p :: l, w, h, hp => by
    have hw : (32 : UInt8) ∉ word p := by
      have := hp p (by simp)
      have a := not32_C this.1
      have b := not32_C this.2
      simp only [word, List.mem_cons, List.not_mem_nil, or_false, not_or]
      exact ⟨a.symm, by decide, b.symm⟩
    have e : w ++ (p :: l).flatMap piece = w ++ 32 :: (word p ++ l.flatMap piece) := by simp [piece, word]
    rw [e, sp_word h, sp_codes l (word p) hw (fun q hq => hp q (by simp [hq]))]
    rfl
theorem sp_line {x : E} (h : Good x) : sp (line x) = x.From :: [62] :: x.To :: x.Codes.map word := by
  have e : line x = x.From ++ 32 :: ([62] ++ 32 :: (x.To ++ x.Codes.flatMap piece)) := by simp [line]
  rw [e, sp_word (tag_not32 h.2.1), sp_word (by decide), sp_codes _ _ (tag_not32 h.2.2.1) (fun p hp => okC_mem h.1 hp)]

/-- The words behind the third as pairs. -/
theorem m50_l1_some (ws : List Str) (u v : Str) (q : List EP) (hb : ws.length ≤ 1099511627777) : ∀ (k i : Nat) (acc : List EP), i ≤ (ws.drop 3).length → (ws.drop 3).length < k + i → acc.length ≤ i →
    ∃ r, m50_l1 ws k i acc u v q = some r ∧ (∀ e b, r = .ret (e, b) → b = false) := by
  intro k
  induction k with
  | zero => intro i acc h1 h2; omega
  | succ k ih =>
    intro i acc h1 h2 h3
    rw [m50_l1]
    by_cases hi : i < (ws.drop 3).length
    · obtain ⟨w, hw⟩ := getq hi
      rw [if_pos hi, hw]
      simp only [Option.bind_some]
      by_cases hl : w.length = 3
      · rw [if_pos hl]
        obtain ⟨a, ha⟩ := getq (xs := w) (i := 0) (by omega)
        obtain ⟨b, hb'⟩ := getq (xs := w) (i := 2) (by omega)
        have hlen : (ws.drop 3).length = ws.length - 3 := by simp
        rw [ha, hb']
        simp only [Option.bind_some]
        rw [if_pos (by omega)]
        exact ih (i + 1) _ (by omega) (by omega) (by simp; omega)
      · rw [if_neg hl]
        exact ⟨_, rfl, fun e b h => (by cases h; rfl)⟩
    · rw [if_neg hi]
      exact ⟨_, rfl, fun e b h => by cases h⟩
theorem m50_l1_words (l : List EP) (ws : List Str) (u v : Str) (q : List EP) (hd : ws.drop 3 = l.map word) (hl : l.length ≤ 1000) : ∀ (k i : Nat) (acc : List EP), i ≤ l.length → l.length < k + i → acc.length ≤ i →
    m50_l1 ws k i acc u v q = some (.go (acc ++ l.drop i, u, v, q)) := by
  intro k
  induction k with
  | zero => intro i acc h1 h2; omega
  | succ k ih =>
    intro i acc h1 h2 h3
    rw [m50_l1, hd]
    by_cases hi : i < l.length
    · obtain ⟨p, hp⟩ := getq hi
      rw [if_pos (by simpa using hi), List.getElem?_map, hp]
      simp only [Option.map_some, Option.bind_some, word, List.length_cons, List.length_nil, List.getElem?_cons_zero, List.getElem?_cons_succ]
      rw [if_pos trivial, if_pos (by omega), ih (i + 1) _ (by omega) (by omega) (by simp; omega)]
      have e : l.drop i = p :: l.drop (i + 1) := by
        rw [List.drop_eq_getElem_cons hi]
        congr 1
        exact (List.getElem?_eq_some_iff.1 hp).2
      rw [e]
      simp
    · rw [if_neg (by simpa using hi), List.drop_eq_nil_of_le (by omega)]
      simp

theorem sp_len (s : Str) : (sp s).length ≤ s.length + 1 := by
  induction s with
  | nil => simp [sp]
  | cons c s ih =>
    unfold sp
    split
    · simp; omega
    · split
      · simp
      · rename_i h; rw [h] at ih; simp at ih ⊢; omega
theorem m50_eq (s : Str) (h : s.length ≤ 1099511627776) :
    ∃ r, m50 s = some r ∧ (r.2 = true → Good r.1 ∧ line r.1 = s) ∧ (∀ x, Good x → line x = s → r = (x, true)) := by
  have hsl := sp_len s
  unfold m50
  rw [m86_eq s h]
  simp only [Option.bind_some]
  by_cases h4 : (sp s).length < 4
  · rw [if_pos h4]
    refine ⟨_, rfl, fun hh => (by cases hh), fun x hx hs => ?_⟩
    rw [← hs, sp_line hx] at h4
    have := hx.2.2.2
    simp only [List.length_cons, List.length_map] at h4
    omega
  · obtain ⟨w0, e0⟩ := getq (xs := sp s) (i := 0) (by omega)
    obtain ⟨w2, e2⟩ := getq (xs := sp s) (i := 2) (by omega)
    rw [if_neg h4, e0, e2]
    simp only [Option.bind_some]
    rw [if_pos (by omega)]
    obtain ⟨r, hr, hr2⟩ := m50_l1_some (sp s) [] [] [] (by omega) (((sp s).drop 3).length + 1) 0 [] (by omega) (by omega) (by simp)
    have comp : ∀ x, Good x → line x = s → r = .go (x.Codes, [], [], []) ∧ w0 = x.From ∧ w2 = x.To := by
      intro x hx hs
      rw [← hs, sp_line hx] at hr e0 e2
      have hcl := okC_len hx.1
      rw [m50_l1_words x.Codes _ [] [] [] (by simp) (by omega) _ 0 [] (by omega) (by simp) (by simp)] at hr
      simp only [List.getElem?_cons_zero, List.getElem?_cons_succ, Option.some.injEq] at e0 e2
      have := Option.some.inj hr
      exact ⟨by rw [← this]; simp, e0.symm, e2.symm⟩
    rw [hr]
    simp only [Option.bind_some]
    cases r with
    | ret x =>
      refine ⟨x, rfl, fun hh => ?_, fun y hy hs => ?_⟩
      · obtain ⟨e, b⟩ := x
        have := hr2 e b rfl
        simp only at hh
        rw [this] at hh
        cases hh
      · have := (comp y hy hs).1
        cases this
    | go t =>
      obtain ⟨cs, u, v, q⟩ := t
      simp only [m57_eq, Option.bind_some]
      by_cases hg : Good ⟨w0, w2, cs⟩
      · rw [if_pos (good_true hg), m54_eq hg]
        refine ⟨_, rfl, fun hh => ⟨hg, by simpa using hh⟩, fun y hy hs => ?_⟩
        obtain ⟨a, b, c⟩ := comp y hy hs
        cases a
        subst b c
        rw [decide_eq_true hs]
      · rw [if_neg (fun hh => hg (good_iff.1 hh))]
        refine ⟨_, rfl, fun hh => (by cases hh), fun y hy hs => ?_⟩
        obtain ⟨a, b, c⟩ := comp y hy hs
        cases a
        subst b c
        exact absurd hy hg
theorem line_inj {x y : E} (hx : Good x) (hy : Good y) (h : line x = line y) : x = y := by
  obtain ⟨r, _, _, hr⟩ := m50_eq (line x) (by have := line_len hx; omega)
  have a := hr x hx rfl
  have b := hr y hy h.symm
  rw [a] at b
  exact (Prod.mk.inj b).1

/-! ### reading: the reference's -/
theorem m53_l1_some (s : Str) (hb : s.length ≤ 1099511627776) : ∀ (k i : Nat) (acc : List RP), i ≤ s.length + 4 → s.length + 4 < k + i → acc.length ≤ i →
    ∃ r, m53_l1 s k i acc = some r := by
  intro k
  induction k with
  | zero => intro i acc h1 h2; omega
  | succ k ih =>
    intro i acc h1 h2 h3
    rw [m53_l1, if_pos (by omega)]
    by_cases hi : i + 3 < s.length
    · obtain ⟨a, ha⟩ := getq (xs := s) (i := i + 1) (by omega)
      obtain ⟨b, hb'⟩ := getq (xs := s) (i := i + 3) (by omega)
      rw [if_pos hi, if_pos (by omega), ha, hb']
      simp only [Option.bind_some]
      rw [if_pos (by omega), if_pos (by omega)]
      exact ih (i + 4) _ (by omega) (by omega) (by simp; omega)
    · rw [if_neg hi]
      exact ⟨_, rfl⟩
theorem drop_add' {s t u : Str} {i : Nat} (h : s.drop i = t ++ u) : s.drop (i + t.length) = u := by
  rw [← List.drop_drop, h]; simp
theorem m53_l1_words : ∀ (l : List RP) (s : Str), s.length ≤ 100000 → ∀ (k i : Nat) (acc : List RP), i ≤ s.length → s.length + 4 < k + i → acc.length ≤ i → s.drop i = l.flatMap (fun p => piece (oP p)) →
    m53_l1 s k i acc = some (acc ++ l) := by
  intro l
  induction l with
  | nil =>
    intro s hs k i acc h1 h2 h3 hd
    have : s.length = i := by
      have := congrArg List.length hd
      simp at this
      omega
    obtain ⟨k, rfl⟩ : ∃ k', k = k' + 1 := ⟨k - 1, by omega⟩
    rw [m53_l1, if_pos (by omega), if_neg (by omega)]
    simp
  | cons p l ih =>
    intro s hs k i acc h1 h2 h3 hd
    rw [List.flatMap_cons] at hd
    have hlen := congrArg List.length hd
    simp only [List.length_drop, List.length_append, piece, List.length_cons, List.length_nil] at hlen
    obtain ⟨k, rfl⟩ : ∃ k', k = k' + 1 := ⟨k - 1, by omega⟩
    have g : ∀ j, s[i + j]? = (s.drop i)[j]? := fun j => by rw [List.getElem?_drop]
    have g1 : s[i + 1]? = some p.From := by rw [g, hd]; rfl
    have g3 : s[i + 3]? = some p.To := by rw [g, hd]; rfl
    rw [m53_l1, if_pos (by omega), if_pos (by omega), if_pos (by omega), g1, g3]
    simp only [Option.bind_some]
    rw [if_pos (by omega), if_pos (by omega), ih s hs k (i + 4) _ (by omega) (by omega) (by simp; omega) (drop_add' (t := piece (oP p)) hd)]
    simp
theorem m53_eq (s : Str) (h : s.length ≤ 1099511627776) :
    ∃ r, m53 s = some r ∧ (r.2 = true → Good (oE r.1) ∧ line (oE r.1) = s) ∧ (∀ x, Good (oE x) → line (oE x) = s → r = (x, true)) := by
  unfold m53
  by_cases h9 : s.length < 9
  · rw [if_pos h9]
    refine ⟨_, rfl, fun hh => (by cases hh), fun x hx hs => ?_⟩
    have := line_len hx
    rw [hs] at this
    omega
  · rw [if_neg h9, if_pos (by omega), if_pos (by omega)]
    obtain ⟨r, hr⟩ := m53_l1_some s h (s.length + 1) 9 [] (by omega) (by omega) (by simp)
    have comp : ∀ x, Good (oE x) → line (oE x) = s → r = x.Codes ∧ s.take 3 = x.From ∧ (s.take 9).drop 6 = x.To := by
      intro x hx hs
      have hlen := line_len hx
      rw [hs] at hlen
      have a : x.From.length = 3 := tagOk_len hx.2.1
      have b : x.To.length = 3 := tagOk_len hx.2.2.1
      have e : s = x.From ++ ([32, 62, 32] ++ (x.To ++ x.Codes.flatMap (fun p => piece (oP p)))) := by
        rw [← hs]; simp only [line, oE_piece, List.append_assoc]; rfl
      have hd : s.drop 9 = x.Codes.flatMap (fun p => piece (oP p)) := by
        have e1 : s.drop (0 + x.From.length) = _ := drop_add' (by rw [List.drop_zero]; exact e)
        have e2 := drop_add' e1
        have e3 := drop_add' e2
        rw [a, b] at e3
        exact e3
      refine ⟨?_, ?_, ?_⟩
      · rw [m53_l1_words x.Codes s (by omega) _ 9 [] (by omega) (by omega) (by simp) hd] at hr
        have := Option.some.inj hr
        rw [← this]; simp
      · rw [e, List.take_append_of_le_length (by omega), List.take_of_length_le (by omega)]
      · have h6 : s.drop 6 = x.To ++ x.Codes.flatMap (fun p => piece (oP p)) := by
          have e1 : s.drop (0 + x.From.length) = _ := drop_add' (by rw [List.drop_zero]; exact e)
          have e2 := drop_add' e1
          rw [a] at e2
          exact e2
        rw [List.drop_take, h6]
        simp [b]
    rw [hr]
    simp only [Option.bind_some, m55_eq]
    by_cases hg : Good (oE ⟨s.take 3, (s.take 9).drop 6, r⟩)
    · rw [if_pos (good_true hg), m73_eq hg]
      refine ⟨_, rfl, fun hh => ⟨hg, by simpa using hh⟩, fun y hy hs => ?_⟩
      obtain ⟨a, b, c⟩ := comp y hy hs
      rw [a, b, c, decide_eq_true hs]
    · rw [if_neg (fun hh => hg (good_iff.1 hh))]
      refine ⟨_, rfl, fun hh => (by cases hh), fun y hy hs => ?_⟩
      obtain ⟨a, b, c⟩ := comp y hy hs
      rw [a, b, c] at hg
      exact absurd hy hg
end Go.WK.S
