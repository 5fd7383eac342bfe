/- Plain law: Parse of the reference; what Parse and Print are to each other. No program in sight but the models. -/
import Derived.Test.YteljaomifdnkkaaGreatDoorTextQ9
set_option linter.unusedSimpArgs false
set_option linter.unusedVariables false
namespace Go.WK.S
open Go Go.Proofs Go.WK Go.RowKit
set_option maxRecDepth 100000
set_option linter.unusedVariables false
set_option linter.unusedSimpArgs false

theorem m16_l1_body (L : List Str) (rest : Str) (hL : ∀ l ∈ L, l.length ≤ 1000000) (id : Int) : ∀ (k i : Nat) (fs : List FD), L.length < k + i → 1 ≤ i → i ≤ L.length → i ≤ 61 → fs.length + 1 = i →
  (∃ r, m16_l1 (L, rest) k i id fs = some (.ret r) ∧ body i (L.drop i) rest id fs = r) ∨
  (∃ fs', m16_l1 (L, rest) k i id fs = some (.go (id, fs')) ∧ fs'.length + 1 = L.length ∧ body i (L.drop i) rest id fs = (if 1 < L.length ∧ rest = [] then (⟨id, fs'⟩, 0, 0) else (zeroR, (L.length : Int), 7))) := by
 intro k
 induction k with
 | zero => intro i fs h1 h2 h3; omega
 | succ k ih =>
  intro i fs h1 h2 h3 h4 h5
  rw [m16_l1]
  by_cases hi : i < L.length
  ·obtain ⟨l, hl⟩ := getq hi
   have hll := hL l (List.mem_of_getElem? hl)
   rw [if_pos hi]
   show (∃ r, ((L[i]?).bind _) = _ ∧ _) ∨ _
   rw [hl, drop_at hl]
   obtain ⟨f, hf1, hf2⟩ := m58_fld hll
   simp only [Option.bind_some, body]
   rw [hf1]
   simp only [Option.bind_some]
   by_cases h60 : 60 < i
   ·refine .inl ⟨(zeroR, (i : Int), 7), ?_, by rw [if_pos h60]⟩
    cases hfl : fld l with
    | none => rw [if_neg (by simp)]; rfl
    | some g => rw [if_pos (by simp), if_pos h60]; rfl
   ·simp only [if_neg h60]
    cases hfl : fld l with
    | none => rw [if_neg (by simp)]; exact .inl ⟨_, rfl, rfl⟩
    | some g =>
     rw [if_pos (by simp), if_pos (by omega), hf2 g hfl]
     exact ih (i + 1) _ (by omega) (by omega) (by omega) (by omega) (by simp only [List.length_append, List.length_cons, List.length_nil]; omega)
  ·rw [if_neg hi, List.drop_eq_nil_of_le (by omega)]
   have e : i = L.length := by omega
   refine .inr ⟨fs, rfl, by omega, ?_⟩
   rw [body, e]
theorem m16_eq {s : Str} (hs : s.length ≤ 1000000) : m16 s = some (parseS s) := by
 have hB := (lns_back s.length s (Nat.le_refl _)).2
 unfold m16 parseS
 rw [m18_eq (by omega)]
 simp only [Option.bind_some]
 cases hls : (lns [] s).1 with
 | nil => rw [if_pos (by simp)]; rfl
 | cons l L =>
  rw [hls] at hB
  have hl := hB l List.mem_cons_self
  rw [if_neg (by simp)]
  simp only [List.getElem?_cons_zero, Option.bind_some]
  by_cases h8 : l.length < 8
  ·rw [if_pos h8]
   by_cases h : l.take 7 = recW
   ·rw [if_pos h]
    have h7 : l.drop 7 = [] := List.drop_eq_nil_of_le (by omega)
    cases hn : numOf (l.drop 7) with
    | none => rfl
    | some n =>
     exfalso
     obtain ⟨h1, h2⟩ := (numOf_iff (by rw [h7]; simp)).1 hn
     obtain ⟨u, rfl⟩ := Int.eq_ofNat_of_zero_le (by omega : 0 ≤ n)
     rw [itoa_nat, h7] at h2
     exact dec_ne u h2
   ·rw [if_neg h]; rfl
  ·rw [if_neg h8, if_pos (by omega)]
   by_cases h : l.take 7 = recW
   ·have h' : l.take 7 = [114, 101, 99, 111, 114, 100, 32] := h
    rw [if_pos h, if_pos h', if_pos (by omega)]
    obtain ⟨n, ok, hn1, hn2, hn3⟩ := m57_num (l.drop 7) (by simp only [List.length_drop]; omega)
    rw [hn1]
    simp only [Option.bind_some]
    cases hnu : numOf (l.drop 7) with
    | none =>
     rcases hn2 hnu with h0 | h0
     ·rw [if_neg (by simp [h0])]; rfl
     ·by_cases hok : ok = true
      ·rw [if_pos hok, if_pos h0]; rfl
      ·rw [if_neg hok]; rfl
    | some g =>
     obtain ⟨e1, e2, e3⟩ := hn3 g hnu
     rw [if_pos e2, if_neg e3]
     have hp : lns [] s = (l :: L, (lns [] s).2) := by rw [← hls]
     rcases m16_l1_body (l :: L) (lns [] s).2 (fun x hx => by have := hB x hx; omega) n ((l :: L).length + 1) 1 [] (by omega) (by omega) (by simp) (by omega) (by simp) with ⟨r, hr1, hr2⟩ | ⟨fs', hr1, hr2, hr3⟩
     ·rw [← hp] at hr1
      rw [hr1]
      simp only [Option.bind_some]
      rw [← hr2, e1]
      rfl
     ·rw [← hp] at hr1
      rw [hr1]
      simp only [Option.bind_some]
      simp only [List.drop_succ_cons, List.drop_zero] at hr3
      rw [← e1, hr3]
      by_cases hrest : (lns [] s).2 = []
      ·rw [if_pos hrest]
       by_cases hlen : fs'.length = 0
       ·rw [if_pos hlen, if_neg (by omega)]; rfl
       ·rw [if_neg hlen, if_pos ⟨by omega, hrest⟩]
      ·rw [if_neg hrest, if_neg (fun h => hrest h.2)]; rfl
   ·have h' : ¬ l.take 7 = [114, 101, 99, 111, 114, 100, 32] := h
    rw [if_neg h, if_neg h']; rfl

/-! ### the text of a valid record is read back -/
theorem lineOk_len {f : FD} (h : fieldOk f = true) : (lineOf f).length ≤ 16086 := by
 obtain ⟨p1, _, _, p4, p5⟩ := field_parts h
 have h1 := subsLine_len (l := f.Subs) (B := 400) (fun s hs => (textOk_ends (subOk_val (p5 s hs)).2).1.2)
 have h2 : f.Subs.length * (2 * 400 + 4) ≤ 20 * (2 * 400 + 4) := Nat.mul_le_mul_right _ p4.2
 unfold lineOf headOf
 simp only [List.length_append, List.length_cons, List.length_nil]
 omega
theorem fieldsOk_len {l : List FD} (h : ∀ f ∈ l, fieldOk f = true) : (fieldsText l).length ≤ l.length * 16087 := by
 induction l with
 | nil => simp [fieldsText]
 | cons f l ih =>
  rw [fieldsText_cons]
  have h1 := lineOk_len (h f List.mem_cons_self)
  have h2 := ih (fun x hx => h x (List.mem_cons_of_mem _ hx))
  simp only [List.length_append, List.length_cons, List.length_nil, Nat.succ_mul]
  omega
theorem textOk_len {r : RD} (h : recOk r = true) : (textOf r).length ≤ 1000000 := by
 obtain ⟨h1, h2, h3⟩ := recOk_id h
 have h4 := itoa_len (n := r.ID) (by omega)
 have h5 := fieldsOk_len h3
 have e7 : recW.length = 7 := rfl
 unfold textOf
 simp only [List.length_append, List.length_cons, List.length_nil]
 omega
theorem recW_noLF : NoLF recW := by
 intro c hc
 simp only [recW, List.mem_cons, List.not_mem_nil, or_false] at hc
 rcases hc with rfl | rfl | rfl | rfl | rfl | rfl | rfl <;> decide
theorem NoLF.app {a b : Str} (h : NoLF a) (k : NoLF b) : NoLF (a ++ b) := fun c hc => by
 rcases List.mem_append.1 hc with hc | hc
 ·exact h c hc
 ·exact k c hc
theorem lns_fields : ∀ (l : List FD), (∀ f ∈ l, fieldOk f = true) → lns [] (fieldsText l) = (l.map lineOf, [])
 | [], _ => rfl
 | f :: l, h => by
  rw [fieldsText_cons, List.append_assoc]
  show lns [] (lineOf f ++ 10 :: fieldsText l) = _
  rw [lns_line _ _ (line_noLF (h f List.mem_cons_self)), lns_fields l (fun x hx => h x (List.mem_cons_of_mem _ hx))]
  rfl
theorem body_fields (id : Int) : ∀ (l : List FD) (i : Nat) (fs : List FD), (∀ f ∈ l, fieldOk f = true) → i + l.length ≤ 61 → 1 < i + l.length → body i (l.map lineOf) [] id fs = (⟨id, fs ++ l⟩, 0, 0)
 | [], i, fs, _, _, h => by
  rw [List.map_nil, body, if_pos ⟨by simpa using h, rfl⟩, List.append_nil]
 | f :: l, i, fs, h, h2, h3 => by
  simp only [List.length_cons] at h2 h3
  have hf := h f List.mem_cons_self
  have hline : fld (lineOf f) = some f := (fld_iff (by have := lineOk_len hf; omega)).2 ⟨hf, rfl⟩
  rw [List.map_cons, body, if_neg (by omega), hline]
  simp only []
  rw [body_fields id l (i + 1) _ (fun x hx => h x (List.mem_cons_of_mem _ hx)) (by omega) (by omega)]
  simp
theorem parse_text {r : RD} (h : recOk r = true) : parseS (textOf r) = (r, 0, 0) := by
 obtain ⟨h1, h2, h3⟩ := recOk_id h
 have hl := itoa_len (n := r.ID) (by omega)
 have e7 : recW.length = 7 := rfl
 have e : textOf r = (recW ++ Lib.itoa r.ID) ++ 10 :: fieldsText r.Fields := by unfold textOf; simp
 have hls : lns [] (textOf r) = ((recW ++ Lib.itoa r.ID) :: r.Fields.map lineOf, []) := by
  rw [e, lns_line _ _ (recW_noLF.app (itoa_noLF (by omega))), lns_fields r.Fields h3]
 unfold parseS
 rw [hls]
 simp only []
 have ht : (recW ++ Lib.itoa r.ID).take 7 = recW := by rw [← e7, List.take_left]
 have hd : (recW ++ Lib.itoa r.ID).drop 7 = Lib.itoa r.ID := by rw [← e7, List.drop_left]
 rw [if_pos ht, hd, (numOf_iff (by omega)).2 ⟨h1, rfl⟩]
 simp only []
 rw [body_fields r.ID r.Fields 1 [] h3 (by omega) (by omega)]
 rfl
/-- What Parse accepts is the text of its result. -/
theorem body_back (rest : Str) (id : Int) : ∀ (L : List Str) (i : Nat) (fs : List FD), (∀ l ∈ L, l.length ≤ 1000000) → 1 ≤ i → i ≤ 61 → fs.length + 1 = i → (∀ f ∈ fs, fieldOk f = true) →
  (∃ p n, body i L rest id fs = (p, n, 7) ∧ p = zeroR) ∨ (∃ gs, body i L rest id fs = (⟨id, fs ++ gs⟩, 0, 0) ∧ L = gs.map lineOf ∧ rest = [] ∧ (∀ f ∈ gs, fieldOk f = true) ∧ i + gs.length ≤ 61 ∧ 1 < i + gs.length)
 | [], i, fs, _, h1, h2, h3, h4 => by
  rw [body]
  by_cases h : 1 < i ∧ rest = []
  ·rw [if_pos h]; exact .inr ⟨[], by simp, rfl, h.2, fun _ h => (by cases h), by simpa using h2, by simpa using h.1⟩
  ·rw [if_neg h]; exact .inl ⟨_, _, rfl, rfl⟩
 | l :: L, i, fs, hL, h1, h2, h3, h4 => by
  rw [body]
  by_cases h60 : 60 < i
  ·rw [if_pos h60]; exact .inl ⟨_, _, rfl, rfl⟩
  ·rw [if_neg h60]
   cases hfl : fld l with
   | none => exact .inl ⟨_, _, rfl, rfl⟩
   | some f =>
    obtain ⟨hf1, hf2⟩ := (fld_iff (hL l List.mem_cons_self)).1 hfl
    simp only []
    rcases body_back rest id L (i + 1) (fs ++ [f]) (fun x hx => hL x (List.mem_cons_of_mem _ hx)) (by omega) (by omega) (by simp only [List.length_append, List.length_cons, List.length_nil]; omega) (fun x hx => by
     rcases List.mem_append.1 hx with hx | hx
     ·exact h4 x hx
     ·simp only [List.mem_singleton] at hx; rw [hx]; exact hf1) with ⟨p, n, e, hp⟩ | ⟨gs, e, e1, e2, e3, e4, e5⟩
    ·exact .inl ⟨p, n, e, hp⟩
    ·refine .inr ⟨f :: gs, ?_, by rw [List.map_cons, hf2, e1], e2, fun x hx => ?_, by simp only [List.length_cons]; omega, by simp only [List.length_cons]; omega⟩
     ·rw [e]; simp
     ·rcases List.mem_cons.1 hx with rfl | hx
      ·exact hf1
      ·exact e3 x hx
theorem parse_back {s : Str} (hs : s.length ≤ 1000000) : (∃ n, parseS s = (zeroR, n, 7)) ∨ (∃ p, parseS s = (p, 0, 0) ∧ recOk p = true ∧ textOf p = s) := by
 obtain ⟨hb1, hb2⟩ := lns_back s.length s (Nat.le_refl _)
 unfold parseS
 cases hls : (lns [] s).1 with
 | nil => exact .inl ⟨_, rfl⟩
 | cons l L =>
  rw [hls] at hb1 hb2
  have hl := hb2 l List.mem_cons_self
  simp only []
  by_cases h : l.take 7 = recW
  ·rw [if_pos h]
   cases hn : numOf (l.drop 7) with
   | none => exact .inl ⟨_, rfl⟩
   | some n =>
    obtain ⟨n1, n2⟩ := (numOf_iff (by simp only [List.length_drop]; omega)).1 hn
    simp only []
    rcases body_back (lns [] s).2 n L 1 [] (fun x hx => by have := hb2 x (List.mem_cons_of_mem _ hx); omega) (by omega) (by omega) (by simp) (fun _ h => by cases h) with ⟨p, m, e, hp⟩ | ⟨gs, e, e1, e2, e3, e4, e5⟩
    ·rw [e, hp]; exact .inl ⟨_, rfl⟩
    ·rw [e]
     refine .inr ⟨_, rfl, ?_, ?_⟩
     ·unfold recOk
      simp only [Bool.and_eq_true, decide_eq_true_eq, List.all_eq_true, List.nil_append]
      exact ⟨⟨n1, by omega⟩, e3⟩
     ·rw [← hb1, e2, e1]
      unfold textOf fieldsText
      simp only [List.nil_append, List.flatMap_cons, List.append_nil, List.flatMap_map]
      rw [n2]
      have : recW ++ l.drop 7 = l := by rw [← h]; exact List.take_append_drop 7 l
      rw [this]
  ·rw [if_neg h]; exact .inl ⟨_, rfl⟩
end Go.WK.S
