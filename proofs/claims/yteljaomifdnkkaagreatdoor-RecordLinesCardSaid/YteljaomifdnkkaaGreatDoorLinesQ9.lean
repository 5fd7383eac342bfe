/- Plain law: Parse, of the program and of the reference. No program in sight but the models. -/
import Derived.Test.YteljaomifdnkkaaGreatDoorLinesQ8
set_option linter.unusedSimpArgs false
set_option linter.unusedVariables false
namespace Go.WK.S
open Go Go.Proofs Go.WK Go.RowKit
set_option maxRecDepth 100000
set_option linter.unusedVariables false
set_option linter.unusedSimpArgs false

/-- The field of a line, if it is one. -/
def fld (s : Str) : Option FD := (m56 s).bind fun r => if r.2 = true then some r.1 else none
theorem fld_iff {s : Str} (hl : s.length ≤ 1000000) {f : FD} : fld s = some f ↔ IsLine s f := by
 obtain ⟨g, ok, h1, h2, h3⟩ := m56_eq hl
 unfold fld
 rw [h1]
 simp only [Option.bind_some]
 cases ok with
 | false => 
  rw [if_neg (by simp)]
  exact ⟨fun h => (by cases h), fun h => by have := (h3 f h).2; cases this⟩
 | true =>
  rw [if_pos rfl]
  constructor
  ·intro h; have hq := Option.some.inj h; subst hq; exact h2 rfl
  ·intro h; rw [(h3 f h).1]
theorem m56_fld {s : Str} (hl : s.length ≤ 1000000) : ∃ f, m56 s = some (f, (fld s).isSome) ∧ ∀ g, fld s = some g → f = g := by
 obtain ⟨g, ok, h1, h2, h3⟩ := m56_eq hl
 refine ⟨g, ?_, fun g' hg => (h3 g' ((fld_iff hl).1 hg)).1⟩
 rw [h1]
 unfold fld
 rw [h1]
 cases ok <;> rfl

def IsNum (s : Str) (n : Int) : Prop := (1 ≤ n ∧ n ≤ 1000000000) ∧ Lib.itoa n = s
def numOf (s : Str) : Option Int := (m55 s).bind fun r => if r.2 = true then some r.1 else none
theorem numOf_iff {s : Str} (hl : s.length ≤ 1000000) {n : Int} : numOf s = some n ↔ IsNum s n := by
 obtain ⟨g, ok, h1, h2, h3⟩ := m55_eq hl
 unfold numOf
 rw [h1]
 simp only [Option.bind_some]
 cases ok with
 | false => 
  rw [if_neg (by simp)]
  exact ⟨fun h => (by cases h), fun h => by have := (h3 n h.1 h.2).2; cases this⟩
 | true =>
  rw [if_pos rfl]
  constructor
  ·intro h; have hq := Option.some.inj h; subst hq; exact h2 rfl
  ·intro h; rw [(h3 n h.1 h.2).1]
theorem m55_num {s : Str} (hl : s.length ≤ 1000000) : ∃ n, m55 s = some (n, (numOf s).isSome) ∧ ∀ g, numOf s = some g → n = g := by
 obtain ⟨g, ok, h1, h2, h3⟩ := m55_eq hl
 refine ⟨g, ?_, fun g' hg => (h3 g' ((numOf_iff hl).1 hg).1 ((numOf_iff hl).1 hg).2).1⟩
 rw [h1]
 unfold numOf
 rw [h1]
 cases ok <;> rfl

/-! ### the text of a record, read -/
def zeroR : RD := ⟨0, []⟩
def body : Nat → List Str → Str → Int → List FD → RD × Int × Int
  | at_, [], rest, id, fs => if 1 < at_ ∧ rest = [] then (⟨id, fs⟩, 0, 0) else (zeroR, (at_ : Int), 7)
  | at_, l :: L, rest, id, fs => if 60 < at_ then (zeroR, (at_ : Int), 7) else match fld l with
    | none => (zeroR, (at_ : Int), 7)
    | some f => body (at_ + 1) L rest id (fs ++ [f])
def parseS (s : Str) : RD × Int × Int := match (lns [] s).1 with
  | [] => (zeroR, 0, 7)
  | l :: L => if l.take 7 = recW then (match numOf (l.drop 7) with | none => (zeroR, 0, 7) | some n => body 1 L (lns [] s).2 n []) else (zeroR, 0, 7)
theorem m15_l1_body : ∀ (k : Nat) (s : Str) (at_ : Nat) (id : Int) (fs : List FD), s.length < k → s.length ≤ 1000000 → 1 ≤ at_ → at_ ≤ 61 → fs.length ≤ 61 → fs.length ≤ at_ →
  m15_l1 k s at_ id fs = some (.ret (body at_ (lns [] s).1 (lns [] s).2 id fs)) := by
 intro k
 induction k with
 | zero => intro s at_ id fs h; omega
 | succ k ih =>
  intro s at_ id fs h1 h2 h3 h4 h5 h6
  rw [m15_l1]
  rcases split10 s with h0 | ⟨a, t, rfl, h0⟩
  ·rw [m53_no (by omega) h0, lns_no s h0]
   simp only [Option.bind_some, body]
   by_cases hat : 1 < at_
   ·rw [if_pos hat]
    simp only [Option.bind_some]
    by_cases hs : s = []
    ·rw [if_pos (decide_eq_true hs), if_pos ⟨hat, hs⟩]
    ·rw [if_neg (by simpa using hs), if_neg (by simp), if_neg (fun h => hs h.2)]
     rfl
   ·rw [if_neg hat]
    simp only [Option.bind_some]
    rw [if_neg (by simp), if_neg (by simp), if_neg (fun h => hat h.1)]
    rfl
  ·rw [m53_line (by omega) h0, lns_line a t h0]
   simp only [List.length_append, List.length_cons] at h1 h2
   have hne : ¬ (a ++ 10 :: t) = [] := by simp
   have hb : (if 1 < at_ then some (decide ((a ++ 10 :: t) = ([] : Str))) else some false) = some false := by
    split
    ·rw [decide_eq_false hne]
    ·rfl
   simp only [Option.bind_some]
   rw [hb]
   simp only [Option.bind_some, body]
   rw [if_neg (by simp), if_pos trivial]
   by_cases h60 : 60 < at_
   ·rw [if_pos h60, if_pos h60]; rfl
   ·obtain ⟨f, hf1, hf2⟩ := m56_fld (s := a) (by omega)
    rw [if_neg h60, if_neg h60, if_neg (by omega), hf1]
    simp only [Option.bind_some]
    cases hfl : fld a with
    | none => rw [if_neg (by simp)]; rfl
    | some g =>
     rw [if_pos (by simp), if_pos (by omega), if_pos (by omega), hf2 g hfl, ih t (at_ + 1) id _ (by omega) (by omega) (by omega) (by omega) (by simp only [List.length_append, List.length_cons, List.length_nil]; omega) (by simp only [List.length_append, List.length_cons, List.length_nil]; omega)]
theorem m54_eq (l : Str) : m54 l recW = some (if l.take 7 = recW then (l.drop 7, true) else (l, false)) := by
 unfold m54 m109 m135
 have e7 : recW.length = 7 := rfl
 rw [e7]
 by_cases h7 : 7 ≤ l.length
 ·rw [if_pos h7]
  simp only [Option.bind_some]
  by_cases h : l.take 7 = recW
  ·rw [if_pos (decide_eq_true h), if_pos h, if_pos h7]; rfl
  ·rw [if_neg (by simpa using h), if_neg h]; rfl
 ·rw [if_neg h7]
  simp only [Option.bind_some]
  rw [if_neg (by simp), if_neg (fun h => by have := congrArg List.length h; simp only [List.length_take, e7] at this; omega)]
  rfl
theorem m15_eq {s : Str} (hs : s.length ≤ 1000000) : m15 s = some (parseS s) := by
 unfold m15
 have key : m15_l1 9223372036854775808 s 0 0 [] = some (.ret (parseS s)) := by
  show m15_l1 (9223372036854775807 + 1) s 0 0 [] = _
  generalize hk : 9223372036854775807 = k
  have hk' : s.length < k := by omega
  clear hk
  rw [m15_l1]
  unfold parseS
  rcases split10 s with h0 | ⟨a, t, rfl, h0⟩
  ·rw [m53_no (by omega) h0, lns_no s h0]
   simp only [Option.bind_some]
   rw [if_neg (by omega)]
   simp only [Option.bind_some]
   rw [if_neg (by simp), if_neg (by simp)]
   rfl
  ·rw [m53_line (by omega) h0, lns_line a t h0]
   simp only [List.length_append, List.length_cons] at hs hk'
   simp only [Option.bind_some]
   rw [if_neg (by omega)]
   simp only [Option.bind_some]
   rw [if_neg (by simp), if_pos trivial, if_neg (by omega), if_pos trivial]
   have e54 := m54_eq a
   unfold recW at e54
   rw [e54]
   simp only [Option.bind_some]
   by_cases h : a.take 7 = recW
   ·have h' : a.take 7 = [114, 101, 99, 111, 114, 100, 32] := h
    rw [if_pos h, if_pos h']
    obtain ⟨n, hn1, hn2⟩ := m55_num (s := a.drop 7) (by simp only [List.length_drop]; omega)
    simp only []
    rw [hn1]
    simp only [Option.bind_some]
    rw [if_pos trivial]
    cases hnu : numOf (a.drop 7) with
    | none => rw [if_neg (by simp)]; rfl
    | some g =>
     rw [if_pos (by simp), if_pos (by omega), hn2 g hnu, m15_l1_body k t 1 g [] (by omega) (by omega) (by omega) (by omega) (by simp) (by simp)]
   ·have h' : ¬ a.take 7 = [114, 101, 99, 111, 114, 100, 32] := h
    rw [if_neg h, if_neg h']
    obtain ⟨n, hn1, hn2⟩ := m55_num (s := a) (by omega)
    simp only []
    rw [hn1]
    simp only [Option.bind_some]
    rw [if_neg (by simp)]
    rfl
 rw [key]
 rfl
end Go.WK.S
