/- Plain law: RecordLines. No program in sight but the models. -/
import Derived.Test.YteljaomifdnkkaaGreatDoorLinesAwk
set_option linter.unusedSimpArgs false
set_option linter.unusedVariables false
namespace Go.WK.S
open Go Go.Proofs Go.WK Go.RowKit
set_option maxRecDepth 100000
set_option linter.unusedVariables false
set_option linter.unusedSimpArgs false

def flat (L : List Str) : Str := L.flatMap fun l => l ++ [10]
theorem body_cut (rest : Str) (id : Int) : ∀ (L : List Str) (i : Nat) (fs : List FD), 1 ≤ i → (∃ g, body i L rest id fs = (g, 0, 0)) ∨
  ∃ n, body i L rest id fs = (zeroR, ((i + n : Nat) : Int), 7) ∧ n ≤ L.length ∧ (n < L.length → ∀ M r', body i (L.take (n + 1) ++ M) r' id fs = (zeroR, ((i + n : Nat) : Int), 7)) ∧
   (∀ l f, fld l = some f → i + n ≤ 60 → ∃ g, body i (L.take n ++ [l]) [] id fs = (⟨id, g⟩, 0, 0) ∧ g.length = fs.length + n + 1) := by
 intro L
 have one : ∀ (i : Nat) (fs : List FD), 1 ≤ i → ∀ l f, fld l = some f → i + 0 ≤ 60 → ∃ g, body i ([] ++ [l]) [] id fs = (⟨id, g⟩, 0, 0) ∧ g.length = fs.length + 0 + 1 := by
  intro i fs h1 l f hf hi
  refine ⟨fs ++ [f], ?_, by simp⟩
  rw [List.nil_append, body, if_neg (by omega), hf]
  simp only []
  rw [body, if_pos ⟨by omega, rfl⟩]
 induction L with
 | nil =>
  intro i fs h1
  rw [body]
  by_cases h : 1 < i ∧ rest = []
  ·rw [if_pos h]; exact .inl ⟨_, rfl⟩
  ·rw [if_neg h]
   exact .inr ⟨0, by simp, Nat.le_refl _, fun h => absurd h (by simp), one i fs h1⟩
 | cons l L ih =>
  intro i fs h1
  rw [body]
  by_cases h60 : 60 < i
  ·rw [if_pos h60]
   refine .inr ⟨0, by simp, by simp, fun _ M r' => ?_, one i fs h1⟩
   rw [show (l :: L).take (0 + 1) ++ M = l :: M from rfl, body, if_pos h60]
   simp
  ·rw [if_neg h60]
   cases hf : fld l with
   | none =>
    refine .inr ⟨0, by simp, by simp, fun _ M r' => ?_, one i fs h1⟩
    rw [show (l :: L).take (0 + 1) ++ M = l :: M from rfl, body, if_neg h60, hf]
    simp
   | some f =>
    simp only []
    rcases ih (i + 1) (fs ++ [f]) (by omega) with ⟨g, h⟩ | ⟨n, e1, e2, e3, e4⟩
    ·exact .inl ⟨g, h⟩
    ·refine .inr ⟨n + 1, ?_, by simp only [List.length_cons]; omega, fun hn M r' => ?_, fun l' f' hf' hi => ?_⟩
     ·rw [e1, show i + 1 + n = i + (n + 1) by omega]
     ·rw [List.take_succ_cons, List.cons_append, body, if_neg h60, hf]
      simp only []
      rw [e3 (by simpa using hn), show i + 1 + n = i + (n + 1) by omega]
     ·obtain ⟨g, hg1, hg2⟩ := e4 l' f' hf' (by omega)
      refine ⟨g, ?_, by rw [hg2]; simp only [List.length_append, List.length_cons, List.length_nil]; omega⟩
      rw [List.take_succ_cons, List.cons_append, body, if_neg h60, hf]
      exact hg1
def parseL (L : List Str) (rest : Str) : RD × Int × Int := match L with
  | [] => (zeroR, 0, 7)
  | l :: L => if l.take 7 = recW then (match numOf (l.drop 7) with | none => (zeroR, 0, 7) | some n => body 1 L rest n []) else (zeroR, 0, 7)
theorem parseS_L (s : Str) : parseS s = parseL (lns [] s).1 (lns [] s).2 := by
 unfold parseS parseL
 rfl
theorem parseL_cut (L : List Str) (rest : Str) : (∃ g, parseL L rest = (g, 0, 0)) ∨
  ∃ n : Nat, parseL L rest = (zeroR, (n : Int), 7) ∧ n ≤ L.length ∧ (n < L.length → ∀ M r', parseL (L.take (n + 1) ++ M) r' = (zeroR, (n : Int), 7)) ∧
   (∀ l f, fld l = some f → 0 < n → n ≤ 60 → ∃ p : RD, parseL (L.take n ++ [l]) [] = (p, 0, 0) ∧ p.Fields.length = n) := by
 cases L with
 | nil => exact .inr ⟨0, rfl, Nat.le_refl _, fun h => absurd h (by simp), fun l f _ h => absurd h (by omega)⟩
 | cons l L =>
  unfold parseL
  simp only []
  by_cases h7 : l.take 7 = recW
  ·rw [if_pos h7]
   cases hn : numOf (l.drop 7) with
   | none =>
    refine .inr ⟨0, rfl, by simp, fun _ M r' => ?_, fun l f _ h => absurd h (by omega)⟩
    rw [show (l :: L).take (0 + 1) ++ M = l :: M from rfl]
    simp only []
    rw [if_pos h7, hn]
    rfl
   | some k =>
    simp only []
    rcases body_cut rest k L 1 [] (Nat.le_refl _) with ⟨g, h⟩ | ⟨n, e1, e2, e3, e4⟩
    ·exact .inl ⟨g, h⟩
    ·refine .inr ⟨1 + n, e1, by simp only [List.length_cons]; omega, fun hlt M r' => ?_, fun l' f' hf' _ hi => ?_⟩
     ·rw [show 1 + n + 1 = (n + 1) + 1 by omega, List.take_succ_cons, List.cons_append]
      simp only []
      rw [if_pos h7, hn]
      exact e3 (by simp only [List.length_cons] at hlt; omega) M r'
     ·obtain ⟨g, hg1, hg2⟩ := e4 l' f' hf' hi
      refine ⟨⟨k, g⟩, ?_, by show g.length = _; rw [hg2]; simp only [List.length_nil]; omega⟩
      rw [show 1 + n = n + 1 by omega, List.take_succ_cons, List.cons_append]
      simp only []
      rw [if_pos h7, hn]
      exact hg1
  ·rw [if_neg h7]
   refine .inr ⟨0, rfl, by simp, fun _ M r' => ?_, fun l f _ h => absurd h (by omega)⟩
   rw [show (l :: L).take (0 + 1) ++ M = l :: M from rfl]
   simp only []
   rw [if_neg h7]
   rfl
theorem lns_flat (t : Str) : ∀ (L : List Str), (∀ l ∈ L, NoLF l) → lns [] (flat L ++ t) = (L ++ (lns [] t).1, (lns [] t).2)
 | [], _ => rfl
 | l :: L, h => by
  rw [show flat (l :: L) ++ t = l ++ 10 :: (flat L ++ t) by unfold flat; simp, lns_line _ _ (h l List.mem_cons_self), lns_flat t L fun x hx => h x (List.mem_cons_of_mem _ hx)]
  rfl
theorem lns_noLF : ∀ (n : Nat) (s : Str), s.length ≤ n → ∀ l ∈ (lns [] s).1, NoLF l := by
 intro n
 induction n with
 | zero => intro s h; have : s = [] := List.eq_nil_of_length_eq_zero (by omega); subst this; intro l hl; cases hl
 | succ n ih =>
  intro s h
  rcases split10 s with h0 | ⟨a, t, rfl, h0⟩
  ·rw [lns_no s h0]; intro l hl; cases hl
  ·rw [lns_line a t h0]
   intro l hl
   rcases List.mem_cons.1 hl with rfl | hl
   ·exact h0
   ·exact ih t (by simp only [List.length_append, List.length_cons] at h; omega) l hl
def w999 : Str := [57, 57, 57, 32, 95, 95, 32, 36, 97, 32, 120, 10]
def l999 : Str := [57, 57, 57, 32, 95, 95, 32, 36, 97, 32, 120]
theorem fld999 : fld l999 = some ⟨[57, 57, 57], 32, 32, [⟨97, [120]⟩]⟩ := (fld_iff (by decide)).2 (by constructor <;> decide)
theorem no999 : NoLF l999 := by
 intro c hc
 simp only [l999, List.mem_cons, List.not_mem_nil, or_false] at hc
 rcases hc with rfl | rfl | rfl | rfl | rfl | rfl | rfl | rfl | rfl | rfl | rfl <;> decide
theorem parse_cut (s : Str) : (∃ g, parseS s = (g, 0, 0)) ∨
  ∃ n : Nat, parseS s = (zeroR, (n : Int), 7) ∧ n ≤ (lns [] s).1.length ∧ (∀ x, (lns [] s).1[n]? = some x → ∀ tail, parseS (flat ((lns [] s).1.take n) ++ x ++ [10] ++ tail) = (zeroR, (n : Int), 7)) ∧
   (0 < n → n ≤ 60 → ∃ p : RD, parseS (flat ((lns [] s).1.take n) ++ w999) = (p, 0, 0) ∧ p.Fields.length = n) := by
 have hno := lns_noLF s.length s (Nat.le_refl _)
 rw [parseS_L]
 rcases parseL_cut (lns [] s).1 (lns [] s).2 with h | ⟨n, e1, e2, e3, e4⟩
 ·exact .inl h
 ·have hnt : ∀ l ∈ (lns [] s).1.take n, NoLF l := fun l hl => hno l (List.mem_of_mem_take hl)
  refine .inr ⟨n, e1, e2, fun x hx tail => ?_, fun h0 h60 => ?_⟩
  ·have hx' := hno x (List.mem_of_getElem? hx)
   have hlt := (List.getElem?_eq_some_iff.1 hx).1
   rw [parseS_L, show flat ((lns [] s).1.take n) ++ x ++ [10] ++ tail = flat ((lns [] s).1.take n) ++ (x ++ 10 :: tail) by simp, lns_flat _ _ hnt, lns_line _ _ hx']
   have := e3 hlt (lns [] tail).1 (lns [] tail).2
   rw [List.take_add_one, hx] at this
   simpa using this
  ·rw [parseS_L, show w999 = l999 ++ 10 :: ([] : Str) from rfl, lns_flat _ _ hnt, lns_line _ _ no999]
   exact e4 l999 _ fld999 h0 h60
theorem flat_take (L : List Str) : ∀ n, (flat (L.take n)).length ≤ (flat L).length := by
 intro n
 have : flat L = flat (L.take n) ++ flat (L.drop n) := by
  unfold flat
  rw [← List.flatMap_append, List.take_append_drop]
 rw [this]
 simp
theorem flat_next {L : List Str} {n : Nat} {x : Str} (h : L[n]? = some x) : flat (L.take (n + 1)) = flat (L.take n) ++ (x ++ [10]) := by
 unfold flat
 rw [List.take_add_one, h]
 simp
theorem m4_l1_eq (r : RD) (w : Int) (L : List Str) (rest : Str) (n : Nat) (hn : n ≤ L.length) (hL : (flat L).length ≤ 1000) (hn2 : n ≤ 1000) : ∀ (k i : Nat), n < k + i → i ≤ n →
  m4_l1 (r, (n : Int), w) (L, rest) k (flat (L.take i)) i = some (flat (L.take n)) := by
 intro k
 induction k with
 | zero => intro i h1 h2; omega
 | succ k ih =>
  intro i h1 h2
  rw [m4_l1]
  by_cases hi : i < n
  ·obtain ⟨x, hx⟩ := getq (show i < L.length by omega)
   have hb := flat_take L (i + 1)
   rw [flat_next hx] at hb
   simp only [List.length_append, List.length_cons, List.length_nil] at hb
   rw [if_pos (by show (i : Int) < (n : Int); omega)]
   show (L[i]?).bind _ = _
   rw [hx]
   simp only [Option.bind_some, List.length_append, List.length_cons, List.length_nil]
   rw [if_pos (by omega), if_pos (by omega), if_pos (by omega), ← flat_next hx]
   exact ih (i + 1) (by omega) (by omega)
  ·rw [if_neg (by show ¬ (i : Int) < (n : Int); omega), show i = n by omega]
theorem law4 (a0 a1 : Str) : m4 a0 a1 = some true := by
 unfold m4
 rw [awake_true]
 simp only [Option.bind_some]
 rw [if_pos trivial]
 by_cases h400 : 400 < a0.length
 case pos => rw [if_pos h400]
 rw [if_neg h400]
 by_cases h200 : 200 < a1.length
 case pos => rw [if_pos h200]
 rw [if_neg h200, m15_eq (by omega), m18_eq (by omega)]
 simp only [Option.bind_some]
 obtain ⟨hb1, hb2⟩ := lns_back a0.length a0 (Nat.le_refl _)
 have hfl : (flat (lns [] a0).1).length + (lns [] a0).2.length = a0.length := by
  rw [← congrArg List.length hb1]; unfold flat; simp
 have hlen : (lns [] a0).1.length ≤ (flat (lns [] a0).1).length := by
  unfold flat
  generalize (lns [] a0).1 = L
  induction L with
  | nil => simp
  | cons l L ih => simp only [List.flatMap_cons, List.length_append, List.length_cons, List.length_nil]; omega
 rcases parse_cut a0 with ⟨g, h⟩ | ⟨n, e1, e2, e3, e4⟩
 ·rw [h, if_pos rfl]
 ·rw [e1]
  simp only []
  rw [if_neg (by decide)]
  by_cases hle : ((lns [] a0).1.length : Int) ≤ (n : Int)
  ·rw [if_pos hle, decide_eq_true (by omega)]
  ·rw [if_neg hle, if_neg (by omega)]
   have hl := m4_l1_eq zeroR 7 (lns [] a0).1 (lns [] a0).2 n e2 (by omega) (by omega) 9223372036854775808 0 (by omega) (by omega)
   rw [show flat ((lns [] a0).1.take 0) = [] from rfl] at hl
   rw [hl]
   obtain ⟨x, hx⟩ := getq (show n < (lns [] a0).1.length by omega)
   have hb := flat_take (lns [] a0).1 (n + 1)
   rw [flat_next hx] at hb
   simp only [List.length_append, List.length_cons, List.length_nil] at hb
   have hat : at? (lns [] a0).1 (n : Int) = some x := by
    unfold at?
    rw [if_pos (by omega)]
    simpa using hx
   simp only [Option.bind_some]
   rw [hat]
   simp only [Option.bind_some, List.length_append, List.length_cons, List.length_nil]
   rw [if_pos (by omega), if_pos (by omega), if_pos (by omega), m15_eq (by simp only [List.length_append, List.length_cons, List.length_nil]; omega), e3 x hx a1]
   simp only [Option.bind_some]
   rw [if_pos trivial, if_pos trivial]
   by_cases h0 : (n : Int) = 0
   ·rw [if_pos h0]
   ·rw [if_neg h0]
    by_cases h8 : (8 : Int) < (n : Int)
    ·rw [if_pos h8]
    ·rw [if_neg h8, if_pos (by omega)]
     obtain ⟨p, hp1, hp2⟩ := e4 (by omega) (by omega)
     unfold w999 at hp1
     rw [m15_eq (by simp only [List.length_append, List.length_cons, List.length_nil]; omega), hp1]
     simp only [Option.bind_some]
     rw [if_pos trivial, decide_eq_true (by omega)]
end Go.WK.S
