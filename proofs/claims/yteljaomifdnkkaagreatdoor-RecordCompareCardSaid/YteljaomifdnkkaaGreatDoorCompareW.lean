/- wire: Int and Text as contracts with the row of bytes handed over; bytes.Compare. -/
import Derived.Test.YteljaomifdnkkaaGreatDoorCompareV
import Derived.Test.YteljaomifdnkkaaGreatDoorCompareKV
set_option linter.unusedSimpArgs false
set_option linter.unusedVariables false
namespace Go.WK.S
open Go Go.Proofs Go.WK Go.RowKit
set_option linter.unusedVariables false
set_option linter.unusedSimpArgs false
set_option maxRecDepth 100000
set_option maxHeartbeats 4000000
theorem kw_u130 : Tryz.prog.underlying 130 = some (.int .u64) := by kernel_rfl
theorem kw_u5 : Tryz.prog.underlying 5 = some (.int .u8) := by kernel_rfl
theorem kw_u3 : Tryz.prog.underlying 3 = some (.int .i64) := by kernel_rfl
theorem kw_u149 : Tryz.prog.underlying 149 = some (.array 10 5) := by kernel_rfl
theorem kw_u48 : Tryz.prog.underlying 48 = some (.slice 5) := by kernel_rfl
theorem kw_u9 : Tryz.prog.underlying 9 = some .string := by kernel_rfl
theorem kw_t5 : tinf Tryz.prog 5 = some (.int .u8 0, 1, 1, false) := by kernel_rfl
theorem kw_t149 : tinf Tryz.prog 149 = some (.agg #[.int .u8 0, .int .u8 0, .int .u8 0, .int .u8 0, .int .u8 0, .int .u8 0, .int .u8 0, .int .u8 0, .int .u8 0, .int .u8 0], 10, 10, true) := by kernel_rfl
/-! the groups of seven bits -/
def hiE : Nat → Str
  | 0 => []
  | u + 1 => hiE ((u + 1) / 128) ++ [UInt8.ofNat ((u + 1) % 128 + 128)]
decreasing_by omega
def encN (u : Nat) : Str := hiE (u / 128) ++ [UInt8.ofNat (u % 128)]
def encI (n : Int) : Str := encN (2 * n.toNat)
def encL : Nat → Str × Nat × Nat → Option (Str × Nat)
  | 0, _ => none
  | k + 1, s => if s.1.length = 10 ∧ s.2.1 ≤ 9 ∧ s.2.2 ≤ 9223372036854775807 then (if 0 < s.2.2 then (if 0 < s.2.1 then encL k (s.1.set (s.2.1 - 1) (UInt8.ofNat (s.2.2 % 128 + 128)), s.2.1 - 1, s.2.2 / 128) else none) else some (s.1, s.2.1)) else none
theorem hiE_pos {u : Nat} (h : 0 < u) : hiE u = hiE (u / 128) ++ [UInt8.ofNat (u % 128 + 128)] := by
 cases u with
 | zero => omega
 | succ u => rw [hiE]
theorem encL_eq : ∀ (at_ : Nat) (bs : Str) (u : Nat), bs.length = 10 → at_ ≤ 9 → u ≤ 9223372036854775807 → u < 128 ^ at_ → ∃ bs' at', encL (at_ + 1) (bs, at_, u) = some (bs', at') ∧ bs'.length = 10 ∧ at' ≤ 9 ∧ bs'.drop at' = hiE u ++ bs.drop at_
 | 0, bs, u, h1, h2, h3, h4 => by
  have : u = 0 := by omega
  subst this
  refine ⟨bs, 0, ?_, h1, by omega, by simp [hiE]⟩
  rw [encL, if_pos ⟨h1, h2, h3⟩, if_neg (by simp)]
 | at_ + 1, bs, u, h1, h2, h3, h4 => by
  rw [encL, if_pos ⟨h1, h2, h3⟩]
  by_cases h0 : 0 < u
  ·rw [if_pos h0, if_pos (show 0 < at_ + 1 by omega)]
   obtain ⟨bs', at', e1, e2, e3, e4⟩ := encL_eq at_ (bs.set at_ (UInt8.ofNat (u % 128 + 128))) (u / 128) (by simpa using h1) (by omega) (by omega) (Nat.div_lt_of_lt_mul (by rw [Nat.pow_succ, Nat.mul_comm] at h4; exact h4))
   refine ⟨bs', at', e1, e2, e3, ?_⟩
   rw [e4, hiE_pos h0, List.append_assoc]
   congr 1
   rw [List.drop_eq_getElem_cons (by simp; omega), List.getElem_set_self, List.drop_set_of_lt (by omega)]
   rfl
  ·have : u = 0 := by omega
   subst this
   rw [if_neg (by omega)]
   exact ⟨bs, at_ + 1, rfl, h1, h2, by simp [hiE]⟩
theorem hiE_len : ∀ (k u : Nat), u < 128 ^ k → (hiE u).length ≤ k
 | 0, u, h => by
  have : u = 0 := by omega
  subst this
  simp [hiE]
 | k + 1, u, h => by
  by_cases h0 : 0 < u
  ·rw [hiE_pos h0]
   have := hiE_len k (u / 128) (Nat.div_lt_of_lt_mul (by rw [Nat.pow_succ, Nat.mul_comm] at h; exact h))
   simp only [List.length_append, List.length_cons, List.length_nil]
   omega
  ·have : u = 0 := by omega
   subst this
   simp [hiE]
theorem encN_len {n : Nat} (h : n ≤ 9223372036854775807) : (encN n).length ≤ 10 := by
 have := hiE_len 9 (n / 128) (by omega)
 unfold encN
 simp only [List.length_append, List.length_cons, List.length_nil]
 omega
theorem and127 (u : Nat) (h : u ≤ 9223372036854775807) : bits .and .u64 (u : Int) 127 = ((u % 128 : Nat) : Int) := by
 unfold bits
 have e : ((BitVec.ofInt IntKind.u64.bits (u : Int)) &&& (BitVec.ofInt IntKind.u64.bits 127)).toNat = u % 128 := by
  rw [BitVec.toNat_and]
  have h1 : (BitVec.ofInt IntKind.u64.bits (u : Int)).toNat = u := by
   simp only [BitVec.toNat_ofInt, IntKind.bits]
   omega
  have h2 : (BitVec.ofInt IntKind.u64.bits 127).toNat = 2 ^ 7 - 1 := by decide
  rw [h1, h2, Nat.and_two_pow_sub_one_eq_mod]
 simp only [e]
 exact wrap_in (by simp only [lo, hi]; omega)
theorem or128 (m : Nat) (h : m < 128) : bits .or .u8 (m : Int) 128 = ((UInt8.ofNat (m + 128)).toNat : Int) := by
 have : ∀ k : Fin 128, bits .or .u8 (k.val : Int) 128 = ((UInt8.ofNat (k.val + 128)).toNat : Int) := by decide
 exact this ⟨m, h⟩
theorem shr7 (u : Nat) : Int.fdiv (u : Int) (2 ^ (min (7 : Int).toNat IntKind.u64.bits)) = ((u / 128 : Nat) : Int) := by
 rw [show (2 : Int) ^ (min (7 : Int).toNat IntKind.u64.bits) = ((128 : Nat) : Int) by decide]
 exact Int.ofNat_fdiv u 128 |>.symm
theorem u8s_put (bs : Str) (k : Nat) (c : UInt8) (hk : k < bs.length) : (u8s bs).take k ++ [Value.int .u8 (c.toNat : Int)] ++ (u8s bs).drop (k + 1) = u8s (bs.set k c) := by
 rw [List.set_eq_take_append_cons_drop, if_pos hk]
 simp [u8s]
theorem f139_nat {a0 : Nat} (h : a0 ≤ 4611686018427387903) : Spec Tryz.prog 139 [.int .i64 (a0 : Int)] [] (fun v fs => v = .int .u64 ((2 * a0 : Nat) : Int) ∧ fs = []) := by
 refine spec_start (N := 12) Tryz.func139 (by kernel_rfl) rfl rfl rfl ?_
 intro g hS
 refine s_sr ?_
 refine s_as rfl ?_
 refine s_ntsr ?_
 refine s_mv rfl ?_
 refine at_lt (lt_convint (a := (a0 : Int)) rfl (by rw [kw_u3]; rfl) kw_u130 (by simp only [lo, hi]; omega)) rfl ?_
 refine at_lt (lt_shl rfl rfl (by decide)) rfl ?_
 rw [show IntKind.u64.wrap ((a0 : Int) * 2 ^ (min (1 : Int).toNat IntKind.u64.bits)) = ((2 * a0 : Nat) : Int) by rw [show (2 : Int) ^ (min (1 : Int).toNat IntKind.u64.bits) = 2 by decide, wrap_in (by simp only [lo, hi]; omega)]; omega]
 refine s_as rfl ?_
 refine s_nt ?_
 refine at_seq ?_
 refine s_sr ?_
 refine s_mv rfl ?_
 refine at_lt (lt_lss rfl rfl) rfl ?_
 refine s_nt ?_
 refine at_false rfl (decide_eq_false (by omega)) ?_
 refine at_skip ?_
 refine s_tsr ?_
 refine s_mv rfl ?_
 refine s_as rfl ?_
 refine s_nt ?_
 refine at_ret ?_
 exact at_return (.int .u64 ((2 * a0 : Nat) : Int)) [] hS Tryz.results139 (.cons (.tmp rfl) .nil) rfl rfl ⟨rfl, rfl⟩
theorem cells149 : u8s (List.replicate 10 (0 : UInt8)) = [.int .u8 0, .int .u8 0, .int .u8 0, .int .u8 0, .int .u8 0, .int .u8 0, .int .u8 0, .int .u8 0, .int .u8 0, .int .u8 0] := rfl
def postW (xs : Str) (n m : Nat) (v : Value) (rw : List Row) (fs : List Fact) : Prop := ∃ i', rw = [⟨v, 5, 1, n + m, i'⟩] ∧ fs = [Ty.u8.row xs i']
theorem f118_spec {n : Nat} {xs : Str} {v : Value} {m : Nat} {i : List Value} (h : n ≤ 4611686018427387903) (hl : xs.length + 10 ≤ 140737488355328) :
  SpecG Tryz.prog 118 [v, .int .i64 (n : Int)] [⟨v, 5, 1, m, i⟩] [Ty.u8.row xs i] (postW (xs ++ encN (2 * n)) m (encN (2 * n)).length) := by
 obtain ⟨bs', at', e1, e2, e3, e4⟩ := encL_eq 9 ((List.replicate 10 (0 : UInt8)).set 9 (UInt8.ofNat (2 * n % 128))) (2 * n / 128) (by simp) (by omega) (by omega) (by omega)
 have e5 : bs'.drop at' = encN (2 * n) := by rw [e4]; rfl
 refine specG_start (N := 33) Tryz.func118 (by kernel_rfl) rfl rfl rfl ?_
 intro g hS
 refine at_u8row 0 rfl (fun hin => ?_)
 refine at_rown 0 0 rfl rfl rfl (fun hn => ?_)
 refine s_sr ?_
 refine s_as rfl ?_
 refine s_ntsr ?_
 refine at_hv rfl ?_
 refine hv_alloc kw_t149 rfl rfl (fun b => ?_)
 refine s_ntsr ?_
 refine s_mv rfl ?_
 refine at_hv rfl ?_
 refine hv_call0 [] (f139_nat h) rfl rfl rfl rfl ?_
 rintro _ _ ⟨rfl, rfl⟩
 refine s_as rfl ?_
 refine s_ntsr ?_
 refine s_as rfl ?_
 refine s_ntsr ?_
 refine s_mv rfl ?_
 refine s_mv rfl ?_
 refine at_lt (lt_and rfl rfl) rfl ?_
 rw [and127 (2 * n) (by omega)]
 refine at_lt (lt_convint rfl (by rw [kw_u130]; rfl) kw_u5 (by simp only [lo, hi]; omega)) rfl ?_
 refine at_lt (lt_aidx 9 rfl rfl rfl rfl kw_u149 kw_t5 rfl) rfl ?_
 refine at_hv rfl ?_
 refine hv_store_box 0 (cs' := u8s ((List.replicate 10 (0 : UInt8)).set 9 (UInt8.ofNat (2 * n % 128)))) rfl rfl kw_t5 rfl ?_ rfl rfl rfl ?_
 ·have e : ((2 * n % 128 : Nat) : Int) = ((UInt8.ofNat (2 * n % 128)).toNat : Int) := by rw [UInt8.toNat_ofNat']; omega
  have hp := u8s_put (List.replicate 10 (0 : UInt8)) 9 (UInt8.ofNat (2 * n % 128)) (by decide)
  rw [← e, cells149] at hp
  exact hp
 refine s_nt ?_
 refine at_seq ?_
 refine s_sr ?_
 refine s_mv rfl ?_
 refine at_lt (lt_shr rfl rfl (by decide)) rfl ?_
 rw [shr7]
 refine s_as rfl ?_
 refine s_nt ?_
 refine at_cut (V := Unit) (fun _ => (⟨[(0, v), (5, .pointer (some (Addr.add ⟨b, 0, none⟩ 0))), (7, .int .i64 (at' : Int))], [⟨b, u8s bs', 149⟩], [⟨v, 5, 1, m, i⟩], [Ty.u8.row xs i]⟩ : St)) ?_ ?_
 ·refine at_block ?_
  refine at_loopW (σ := Str × Nat × Nat) (V := Unit) (r := (bs', at')) encL (fun s _ => (⟨[(0, v), (5, .pointer (some (Addr.add ⟨b, 0, none⟩ 0))), (6, .int .u64 (s.2.2 : Int)), (7, .int .i64 (s.2.1 : Int))], [⟨b, u8s s.1, 149⟩], [⟨v, 5, 1, m, i⟩], [Ty.u8.row xs i]⟩ : St)) (fun _ => rfl) _ _ () e1 ⟨⟨rfl, ⟨rfl, ⟨rfl, ⟨rfl, trivial⟩⟩⟩⟩, ⟨[true], rfl⟩, ⟨[true], rfl⟩, ⟨[0], rfl⟩⟩ ?_
  clear e1
  intro k s hr _
  obtain ⟨bs, at_, u⟩ := s
  rw [encL] at hr
  obtain ⟨⟨q1, q2, q3⟩, hr⟩ := imust hr
  change At _ _ (⟨[(0, v), (5, .pointer (some (Addr.add ⟨b, 0, none⟩ 0))), (6, .int .u64 (u : Int)), (7, .int .i64 (at_ : Int))], [⟨b, u8s bs, 149⟩], [⟨v, 5, 1, m, i⟩], [Ty.u8.row xs i]⟩ : St) _
  simp only [] at q1 q2 q3 hr
  refine at_seq ?_
  refine s_sr ?_
  refine s_mv rfl ?_
  refine at_lt (lt_gtr rfl rfl) rfl ?_
  refine s_nt ?_
  by_cases h0 : 0 < u
  ·replace hr := ipos h0 hr
   refine at_true rfl (decide_eq_true (by omega)) ?_
   refine at_skip ?_
   refine at_then ?_
   refine at_seq ?_
   refine at_block ?_
   refine s_sr ?_
   obtain ⟨h1, hr⟩ := imust hr
   obtain ⟨c, rfl⟩ : ∃ c, at_ = c + 1 := ⟨at_ - 1, by omega⟩
   refine s_mv rfl ?_
   refine at_lt (lt_sub rfl rfl (by simp only [lo, hi]; omega)) rfl ?_
   rw [show (((c + 1 : Nat) : Int) - 1) = (c : Int) by omega]
   refine s_as rfl ?_
   refine s_nt ?_
   refine at_region ?_
   refine s_mv rfl ?_
   refine s_mv rfl ?_
   refine at_lt (lt_and rfl rfl) rfl ?_
   rw [and127 u q3]
   refine at_lt (lt_convint rfl (by rw [kw_u130]; rfl) kw_u5 (by simp only [lo, hi]; omega)) rfl ?_
   refine at_lt (lt_or rfl rfl) rfl ?_
   rw [or128 (u % 128) (by omega)]
   refine at_lt (lt_aidx c rfl rfl rfl (by simp; omega) kw_u149 kw_t5 rfl) rfl ?_
   refine at_hv rfl ?_
   refine hv_store_box 0 (cs' := u8s (bs.set c (UInt8.ofNat (u % 128 + 128)))) rfl rfl kw_t5 rfl ?_ rfl ?_ rfl ?_
   ·have hp := u8s_put bs c (UInt8.ofNat (u % 128 + 128)) (by omega)
    rw [show 0 + c * 1 = c by omega]
    exact hp
   ·rw [u8s_len, q1]; simp; omega
   refine at_nil ?_
   refine at_in ?_
   refine s_tr ?_
   refine s_mv rfl ?_
   refine at_lt (lt_shr rfl rfl (by decide)) rfl ?_
   rw [shr7]
   refine s_as rfl ?_
   refine at_nil ?_
   exact at_again (σ := Str × Nat × Nat) (V := Unit) (lp := encL) (S := fun s _ => (⟨[(0, v), (5, .pointer (some (Addr.add ⟨b, 0, none⟩ 0))), (6, .int .u64 (s.2.2 : Int)), (7, .int .i64 (s.2.1 : Int))], [⟨b, u8s s.1, 149⟩], [⟨v, 5, 1, m, i⟩], [Ty.u8.row xs i]⟩ : St)) (bs.set c (UInt8.ofNat (u % 128 + 128)), c, u / 128) () hr ⟨⟨rfl, ⟨rfl, ⟨rfl, ⟨rfl, trivial⟩⟩⟩⟩, ⟨[true], rfl⟩, ⟨[true], rfl⟩, ⟨[0], rfl⟩⟩
  ·replace hr := ineg h0 hr
   refine at_false rfl (decide_eq_false (by omega)) ?_
   refine at_exit ?_
   refine at_then_exit ?_
   refine at_then_exit ?_
   refine at_in_exit ?_
   have hq := oinj hr
   injection hq with hq1 hq2
   subst hq1 hq2
   exact at_leaf () ⟨⟨rfl, ⟨rfl, ⟨rfl, trivial⟩⟩⟩, ⟨[true], rfl⟩, ⟨[true], rfl⟩, ⟨[0], rfl⟩⟩
 ·intro _
  refine s_tsr ?_
  refine s_mv rfl ?_
  refine s_mv rfl ?_
  refine at_lt (lt_asl rfl rfl rfl (by omega) kw_u149 kw_t5) rfl ?_
  have hlen : (encN (2 * n)).length = 10 - at' := by rw [← e5, List.length_drop, e2]
  have hnn : xs.length = m := hn.symm
  refine at_hv rfl ?_
  refine hv_append_b 0 0 (news := u8s (encN (2 * n))) rfl rfl rfl rfl (by rw [← e5]; simp [u8s]) (by rw [u8s_len, hlen]; simp) kw_u48 kw_t5 rfl rfl (List.all_eq_true.2 (u8s_one _)) (by omega) (by omega) rfl (fun v' => ?_)
  refine s_as rfl ?_
  refine s_nt ?_
  refine at_ret ?_
  refine at_mkrow (inner := i ++ u8s (encN (2 * n))) (xs ++ encN (2 * n)) (by rw [hin, u8s_app]) ?_
  exact at_returnG v' [true] [0] hS Tryz.results118 (.cons (.tmp rfl) .nil) rfl rfl rfl ⟨_, by rw [hlen]; rfl, rfl⟩
theorem f119_spec {a1 xs : Str} {v : Value} {m : Nat} {i : List Value} (h : a1.length ≤ 4611686018427387903) (hl : xs.length + a1.length + 20 ≤ 140737488355328) :
  SpecG Tryz.prog 119 [v, str a1] [⟨v, 5, 1, m, i⟩] [Ty.u8.row xs i] (postW (xs ++ encN (2 * a1.length) ++ a1) m ((encN (2 * a1.length)).length + a1.length)) := by
 have hen := encN_len (n := 2 * a1.length) (by omega)
 refine specG_start (N := 11) Tryz.func119 (by kernel_rfl) rfl rfl rfl ?_
 intro g hS
 refine at_rown 0 0 rfl rfl rfl (fun hn => ?_)
 refine s_sr ?_
 refine s_as rfl ?_
 refine s_ntsr ?_
 refine s_mv rfl ?_
 refine s_mv rfl ?_
 refine at_lt (lt_slen rfl kw_u9) rfl ?_
 refine at_hv rfl ?_
 refine hv_callG0 [true] [0] (f118_spec (n := a1.length) h (by omega)) rfl rfl rfl rfl rfl rfl ?_
 rintro v1 _ _ ⟨i1, rfl, rfl⟩
 refine at_u8row 0 rfl (fun hin => ?_)
 refine s_mv rfl ?_
 refine at_hv rfl ?_
 refine hv_append_s 0 rfl rfl rfl kw_u48 kw_u9 kw_t5 rfl (by omega) (by omega) rfl (fun v' => ?_)
 refine s_as rfl ?_
 refine s_nt ?_
 refine at_ret ?_
 refine at_mkrow (inner := i1 ++ u8s a1) (xs ++ encN (2 * a1.length) ++ a1) (by simp only [hin, u8s_app]) ?_
 exact at_returnG v' [true] [0] hS Tryz.results119 (.cons (.tmp rfl) .nil) rfl rfl rfl ⟨_, by rw [Nat.add_assoc]; rfl, rfl⟩
def encT (s : Str) : Str := encN (2 * s.length) ++ s
theorem encI_len {a : Int} (h : a ≤ 4611686018427387903) : (encI a).length ≤ 10 := encN_len (by omega)
theorem f118_specI {a : Int} {xs : Str} {v : Value} {m : Nat} {i : List Value} (h : 0 ≤ a ∧ a ≤ 4611686018427387903 ∧ xs.length + 10 ≤ 140737488355328) :
  SpecG Tryz.prog 118 [v, .int .i64 a] [⟨v, 5, 1, m, i⟩] [Ty.u8.row xs i] (postW (xs ++ encI a) m (encI a).length) := by
 have := f118_spec (n := a.toNat) (xs := xs) (v := v) (m := m) (i := i) (by omega) h.2.2
 rw [Int.toNat_of_nonneg h.1] at this
 exact this
theorem f119_specI {a1 xs : Str} {v : Value} {m : Nat} {i : List Value} (h : xs.length + a1.length + 20 ≤ 140737488355328) :
  SpecG Tryz.prog 119 [v, str a1] [⟨v, 5, 1, m, i⟩] [Ty.u8.row xs i] (postW (xs ++ encT a1) m (encT a1).length) := by
 have := f119_spec (a1 := a1) (xs := xs) (v := v) (m := m) (i := i) (by omega) h
 unfold encT
 rw [List.length_append, ← List.append_assoc]
 exact this
theorem rowb118 {a : Int} {xs : Str} (h : 0 ≤ a ∧ a ≤ 4611686018427387903 ∧ xs.length + 10 ≤ 140737488355328) : (xs ++ encI a).length * Ty.u8.bytes ≤ 140737488355328 := by
 have := encI_len h.2.1
 rw [show Ty.u8.bytes = 1 from rfl, List.length_append]
 omega
theorem rowb119 {a1 xs : Str} (h : xs.length + a1.length + 20 ≤ 140737488355328) : (xs ++ encT a1).length * Ty.u8.bytes ≤ 140737488355328 := by
 have := encN_len (n := 2 * a1.length) (by omega)
 unfold encT
 rw [show Ty.u8.bytes = 1 from rfl, List.length_append, List.length_append]
 omega
def m63 (a0 a1 : Str) : Option Int := some (Lib.compareBytes a0 a1)
def post63 (r : Int) (v : Value) (fs : List Fact) : Prop := v = .int .i64 r ∧ fs = [((Ty.int .i64).fact r [.int .i64 r])]
theorem f63_spec {a0 a1 : Str} {s1 s2 : Value} {r : Int} (hr : m63 a0 a1 = some r) : Spec Tryz.prog 63 [s1, s2] [(Ty.slice Ty.u8).fact a0 [s1], (Ty.slice Ty.u8).fact a1 [s2]] (post63 r) := by
 refine spec_start (N := 8) Tryz.func63 (by kernel_rfl) rfl rfl rfl ?_
 intro g hS
 have hq := oinj hr
 subst hq
 refine s_sr ?_
 refine s_as rfl ?_
 refine s_ntsr ?_
 refine s_mv rfl ?_
 refine s_mv rfl ?_
 refine at_hv rfl ?_
 refine hv_callxf [0, 1] (ext_compare_s (a := a0) (b := a1) Tryz.func117 (by kernel_rfl) (by kernel_rfl) rfl rfl) rfl rfl rfl rfl ?_
 rintro _ _ ⟨rfl, rfl⟩
 refine s_as rfl ?_
 refine s_nt ?_
 refine at_ret ?_
 exact at_return (.int .i64 (Lib.compareBytes a0 a1)) [0] hS Tryz.results63 (.cons (.tmp rfl) .nil) rfl rfl ⟨rfl, rfl⟩
end Go.WK.S
