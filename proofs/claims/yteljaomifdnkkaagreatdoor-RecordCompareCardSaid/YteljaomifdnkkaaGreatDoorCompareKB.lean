/- WK, part b: the steps of pure operations: whole numbers, bools, strings, lengths, conversions. No program in sight. -/
import Derived.Test.YteljaomifdnkkaaGreatDoorCompareKA
import Derived.IntWalk
import Derived.Laws.Strings
import Derived.Laws.Cover1
import Derived.Laws.Concat
set_option linter.unusedSimpArgs false
set_option linter.unusedVariables false
namespace Go.WK
open Go.RowKit
section
variable {P : Program} {st : St} {ty yt T : Nat} {x y : Operand} {pos : String} {aft : Array Edge} {dst : Option Nat} {gd : Option (Nat × Bool)}

theorem wrap_in {k : IntKind} {n : Int} (h : lo k ≤ n ∧ n ≤ hi k) : k.wrap n = n := by
 cases k <;> simp only [lo, hi] at h
 case i8 => simp [IntKind.wrap, IntKind.bits, IntKind.signed]; split <;> omega
 case i16 => simp [IntKind.wrap, IntKind.bits, IntKind.signed]; split <;> omega
 case i32 => exact IntWalk.i32_in n h
 case i64 => exact IntWalk.i64_in n h
 case u8 => exact IntWalk.u8_in n h
 case u16 => exact IntWalk.u16_in n h
 case u32 => exact IntWalk.u32_in n h
 case u64 => exact IntWalk.u64_in n h

theorem wrap_bd (k : IntKind) (n : Int) : lo k ≤ k.wrap n ∧ k.wrap n ≤ hi k := by
 cases k <;> simp [IntKind.wrap, IntKind.bits, IntKind.signed, lo, hi] <;> first | (split <;> omega) | omega

theorem guard_no {op : BinOp} {t : TypeId} {a b : Value} {w : World} (ha : a.oneCell' = true) (hn : a ≠ .nilIface) : (eqGuard op t x y a b).run P w = .ok () w := by
 unfold eqGuard
 cases op <;> cases a <;> first | (simp [Value.oneCell'] at ha; done) | (simp at hn; done) | (cases b <;> simp)

/-- A binary operation whose run is known. -/
theorem lt_bin {op : BinOp} {a b v : Value} (hx : opv st.env x = some a) (hy : opv st.env y = some b) (ha : a.oneCell' = true) (hn : a ≠ .nilIface)
  (hrun : ∀ w, (binOp op T a b).run P w = .ok v w)
  : Lt P st ⟨dst, .binOp op T x y yt, ty, pos, aft, gd⟩ (v) :=
 (fun a' w h3 _ => by simp [execOp, eval_of h3 hx, eval_of h3 hy, guard_no ha hn, hrun])

section ints
variable {kd : IntKind} {a b : Int} (hx : opv st.env x = some (.int kd a)) (hy : opv st.env y = some (.int kd b))
include hx hy
theorem lt_lss : Lt P st ⟨dst, .binOp .lss T x y yt, ty, pos, aft, gd⟩ ((.bool (decide (a < b)))) :=
 lt_bin hx hy rfl (by simp) (fun w => by rw [binOp_lss]; rfl)
theorem lt_leq : Lt P st ⟨dst, .binOp .leq T x y yt, ty, pos, aft, gd⟩ ((.bool (decide (a ≤ b)))) :=
 lt_bin hx hy rfl (by simp) (fun w => by rw [binOp_leq]; rfl)
theorem lt_gtr : Lt P st ⟨dst, .binOp .gtr T x y yt, ty, pos, aft, gd⟩ ((.bool (decide (b < a)))) :=
 lt_bin hx hy rfl (by simp) (fun w => by rw [binOp_gtr]; rfl)
theorem lt_geq : Lt P st ⟨dst, .binOp .geq T x y yt, ty, pos, aft, gd⟩ ((.bool (decide (b ≤ a)))) :=
 lt_bin hx hy rfl (by simp) (fun w => by rw [binOp_geq]; rfl)
theorem lt_eql : Lt P st ⟨dst, .binOp .eql T x y yt, ty, pos, aft, gd⟩ ((.bool (decide (a = b)))) :=
 lt_bin hx hy rfl (by simp) (fun w => by rw [binOp_eql]; rfl)
theorem lt_neq : Lt P st ⟨dst, .binOp .neq T x y yt, ty, pos, aft, gd⟩ ((.bool (!decide (a = b)))) :=
 lt_bin hx hy rfl (by simp) (fun w => by rw [binOp_neq]; rfl)
theorem lt_add (h : lo kd ≤ a + b ∧ a + b ≤ hi kd) : Lt P st ⟨dst, .binOp .add T x y yt, ty, pos, aft, gd⟩ ((.int kd (a + b))) :=
 lt_bin hx hy rfl (by simp) (fun w => by rw [binOp_add]; simp [Op.intArith, wrap_in h])
theorem lt_sub (h : lo kd ≤ a - b ∧ a - b ≤ hi kd) : Lt P st ⟨dst, .binOp .sub T x y yt, ty, pos, aft, gd⟩ ((.int kd (a - b))) :=
 lt_bin hx hy rfl (by simp) (fun w => by rw [binOp_sub]; simp [Op.intArith, wrap_in h])
theorem lt_mul (h : lo kd ≤ a * b ∧ a * b ≤ hi kd) : Lt P st ⟨dst, .binOp .mul T x y yt, ty, pos, aft, gd⟩ ((.int kd (a * b))) :=
 lt_bin hx hy rfl (by simp) (fun w => by rw [binOp_mul]; simp [Op.intArith, wrap_in h])
theorem lt_addw : Lt P st ⟨dst, .binOp .add T x y yt, ty, pos, aft, gd⟩ ((.int kd (kd.wrap (a + b)))) :=
 lt_bin hx hy rfl (by simp) (fun w => by rw [binOp_add]; simp [Op.intArith])
theorem lt_subw : Lt P st ⟨dst, .binOp .sub T x y yt, ty, pos, aft, gd⟩ ((.int kd (kd.wrap (a - b)))) :=
 lt_bin hx hy rfl (by simp) (fun w => by rw [binOp_sub]; simp [Op.intArith])
theorem lt_mulw : Lt P st ⟨dst, .binOp .mul T x y yt, ty, pos, aft, gd⟩ ((.int kd (kd.wrap (a * b)))) :=
 lt_bin hx hy rfl (by simp) (fun w => by rw [binOp_mul]; simp [Op.intArith])
theorem lt_and : Lt P st ⟨dst, .binOp .and T x y yt, ty, pos, aft, gd⟩ ((.int kd (bits .and kd a b))) :=
 lt_bin hx hy rfl (by simp) (fun w => by rw [binOp_and, intBits_and]; rfl)
theorem lt_or : Lt P st ⟨dst, .binOp .or T x y yt, ty, pos, aft, gd⟩ ((.int kd (bits .or kd a b))) :=
 lt_bin hx hy rfl (by simp) (fun w => by rw [binOp_or, intBits_or]; rfl)
end ints

theorem lt_not {b : Bool} (hx : opv st.env x = some (.bool b)) : Lt P st ⟨dst, .unOp .not T x, ty, pos, aft, gd⟩ (.bool (!b)) :=
 (fun a' w h3 _ => by simp [execOp, eval_of h3 hx, Op.unary])

/-! Strings -/
theorem size_str (l : Str) : (⟨l.toArray⟩ : ByteArray).size = l.length := by
 show l.toArray.size = _
 simp
theorem toList_str (l : Str) : (⟨l.toArray⟩ : ByteArray).toList = l := by rw [ByteArray.toList_eq]
theorem lt_seql {a b : Str} (hx : opv st.env x = some (str a)) (hy : opv st.env y = some (str b)) : Lt P st ⟨dst, .binOp .eql T x y yt, ty, pos, aft, gd⟩ (.bool (decide (a = b))) :=
 lt_bin hx hy rfl (by simp [str]) (fun w => by simp only [str]; rw [binOp_string_eql, toList_str, toList_str]; simp [Bool.beq_eq_decide_eq])
theorem lt_sneq {a b : Str} (hx : opv st.env x = some (str a)) (hy : opv st.env y = some (str b))
  : Lt P st ⟨dst, .binOp .neq T x y yt, ty, pos, aft, gd⟩ ((.bool (!decide (a = b)))) :=
 lt_bin hx hy rfl (by simp [str]) (fun w => by simp only [str]; rw [binOp_string_neq, toList_str, toList_str]; simp [Bool.beq_eq_decide_eq])
theorem str_append (a b : Str) : (⟨a.toArray⟩ : ByteArray) ++ ⟨b.toArray⟩ = ⟨(a ++ b).toArray⟩ := by
 apply ByteArray.ext
 rw [ByteArray.data_append]
 simp
theorem lt_sadd {a b : Str} (hx : opv st.env x = some (str a)) (hy : opv st.env y = some (str b)) (hl : a.length + b.length ≤ 9223372036854775807)
  : Lt P st ⟨dst, .binOp .add T x y yt, ty, pos, aft, gd⟩ ((str (a ++ b))) :=
 lt_bin hx hy rfl (by simp [str]) (fun w => by simp only [str]; rw [binOp_string_add, run_string_add_sum (h := by simpa [size_str] using hl), str_append])

/-! Conversions, lengths, indices of strings -/
theorem lt_convint {src dt : Nat} {kd kd' : IntKind} {a : Int} (hx : opv st.env x = some (.int kd a)) (hs : (P.underlying src).isSome = true) (ht : P.underlying dt = some (.int kd')) (h : lo kd' ≤ a ∧ a ≤ hi kd')
  : Lt P st ⟨dst, .convert src dt x, ty, pos, aft, gd⟩ ((.int kd' a)) :=
 (fun a' w h3 _ => by
  obtain ⟨u, hu⟩ := Option.isSome_iff_exists.1 hs
  simp [execOp, eval_of h3 hx, convert, run_underlying hu, run_underlying ht, Conv.intToInt, wrap_in h])
theorem lt_convw {src dt : Nat} {kd kd' : IntKind} {a : Int} (hx : opv st.env x = some (.int kd a)) (hs : (P.underlying src).isSome = true) (ht : P.underlying dt = some (.int kd'))
  : Lt P st ⟨dst, .convert src dt x, ty, pos, aft, gd⟩ ((.int kd' (kd'.wrap a))) :=
 (fun a' w h3 _ => by
  obtain ⟨u, hu⟩ := Option.isSome_iff_exists.1 hs
  simp [execOp, eval_of h3 hx, convert, run_underlying hu, run_underlying ht, Conv.intToInt])
theorem lt_slen {t : Nat} {a : Str} (hx : opv st.env x = some (str a)) (ht : P.underlying t = some .string)
  : Lt P st ⟨dst, .call ⟨.builtin .len, #[x], #[t]⟩, ty, pos, aft, gd⟩ ((.int .i64 a.length)) :=
 (fun a' w h3 _ => by simp [execOp, resolve, invoke, builtin, Builtin.len_, eval_of h3 hx, run_underlying ht, str, goInt, size_str])
theorem lt_len {t e n c : Nat} {A : Option Addr} (hx : opv st.env x = some (.slice A n c)) (ht : P.underlying t = some (.slice e))
  : Lt P st ⟨dst, .call ⟨.builtin .len, #[x], #[t]⟩, ty, pos, aft, gd⟩ ((.int .i64 n)) :=
 (fun a' w h3 _ => by simp [execOp, resolve, invoke, builtin, Builtin.len_, eval_of h3 hx, run_underlying ht, goInt])
theorem lt_sidx {t : Nat} {kd : IntKind} {i : Int} {a : Str} {c : UInt8} (hx : opv st.env x = some (str a)) (hy : opv st.env y = some (.int kd i)) (ht : P.underlying t = some .string) (h0 : 0 ≤ i) (hc : a[i.toNat]? = some c)
  : Lt P st ⟨dst, .index t x y, ty, pos, aft, gd⟩ ((.int .u8 c.toNat)) :=
 (fun a' w h3 _ => by
  obtain ⟨hlt, hget⟩ := List.getElem?_eq_some_iff.1 hc
  have : (⟨a.toArray⟩ : ByteArray)[i.toNat]? = some c := by
   rw [getElem?_pos (h := by simpa [size_str] using hlt)]
   congr 1
  simp [execOp, eval_of h3 hx, eval_of h3 hy, Instr.index, run_underlying ht, asIntOf, str, h0, this])
end
end Go.WK
