/- WK, part h: small lemmas that the printed proofs lean on: truth of bools, rows' lengths, cuts of strings, calls without captured values. No program in sight. -/
import Derived.Test.YteljaomifdnkkaaGreatDoorCompareKG
set_option linter.unusedSimpArgs false
set_option linter.unusedVariables false
namespace Go.WK
open Go.RowKit

theorem imust {α : Type} {c : Prop} [Decidable c] {a : Option α} {r : α} (h : (if c then a else none) = some r) : c ∧ a = some r := by
 by_cases hc : c
 ·exact ⟨hc, by rwa [if_pos hc] at h⟩
 ·rw [if_neg hc] at h; cases h
theorem bf {b : Bool} (h : ¬ b = true) : b = false := by simpa using h
theorem nt {b : Bool} (h : b = true) : (!b) = false := by simp [h]
theorem nf {b : Bool} (h : b = false) : (!b) = true := by simp [h]
theorem iso {P : Program} {t : Nat} {d : TypeDesc} (h : P.underlying t = some d) : (P.underlying t).isSome = true := by rw [h]; rfl
theorem cells_one {v : Value} (h : v.oneCell' = true) : v.cells.toList = [v] := by cases v <;> first | rfl | cases h
def pureF (p : Prop) : Fact := ⟨fun _ _ => p, fun h _ => h⟩
theorem allc {x : Value} {l : List Value} (h : x.oneCell' = true) (t : l.all Value.oneCell' = true) : (x :: l).all Value.oneCell' = true := by simp [h, t]
theorem gdq {b v want r : Bool} (h : b = v) (k : (v == want) = r) : (b == want) = r := by rw [h]; exact k
theorem row_one {v : Value} (h : ∃ a n c, v = .slice a n c) : v.oneCell' = true := by obtain ⟨a, n, c, rfl⟩ := h; rfl
theorem slice_len {α : Type} {E : Ty α} {xs : List α} (h : E.slice.inv xs) : xs.length ≤ 9223372036854775807 := h.1
theorem one1 {α : Type} {T : Ty α} (h : T.sz = 1) {F : Nat → Prop} {w : World} {x : α} {cs : List Value} (hR : T.R F w x cs) : ∃ s, cs = [s] := by
 have := T.len hR
 rw [h] at this
 match cs, this with
 | [s], _ => exact ⟨s, rfl⟩
theorem at?_get {α : Type} {xs : List α} {i : Int} {x : α} (h : at? xs i = some x) : xs[i.toNat]? = some x := by
 unfold at? at h
 split at h
 ·exact h
 ·cases h
theorem nat_at {α : Type} {xs : List α} {i : Nat} {x : α} (h : xs[i]? = some x) : xs[((i : Int)).toNat]? = some x := by simpa using h
theorem nat_at' {α : Type} {xs : List α} {i : Nat} {x : α} (h : xs[i]? = some x) : at? xs (i : Int) = some x := by rw [at?_nat]; exact h
theorem u8_in_i64 (c : UInt8) : lo .i64 ≤ (c.toNat : Int) ∧ (c.toNat : Int) ≤ hi .i64 := by have := c.toNat_lt; simp only [lo, hi]; omega
theorem u8_in_i32 (c : UInt8) : lo .i32 ≤ (c.toNat : Int) ∧ (c.toNat : Int) ≤ hi .i32 := by have := c.toNat_lt; simp only [lo, hi]; omega
theorem Ty.int_bytes {k : IntKind} : (Ty.int k).bytes = nb k := rfl
theorem Ty.u8_bytes : Ty.u8.bytes = 1 := rfl
theorem Ty.str_bytes : Ty.str.bytes = 16 := rfl
theorem Ty.bool_bytes : Ty.bool.bytes = 1 := rfl
theorem Ty.slice_bytes {α : Type} {E : Ty α} : E.slice.bytes = 24 := rfl

section
variable {P : Program} {st : St} {ty T : Nat} {x y : Operand} {pos : String} {aft : Array Edge} {dst : Option Nat} {gd : Option (Nat × Bool)}
def w8 (a : Int) : UInt8 := UInt8.ofNat (a % 256).toNat
theorem w8_toNat (a : Int) : ((w8 a).toNat : Int) = IntKind.u8.wrap a := by
 have h : IntKind.u8.wrap a = a % 256 := by simp [IntKind.wrap, IntKind.bits, IntKind.signed]
 rw [h]
 unfold w8
 rw [UInt8.toNat_ofNat']
 omega
theorem w8_in {a : Int} (h : 0 ≤ a ∧ a ≤ 255) : ((w8 a).toNat : Int) = a := by
 unfold w8
 rw [UInt8.toNat_ofNat']
 omega
theorem lt_u8 {o : Oper} {e : Int} (h : Lt P st o (.int .u8 (IntKind.u8.wrap e))) : Lt P st o (.int .u8 ((w8 e).toNat : Int)) := by rw [w8_toNat]; exact h
theorem lt_convu8 {src dt : Nat} {kd : IntKind} {a : Int} (hx : opv st.env x = some (.int kd a)) (hs : (P.underlying src).isSome = true) (ht : P.underlying dt = some (.int .u8)) :
  Lt P st ⟨dst, .convert src dt x, ty, pos, aft, gd⟩ (.int .u8 ((w8 a).toNat : Int)) := lt_u8 (lt_convw hx hs ht)
/-- Cuts of strings. -/
theorem cut_str (a : Str) (l h : Nat) : (⟨a.toArray⟩ : ByteArray).extract l h = ⟨((a.take h).drop l).toArray⟩ := by
 apply ByteArray.ext
 rw [ByteArray.data_extract]
 simp [List.extract_eq_take_drop, List.drop_take]
end

section
variable {P : Program} {Q : Exit → Act → World → Prop} {g : Gh} {N : Nat} {st : St} {K : Act → World → Prop} {d ty : Nat} {f : Operand} {xs : List Operand} {tys : Array TypeId} {pos : String} {aft : Array Edge} {gd : Option (Nat × Bool)}
theorem hv_call0 {gid : FuncId} {vs : List Value} {fs : List Fact} {post : Value → List Fact → Prop} (is : List Nat) (hc : Spec P gid vs fs post)
  (hf : opv st.env f = some (.func (.func gid) #[] #[])) (hx : opvs st.env xs = some vs) (hfs : sel st.fs is = fs) (hd : Nat.blt d N = true)
  (k : ∀ v fs', post v fs' → At g N (({ st with fs := fs' ++ st.fs } : St).put d v) K) :
  At g N st (fun a w => Oper.wp P ⟨some d, .call ⟨.value f, xs.toArray, tys⟩, ty, pos, aft, gd⟩ a w K Q) :=
 hv_call (caps := []) is (by simpa using hc) hf hx hfs hd k

/-- Ways meet behind a region and the choice that follows it. -/
theorem then_ex {V : Type} {S : V → St} {X : Act → World → Prop} (h2 : ∀ v, At g N (S v) X) (e : Exit) (a : Act) (w : World) (q : Exit.then (fun a w => ∃ v, Holds g N (S v) a w) Q e a w) : Exit.then X Q e a w := by
 cases e with
 | normal => obtain ⟨v, hv⟩ := q; exact (h2 v).on hv
 | _ => exact q
theorem then_self (e : Exit) (a : Act) (w : World) (q : Exit.then (Q .normal) Q e a w) : Q e a w := by
 cases e <;> exact q
theorem then_map {X Y : Act → World → Prop} (h : ∀ a w, X a w → Y a w) (e : Exit) (a : Act) (w : World) (q : Exit.then X Q e a w) : Exit.then Y Q e a w := by
 cases e with
 | normal => exact h a w q
 | _ => exact q
theorem at_cutR1 {V : Type} {c c2 : Code} (S : V → St) (h1 : At g N st (c.wp P (Exit.then (c2.wp P (Exit.then (fun a w => ∃ v, Holds g N (S v) a w) Q)) Q))) (h2 : ∀ v, At g N (S v) (Q .normal)) : At g N st (c.wp P (Exit.then (c2.wp P Q) Q)) :=
 h1.imp fun _ _ h => wp_mono h (then_map fun _ _ q => wp_mono q fun e a w q => then_self e a w (then_ex h2 e a w q))
/-- A guard on what was passed over itself. -/
theorem at_offu {ops : Array Oper} {rest : List Oper} {t j : Nat} {op : Op} {want : Bool} (hop : (ops[j]?).bind (·.dst) = some t) (hv : lk st.env t = some undef) (hd : Nat.blt d N = true) (k : At g N (st.put d undef) (wpList P ops Q rest)) :
  At g N st (wpList P ops Q (⟨some d, op, ty, pos, aft, some (j, want)⟩ :: rest)) := fun a w h1 h2 h3 h4 => by
 have hw : Region.wanted ⟨some d, op, ty, pos, aft, some (j, want)⟩ (yielded ops a.tmps) = false := by
  simp only [Region.wanted, yielded, hop, Option.bind_some, h3 t _ hv]
  rfl
 unfold wpList
 rw [hw]
 exact k _ w (by simpa [Act.put] using h1) (by simpa [Act.put] using h2) (lk_put h2 (by simpa using hd) h3) h4.put
theorem at_pure {p : Act → World → Prop} {q : Prop} (i : Nat) (hf : st.fs[i]? = some (pureF q)) (k : q → At g N st p) : At g N st p := fun a w h1 h2 h3 h4 =>
 k (h4.fcs _ (List.mem_of_getElem? hf)) a w h1 h2 h3 h4
theorem at_mkpure {p : Act → World → Prop} {q : Prop} (h : q) (k : At g N (st.addF (pureF q)) p) : At g N st p := at_know (pureF q) (fun _ _ => h) k
/-- A slice's value is one cell. -/
theorem at_one {p : Act → World → Prop} {α : Type} {T : Ty α} {xd : α} {v : Value} (i : Nat) (hf : st.fs[i]? = some (T.fact xd [v])) (k : v.oneCell' = true → At g N st p) : At g N st p := fun a w h1 h2 h3 h4 =>
 k (T.one (h4.fcs _ (List.mem_of_getElem? hf)) v (by simp)) a w h1 h2 h3 h4
/-- The length of a row of the call's own: what its facts say; its value's form. -/
theorem at_rown {p : Act → World → Prop} {α : Type} {E : Ty α} {ys : List α} (i j : Nat) {v : Value} {e n : Nat} {inner : List Value} (hi : st.rw[i]? = some ⟨v, e, E.sz, n, inner⟩) (hj : st.fs[j]? = some (E.row ys inner)) (hp : Nat.blt 0 E.sz = true)
  (k : n = ys.length → At g N st p) : At g N st p := fun a w h1 h2 h3 h4 => by
 have hok := (h4.rws _ (List.mem_of_getElem? hi)).1.1
 have hrow := (h4.fcs _ (List.mem_of_getElem? hj)).1
 simp only at hok
 rw [hrow] at hok
 exact k (Nat.eq_of_mul_eq_mul_right (by simpa using hp) hok).symm a w h1 h2 h3 h4
theorem at_rowv {p : Act → World → Prop} (i : Nat) {r : Row} (hi : st.rw[i]? = some r)
  (k : (∃ a c, r.v = .slice a r.n c) → At g N st p) : At g N st p := fun a w h1 h2 h3 h4 => by
 obtain ⟨A, c, hv, _⟩ := row_form (h4.rws _ (List.mem_of_getElem? hi)).1
 exact k ⟨A, c, hv⟩ a w h1 h2 h3 h4
end
section
variable {P : Program} {st : St} {ty : Nat} {x : Operand} {pos : String} {aft : Array Edge} {dst : Option Nat} {gd : Option (Nat × Bool)}
theorem lt_rlen {v : Value} {n m t e : Nat} (hx : opv st.env x = some v) (hv : ∃ a c, v = .slice a n c) (ht : P.underlying t = some (.slice e)) (hn : n = m) :
  Lt P st ⟨dst, .call ⟨.builtin .len, #[x], #[t]⟩, ty, pos, aft, gd⟩ (.int .i64 (m : Int)) := by
 obtain ⟨a, c, rfl⟩ := hv
 subst hn
 exact lt_len hx ht
end
end Go.WK
