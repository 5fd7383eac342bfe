/- WK, part s: what the methods of a builder of strings do with pointers and with the bytes behind a slice. No program in sight. -/
import Derived.Test.YteljaomifdnkkaaGreatDoorCompareKR
import Derived.Lib.Builder
import Derived.Lib.UnsafeStr
set_option linter.unusedSimpArgs false
set_option linter.unusedVariables false
namespace Go.WK
open Go.RowKit
set_option linter.unusedVariables false
set_option linter.unusedSimpArgs false

section
variable {P : Program} {st : St} {ty T yt : Nat} {x y : Operand} {pos : String} {aft : Array Edge} {dst : Option Nat} {gd : Option (Nat × Bool)}
theorem lt_nilCheck {p : Addr} (hx : opv st.env x = some (.pointer (some p))) : Lt P st ⟨dst, .nilCheck x, ty, pos, aft, gd⟩ (.pointer (some p)) :=
 fun a w h3 _ => by simp [execOp, eval_of h3 hx]
theorem eq_p0 {e : TypeId} (hT : P.underlying T = some (.pointer e)) (w : World) : (Op.equal T (.pointer none) (.pointer none)).run P w = .ok true w := by
 show (Op.equalIn (9999 + 1) T (.pointer none) (.pointer none)).run P w = _
 generalize 9999 = d
 simp [Op.equalIn, run_underlying hT]
theorem eq_p1 {e : TypeId} (hT : P.underlying T = some (.pointer e)) (p : Addr) (w : World) : (Op.equal T (.pointer (some p)) (.pointer none)).run P w = .ok false w := by
 show (Op.equalIn (9999 + 1) T (.pointer (some p)) (.pointer none)).run P w = _
 generalize 9999 = d
 simp [Op.equalIn, run_underlying hT]
theorem lt_eqp0 {e : TypeId} (hx : opv st.env x = some (.pointer none)) (hT : P.underlying T = some (.pointer e)) : Lt P st ⟨dst, .binOp .eql T x (.const (.pointer none)) yt, ty, pos, aft, gd⟩ (.bool true) :=
 fun a w h3 _ => by simp [execOp, eval_of h3 hx, show a.eval (.const (.pointer none)) = .pointer none from rfl, eqGuard, binOp, eq_p0 hT]
theorem lt_eqp1 {e : TypeId} {p : Addr} (hx : opv st.env x = some (.pointer (some p))) (hT : P.underlying T = some (.pointer e)) : Lt P st ⟨dst, .binOp .eql T x (.const (.pointer none)) yt, ty, pos, aft, gd⟩ (.bool false) :=
 fun a w h3 _ => by simp [execOp, eval_of h3 hx, show a.eval (.const (.pointer none)) = .pointer none from rfl, eqGuard, binOp, eq_p1 hT]
theorem lt_neqp {e : TypeId} {j : TypeInfo} {p : Addr} (hx : opv st.env x = some (.pointer (some p))) (hy : opv st.env y = some (.pointer (some p))) (hT : P.underlying T = some (.pointer e)) (he : P.info? e = some j) :
  Lt P st ⟨dst, .binOp .neq T x y yt, ty, pos, aft, gd⟩ (.bool false) := fun a w h3 _ => by
 have h := Lib.run_neq_ptr_same (P := P) w p hT he
 simp [execOp, eval_of h3 hx, eval_of h3 hy, eqGuard, h]
theorem lt_tounsafe {src dt t : TypeId} (i : Nat) {b : Nat} {cs : List Value} (hx : opv st.env x = some (.pointer (some ((⟨b, 0, none⟩ : Addr).add 0)))) (hb : st.bx[i]? = some ⟨b, cs, t⟩)
  (hs : P.underlying src = some (.pointer t)) (hd : P.underlying dt = some .unsafePointer) (ht : (P.info? t).map (·.size) = some 2) (hc : Nat.blt 0 cs.length = true) :
  Lt P st ⟨dst, .convert src dt x, ty, pos, aft, gd⟩ (.pointer (some ((⟨b, 0, none⟩ : Addr).add 0))) := fun a w h3 h4 => by
 obtain ⟨j, hj, hjs⟩ := Option.map_eq_some_iff.1 ht
 have hm := h4.bxs _ (List.mem_of_getElem? hb)
 unfold Box.ok at hm
 simp only at hm
 have hsh : w.shape? b = some (t, cs.length) := by simp [World.shape?, hm]
 rw [add_zero'] at hx ⊢
 have := Lib.run_to_unsafe (P := P) w (dst := dt) ⟨b, 0, none⟩ hs hd hj (by rw [hjs]; decide) hsh (by simpa using hc)
 simp [execOp, eval_of h3 hx, this]
theorem lt_fromunsafe {src dt t : TypeId} (i : Nat) {b : Nat} {cs : List Value} (hx : opv st.env x = some (.pointer (some ((⟨b, 0, none⟩ : Addr).add 0)))) (hb : st.bx[i]? = some ⟨b, cs, t⟩)
  (hs : P.underlying src = some .unsafePointer) (hd : P.underlying dt = some (.pointer t)) (ht : (P.info? t).map (·.size) = some 2) (hl : liesAt P P.depth t (cs.length / P.cellsOf t) 0 t 1 = true) :
  Lt P st ⟨dst, .convert src dt x, ty, pos, aft, gd⟩ (.pointer (some ((⟨b, 0, none⟩ : Addr).add 0))) := fun a w h3 h4 => by
 obtain ⟨j, hj, hjs⟩ := Option.map_eq_some_iff.1 ht
 have hm := h4.bxs _ (List.mem_of_getElem? hb)
 unfold Box.ok at hm
 simp only at hm
 have hsh : w.shape? b = some (t, cs.length) := by simp [World.shape?, hm]
 rw [add_zero'] at hx ⊢
 have := Lib.run_from_unsafe (P := P) w (src := src) ⟨b, 0, none⟩ hs hd hj hsh hl
 simp [execOp, eval_of h3 hx, this]
theorem lt_usd {p : Addr} {n c : Nat} {ts : TypeId} (hx : opv st.env x = some (.slice (some p) n (c + 1))) :
  Lt P st ⟨dst, .call ⟨.builtin .unsafeSliceData, #[x], #[ts]⟩, ty, pos, aft, gd⟩ (.pointer (some p)) := fun a w h3 _ => by
 have := Lib.run_unsafeSliceData_row (P := P) w #[ts] ty p n (c + 1) (by omega)
 simp [execOp, resolve, invoke, builtin, eval_of h3 hx, this]
end

section
variable {P : Program} {Q : Exit → Act → World → Prop} {g : Gh} {N : Nat} {st : St} {K : Act → World → Prop} {d ty : Nat} {f x y : Operand} {xs : List Operand} {tys : Array TypeId} {pos : String} {aft : Array Edge} {gd : Option (Nat × Bool)}
/-- A call of a function that hands its argument back. -/
theorem hv_same {gid : FuncId} {fn : Func} {v : Value} (hfn : P.funcs[gid]? = some fn) (hname : (fn.name == "runtime.NumGoroutine") = false)
  (hb : fn.body.isNone = true) (hn : Extern.findNext fn = none) (he : Extern.find fn = some Extern.AbiNoEscape.same)
  (hf : opv st.env f = some (.func (.func gid) #[] #[])) (hx : opv st.env x = some v) (hd : Nat.blt d N = true)
  (k : At g N (st.put d v) K) : At g N st (fun a w => Oper.wp P ⟨some d, .call ⟨.value f, #[x], tys⟩, ty, pos, aft, gd⟩ a w K Q) := by
 refine hv_step (fun _ : Unit => v) (fun _ => st) (fun a w h3 h4 => ⟨(), w, ?_, h4, rfl⟩) hd (fun _ => k)
 have hrun := run_callFunc_extern hfn hname hb hn he #[v] w
 rw [Lib.run_noEscape] at hrun
 simp only [execOp, resolve, eval_of h3 hf, Deferred.ofValue, Sem.run_bind, Sem.run_pure, Result.andThen_ok, invoke]
 simp [eval_of h3 hx, hrun]

theorem freeze_heap (w : World) (p : Addr) (n k : Nat) (hk : k ≠ p.block) : (w.freeze p n).heap[k]? = w.heap[k]? := by
 unfold World.freeze
 split
 ·rfl
 ·simp only [Array.getElem?_modify]
  rw [if_neg (Ne.symm hk)]
theorem freeze_size (w : World) (p : Addr) (n : Nat) : (w.freeze p n).heap.size = w.heap.size := by
 unfold World.freeze
 split <;> simp
theorem freeze_ext (w : World) (p : Addr) (n : Nat) : Ext (fun k => k = p.block) w (w.freeze p n) := by
 refine ⟨?_, ?_, ?_, by rw [freeze_size]; exact Nat.le_refl _, fun k _ hk => freeze_heap w p n k hk⟩ <;> unfold World.freeze <;> split <;> rfl

/-- The bytes of a row of the call's own as a string: the row is given up. -/
theorem hv_ustr (i : Nat) {v : Value} {e n c gb pt it : Nat} {inner : List Value} {s : Str} (hx : opv st.env x = some (.pointer (some ⟨gb, 0, none⟩))) (hy : opv st.env y = some (.int .i64 (s.length : Int)))
  (hv : v = .slice (some ⟨gb, 0, none⟩) n (c + 1)) (hi : st.rw[i]? = some ⟨v, e, 1, n, inner⟩) (hin : inner = u8s s) (h0 : s ≠ []) (hp : P.underlying pt = some (.pointer e)) (hc : P.cellsOf e = 1) (h63 : s.length ≤ 9223372036854775807) (hd : Nat.blt d N = true)
  (k : At g N (({ st with rw := st.rw.eraseIdx i } : St).put d (str s)) K) :
  At g N st (fun a w => Oper.wp P ⟨some d, .call ⟨.builtin .unsafeString, #[x, y], #[pt, it]⟩, ty, pos, aft, gd⟩ a w K Q) := by
 refine hv_step (fun _ : Unit => str s) (fun _ => { st with rw := st.rw.eraseIdx i }) (fun a w h3 h4 => ?_) hd (fun _ => k)
 have hmem := List.mem_of_getElem? hi
 have hilt := (List.getElem?_eq_some_iff.1 hi).1
 obtain ⟨hlen, hcase⟩ := (h4.rws _ hmem).1
 simp only at hlen hcase
 subst hin hv
 rw [u8s_len, Nat.mul_one] at hlen
 subst hlen
 have hpos : 0 < s.length := List.length_pos_iff.2 h0
 rcases hcase with ⟨a', _, hn⟩ | ⟨b, cap, cur, hv, hg, hcap, hmax, hsize, htake⟩
 ·omega
 ·injection hv with hv1 hv2 hv3
  injection hv1 with hv1
  injection hv1 with hv1
  subst hv1
  have hsh : w.shape? gb = some (e, cur.size) := by simp [World.shape?, hg]
  have hrun := Lib.run_unsafeString_row (P := P) w pt it ty e hp hc gb cur.size hsh s h0 (by rw [hsize]; omega) h63 (fun j x hj => by
   rw [add_b]
   have h1 : j < s.length := (List.getElem?_eq_some_iff.1 hj).1
   have h2 : cur.toList[j]? = some (.int .u8 (x.toNat : Int)) := by
    have h3 : (cur.toList.take (s.length * 1))[j]? = some (.int .u8 (x.toNat : Int)) := by rw [htake]; simp [u8s, hj]
    rw [List.getElem?_take_of_lt (by omega)] at h3
    exact h3
   simp [World.cell?, hg]
   simpa using h2)
  refine ⟨(), w.freeze ⟨gb, 0, none⟩ s.length, by simp [execOp, resolve, invoke, builtin, eval_of h3 hx, eval_of h3 hy, hrun, str], ?_, rfl⟩
  have hblk : Row.blk ⟨.slice (some ⟨gb, 0, none⟩) s.length (c + 1), e, 1, s.length, u8s s⟩ = some gb := rfl
  have hids := h4.sep
  have hidi : st.ids[st.bx.length + i]? = some (some gb) := by
   unfold St.ids
   rw [List.getElem?_append_right (by simp)]
   simp [hi, hblk]
  have hbox : ∀ b ∈ st.bx, b.b ≠ gb := by
   intro b hb he
   obtain ⟨j, hj⟩ := List.getElem?_of_mem hb
   have h1 : st.ids[j]? = some (some gb) := by
    unfold St.ids
    rw [List.getElem?_append_left (by simpa using (List.getElem?_eq_some_iff.1 hj).1), List.getElem?_map, hj, Option.map_some, he]
   have := pairwise_ne hids h1 hidi
   have := (List.getElem?_eq_some_iff.1 hj).1
   omega
  have hrow : ∀ r ∈ st.rw.eraseIdx i, r.blk ≠ some gb := by
   intro r hr he
   obtain ⟨j, hj⟩ := List.getElem?_of_mem hr
   rw [List.getElem?_eraseIdx] at hj
   have key : ∀ j', j' ≠ i → st.rw[j']? = some r → False := fun j' hne hj' => by
    have h1 : st.ids[st.bx.length + j']? = some (some gb) := by
     unfold St.ids
     rw [List.getElem?_append_right (by simp)]
     simp [hj', he]
    have := pairwise_ne hids h1 hidi
    omega
   split at hj
   ·exact key j (by omega) hj
   ·exact key (j + 1) (by omega) hj
  have hok := freeze_ext w ⟨gb, 0, none⟩ s.length
  refine h4.move (fun k => k = gb) hok (fun k hk => .inr ⟨_, hmem, by subst hk; exact hblk⟩) (fun b hb => ?_) (fun r hr => ?_) ?_ (fun k _ hk => ?_) (fun _ hf => .inl hf)
  ·exact ⟨box_keep (h4.bxs b hb).1 (freeze_heap w _ _ _ (hbox b hb)), (h4.bxs b hb).2⟩
  ·have hr' := List.mem_of_mem_eraseIdx hr
   exact ⟨row_keep (h4.rws r hr').1 (fun k hk => freeze_heap w _ _ _ (fun e => hrow r hr (by rw [hk, e]))), (h4.rws r hr').2⟩
  ·refine List.Pairwise.sublist ?_ hids
   unfold St.ids
   exact (List.Sublist.refl _).append ((List.eraseIdx_sublist _ _).map _)
  ·rcases hk with hk | ⟨r, hr, hk⟩
   ·exact .inl hk
   ·exact .inr ⟨r, List.mem_of_mem_eraseIdx hr, hk⟩
/-- A row with elements: its value's form. -/
theorem at_rowpos {p : Act → World → Prop} (i : Nat) {v : Value} {e sz n : Nat} {inner : List Value} (hi : st.rw[i]? = some ⟨v, e, sz, n, inner⟩) (h0 : 0 < n)
  (k : ∀ b c, v = .slice (some ⟨b, 0, none⟩) n (c + 1) → At g N st p) : At g N st p := fun a w h1 h2 h3 h4 => by
 obtain ⟨_, hcase⟩ := (h4.rws _ (List.mem_of_getElem? hi)).1
 rcases hcase with ⟨a', _, hn⟩ | ⟨b, cap, cur, hv, _⟩
 ·simp only at hn; omega
 ·exact k b cap hv a w h1 h2 h3 h4
theorem at_u8row {p : Act → World → Prop} (i : Nat) {xs : Str} {inner : List Value} (hf : st.fs[i]? = some (Ty.u8.row xs inner)) (k : inner = u8s xs → At g N st p) : At g N st p := fun a w h1 h2 h3 h4 =>
 k (u8row_inner (h4.fcs _ (List.mem_of_getElem? hf))) a w h1 h2 h3 h4
theorem at_mkrow {p : Act → World → Prop} (xs : Str) {inner : List Value} (h : inner = u8s xs) (k : At g N (st.addF (Ty.u8.row xs inner)) p) : At g N st p := at_know _ (fun _ _ => by subst h; exact u8s_row) k
end
end Go.WK
